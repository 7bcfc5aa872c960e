/-
  Two caches apart in one memory; and what LruNone asks of lru's states. Conditions: each theorem's own.
-/
import Derived.Test.YtjijdpdbkpknpaaLruSmallA
import Derived.Test.YtjijdpdbkpknpaaLruNd
namespace Go.Proofs.Ytjijdpdbkpknpaa
open Go Go.RowKit

theorem CacheAt.keep {W W' : World} {M M2 : Nat → Prop} {g : Nat} {S : CS} (H : CacheAt W M2 g S) (hf : Fr M W W') (hd : ∀ q, M q → ¬ M2 q) : CacheAt W' M2 g S := by
  obtain ⟨C, vt, vr, Xt, Xr, h⟩ := H
  exact ⟨C, vt, vr, Xt, Xr, h.same (hf.same fun q hq => ⟨h.low q hq, fun e => hd q e hq⟩) hf.size⟩
def TwoOn (B : Nat) (W0 : World) (gc : Nat) (Sc : CS) (gd : Nat) (Sd : CS) (W : World) : Prop :=
  ∃ Mc Md, CacheAt W Mc gc Sc ∧ CacheAt W Md gd Sd ∧ (∀ q, Mc q → ¬ Md q) ∧ (∀ q, Mc q → B ≤ q) ∧ (∀ q, Md q → B ≤ q) ∧ Below B W0 W
section
variable {B gc gd : Nat} {W0 W W' : World} {Sc Sd S' : CS}
theorem TwoOn.swap (H : TwoOn B W0 gc Sc gd Sd W) : TwoOn B W0 gd Sd gc Sc W := by
  obtain ⟨Mc, Md, h1, h2, h3, h4, h5, h6⟩ := H
  exact ⟨Md, Mc, h2, h1, fun q a b => h3 q b a, h5, h4, h6⟩
theorem TwoOn.lift (H : TwoOn B W0 gc Sc gd Sd W) (hb : Below W.heap.size W W') (hB : B ≤ W0.heap.size) : TwoOn B W0 gc Sc gd Sd W' := by
  obtain ⟨Mc, Md, h1, h2, h3, h4, h5, h6⟩ := H
  exact ⟨Mc, Md, h1.lift hb, h2.lift hb, h3, h4, h5, h6.trans (hb.mono (Nat.le_trans hB h6.size))⟩
theorem TwoOn.below (H : TwoOn B W0 gc Sc gd Sd W) : Below B W0 W := by
  obtain ⟨Mc, Md, h1, h2, h3, h4, h5, h6⟩ := H
  exact h6
theorem TwoOn.to {Mc Md : Nat → Prop} (h2 : CacheAt W Md gd Sd) (h3 : ∀ q, Mc q → ¬ Md q) (h4 : ∀ q, Mc q → B ≤ q) (h5 : ∀ q, Md q → B ≤ q) (h6 : Below B W0 W) (hB : B ≤ W0.heap.size) (ht : CacheTo W Mc gc S' W') : TwoOn B W0 gc S' gd Sd W' := by
  obtain ⟨M', a, b, f⟩ := ht
  have hs := h6.size
  refine ⟨M', Md, a, h2.keep f h3, fun q hq hq2 => ?_, fun q hq => ?_, h5, h6.trans (f.below (by omega) h4)⟩
  · rcases b q hq with e | e
    · exact h3 q e hq2
    · have := h2.low q hq2; omega
  · rcases b q hq with e | e
    · exact h4 q e
    · omega
theorem put_two (H : TwoOn B W0 gc Sc gd Sd W) (hB : B ≤ W0.heap.size) (h : Hd) (l : Loc) (hh : HeldD W (fun q => q < B) h l) (hok : h.ok) (hn : Sc.trial.length + Sc.rest.length < 1000) :
    Calls Try.prog 10 #[.pointer (some ⟨gc, 0, none⟩), .agg (hcs h l).toArray] W fun e W' => StrsBack W (putS Sc h).2 e W' ∧ TwoOn B W0 gc (putS Sc h).1 gd Sd W' := by
  obtain ⟨Mc, Md, h1, h2, h3, h4, h5, h6⟩ := H
  have := h6.size
  refine (put_any h l _ h1 hh (fun q hq => ⟨by omega, fun e => by have := h4 q e; omega⟩) hok hn).mono ?_
  rintro e W' ⟨A, c, he, hr, ht⟩
  exact ⟨⟨A, c, he, hr⟩, TwoOn.to h2 h3 h4 h5 h6 hB ht⟩
theorem get_two (H : TwoOn B W0 gc Sc gd Sd W) (hB : B ≤ W0.heap.size) (k : ByteArray) (hn : Sc.trial.length + Sc.rest.length < 1000) :
    Calls Try.prog 12 #[.pointer (some ⟨gc, 0, none⟩), .string k] W fun e W' => Given W (getS Sc k).2 e W' ∧ TwoOn B W0 gc (getS Sc k).1 gd Sd W' := by
  obtain ⟨Mc, Md, h1, h2, h3, h4, h5, h6⟩ := H
  refine (get_any k h1 hn).mono ?_
  rintro e W' ⟨hg, ht⟩
  exact ⟨hg, TwoOn.to h2 h3 h4 h5 h6 hB ht⟩
theorem used_two (H : TwoOn B W0 gc Sc gd Sd W) : Calls Try.prog 14 #[.pointer (some ⟨gc, 0, none⟩)] W fun e W' => e = .returned (.int .i64 ((sumC Sc.trial + sumC Sc.rest : Nat) : Int)) ∧ ∃ n, W' = W.drewN n := by
  obtain ⟨Mc, Md, h1, h2, h3, h4, h5, h6⟩ := H
  exact used_on ⟨Mc, h1, h4, h6⟩
theorem TwoOn.one (H : TwoOn B W0 gc Sc gd Sd W) : CacheOn B W0 gc Sc W := by
  obtain ⟨Mc, Md, h1, h2, h3, h4, h5, h6⟩ := H
  exact ⟨Mc, h1, h4, h6⟩
end

/-! lengths -/
def CS.len (S : CS) : Nat := S.trial.length + S.rest.length
theorem len_del (k : ByteArray) (l : List Hd) : (del k l).length ≤ l.length := List.length_eraseIdx_le _ _
theorem len_shrinkR (b : Nat) : ∀ (r : List Hd), (shrinkR b r).1.length ≤ r.length
  | [] => Nat.le_refl _
  | x :: r => by
    unfold shrinkR
    split
    · exact Nat.le_refl _
    · have := len_shrinkR b r
      show (shrinkR b r).1.length ≤ r.length + 1
      omega
theorem len_shrinkT (b : Nat) (r : List Hd) : ∀ (t : List Hd), (shrinkT b r t).1.length ≤ t.length ∧ (shrinkT b r t).2.1.length ≤ r.length
  | [] => ⟨Nat.le_refl _, len_shrinkR b r⟩
  | x :: t => by
    unfold shrinkT
    split
    · exact ⟨Nat.le_refl _, Nat.le_refl _⟩
    · have := len_shrinkT b r t
      refine ⟨?_, this.2⟩
      show (shrinkT b r t).1.length ≤ t.length + 1
      omega
theorem len_put (S : CS) (x : Hd) : (putS S x).1.len ≤ S.len + 1 := by
  have a1 := len_del x.key S.trial
  have a2 := len_del x.key S.rest
  unfold putS CS.len
  split
  · show (del x.key S.trial).length + (del x.key S.rest).length ≤ _
    omega
  · split
    · have := len_shrinkT S.budget (del x.key S.rest ++ [x]) (del x.key S.trial)
      rw [List.length_append, List.length_singleton] at this
      show (shrinkT _ _ _).1.length + (shrinkT _ _ _).2.1.length ≤ _
      omega
    · have := len_shrinkT S.budget (del x.key S.rest) (del x.key S.trial ++ [x])
      rw [List.length_append, List.length_singleton] at this
      show (shrinkT _ _ _).1.length + (shrinkT _ _ _).2.1.length ≤ _
      omega
theorem len_bal (sh : Nat) : ∀ (r t : List Hd), (bal sh r t).1.length + (bal sh r t).2.length = t.length + r.length
  | [], t => rfl
  | x :: r, t => by
    unfold bal
    split
    · rfl
    · rw [len_bal sh r (t ++ [x]), List.length_append, List.length_singleton, List.length_cons]
      omega
theorem len_getK {k : ByteArray} {l : List Hd} {x : Hd} (h : getK k l = some x) : (del k l).length + 1 = l.length := by
  have hlt : atK k l < l.length := (List.getElem?_eq_some_iff.1 h).1
  unfold del
  rw [List.length_eraseIdx_of_lt hlt]
  omega
theorem len_get (S : CS) (k : ByteArray) : (getS S k).1.len = S.len := by
  unfold getS CS.len
  split
  · split
    · rename_i x hx
      have := len_getK hx
      show (bal _ _ _).1.length + (bal _ _ _).2.length = _
      rw [len_bal, List.length_append, List.length_singleton]
      omega
    · rfl
  · split
    · rename_i x hx
      have := len_getK hx
      show (bal _ _ _).1.length + (bal _ _ _).2.length = _
      rw [len_bal, List.length_append, List.length_singleton]
      omega
    · rfl
theorem nd_new (b s : Nat) : CS.nd ⟨b, s, [], []⟩ := fun k => by show 0 + 0 ≤ 1; omega
theorem drop_keys {S : CS} (hn : S.nd) : (dropS S (keysOf S.trial ++ keysOf S.rest)).2 = (keysOf S.trial ++ keysOf S.rest).length ∧ (dropS S (keysOf S.trial ++ keysOf S.rest)).1.trial = [] ∧ (dropS S (keysOf S.trial ++ keysOf S.rest)).1.rest = [] :=
  drop_all _ S hn fun k => by rw [kcnt_append, kcnt_keys, kcnt_keys]
theorem put_none (s : Nat) (h : Hd) : putS ⟨0, s, [], []⟩ h = (⟨0, s, [], []⟩, []) := by
  unfold putS
  rw [if_pos (by have := costN_ge h; show 0 < costN h; omega)]
  rfl
theorem built_act (h : Hd) (l : Loc) : Try.prog.built 49 [(1, .agg (hcs h l).toArray)] = some (acs 0 h l none 0 0).toArray := by kernel_rfl
theorem wpList_build_act {ops : Array Oper} {rest : List Oper} {o : Oper} {a : Act} {w : World} {Q : Exit → Act → World → Prop} (hgd : o.guard = none) (x : Operand) (ho : o.op = .build 49 #[(1, x)]) (h : Hd) (l : Loc) (hx : a.eval x = .agg (hcs h l).toArray)
    (hk : wpList Try.prog ops Q rest (a.put o.dst (.agg (acs 0 h l none 0 0).toArray)) w) : wpList Try.prog ops Q (o :: rest) a w :=
  wpList_plain hgd fun _ hK => by
    unfold Oper.wp execOp
    have := run_build (P := Try.prog) w 49 #[(1, .agg (hcs h l).toArray)] _ (built_act h l)
    simp only [ho, List.map_toArray, List.map_cons, List.map_nil, hx, Sem.run_bind, this, Result.andThen_ok]
    exact hK _ _ hk
end Go.Proofs.Ytjijdpdbkpknpaa
