/-
  Steps of a region that draws its order whose last operation alone writes: loads and stores by what they run to. Conditions: each step's own.
-/
import Derived.Test.YtogjdfiimflbaaaDevLong
import Derived.StillTailTactics
namespace Go.Proofs.Ytogjdfiimflbaaa
open Go Go.RowKit

section
variable {P : Program} {ops : Array Oper} {w : World} {a : Act} {o : Oper} {rest : List Oper}
theorem wpStill_run {Q : Act → Prop} {v : Value} (hgd : o.guard = none) (hr : (execOp a.eval o).run P w = .ok (.value v) w) (h : wpStill P ops w Q rest (a.put o.dst v)) : wpStill P ops w Q (o :: rest) a := by
  unfold wpStill
  rw [if_pos (by simp [Region.wanted, hgd])]
  unfold Oper.still
  rw [hr]
  exact (Oper.stillUpon_value ..).mpr h
theorem wpStill_load {Q : Act → Prop} {v x : Value} (hgd : o.guard = none) (ty : TypeId) (p : Operand) (ho : o.op = .load ty p) (hx : a.eval p = x) (hl : (Instr.loadAt ty x).run P w = .ok v w) (h : wpStill P ops w Q rest (a.put o.dst v)) : wpStill P ops w Q (o :: rest) a :=
  wpStill_run hgd (by
    unfold execOp
    simp only [ho, hx, Sem.run_bind, hl, Result.andThen_ok, Sem.run_pure]) h
theorem wpList_store_run {Q : Exit → Act → World → Prop} {X Y : Value} {w' : World} (hgd : o.guard = none) (ty : TypeId) (x y : Operand) (ho : o.op = .store ty x y) (hx : a.eval x = X) (hy : a.eval y = Y)
    (hs : (Instr.storeAt ty X Y).run P w = .ok () w') (h : wpList P ops Q rest (a.put o.dst undef) w') : wpList P ops Q (o :: rest) a w :=
  wpList_plain hgd fun _ hK => by
    unfold Oper.wp execOp
    simp only [ho, hx, hy, Sem.run_bind, hs, Result.andThen_ok, Sem.run_pure]
    exact hK _ _ h
theorem wpList_copy_run {Q : Exit → Act → World → Prop} {X Y v : Value} {w' : World} (hgd : o.guard = none) (t u : TypeId) (x y : Operand) (ho : o.op = .call { callee := .builtin .copy, args := #[x, y], argTypes := #[t, u] }) (hx : a.eval x = X) (hy : a.eval y = Y)
    (hs : (Builtin.copy_ #[t, u] o.type #[X, Y]).run P w = .ok v w') (h : wpList P ops Q rest (a.put o.dst v) w') : wpList P ops Q (o :: rest) a w :=
  wpList_plain hgd fun _ hK => by
    unfold Oper.wp execOp
    simp only [ho, resolve, invoke, builtin, Sem.run_bind, Sem.run_pure, Result.andThen_ok, List.map_toArray, List.map_cons, List.map_nil, hx, hy, hs]
    exact hK _ _ h
/-- the law of the kit's, the world behind the draw a letter -/
theorem region_tail {id : Nat} {Q : Exit → Act → World → Prop} {l : List Oper} (n : Nat) (hm : P.follows .mixedOrders = true) (hB : Region.lexTailB .any l.toArray n = true)
    (h : ∀ Y, Y = w.drew → wpStill P l.toArray Y (fun a' => wpList P l.toArray Q (l.drop n) a' Y) (l.take n) a) : (Code.region id l.toArray true).wp P Q a w :=
  wp_region_still_tail n hm hB (h _ rfl)
end

/-! A region whose last operation m writes what others load: what S says is asked behind every operation but m, which waits for each that is taken. -/
section
variable {P : Program} {ops : Array Oper} {Q : Exit → Act → World → Prop} {S : World → Prop} {m : Nat}
def wpAnyU (P : Program) (ops : Array Oper) (Q : Exit → Act → World → Prop) (S : World → Prop) (m : Nat) : Nat → Array Bool → Act → World → Prop
  | 0, L, a, w => Region.ready .any ops L = [] ∧ Q .normal a w
  | n + 1, L, a, w => (Region.ready .any ops L = [] → Q .normal a w) ∧
    ∀ i ∈ Region.ready .any ops L, wpOp P ops Q i (fun b x => (i ≠ m → S x) ∧ wpAnyU P ops Q S m n (L.setIfInBounds i true) b x) a w
theorem wpAny_of_U : ∀ (n : Nat) (L : Array Bool) (a : Act) (w : World), wpAnyU P ops Q S m n L a w → wpAny P .any ops Q n L a w
  | 0, _, _, _, h => h
  | n + 1, _, _, _, h => ⟨h.1, fun i hi => wpOp_mono (fun b x k => wpAny_of_U n _ b x k.2) (h.2 i hi)⟩
theorem region_U {id : Nat} {a : Act} {w : World} (S : World → Prop) (m : Nat) (hm : P.follows .mixedOrders = true)
    (h : ∀ Y, Y = w.drew → wpAnyU P ops Q S m ops.size (Array.replicate ops.size false) a Y) : (Code.region id ops true).wp P Q a w :=
  wp_region_any hm (wpAny_of_U _ _ _ _ (h _ rfl))
theorem unready {L : Array Bool} {i j : Nat} {o : Oper} (hi : i ∈ Region.ready .any ops L) (ho : ops[j]? = some o) (hw : ∃ e ∈ o.after, Region.binds .any e = true ∧ e.on = i) : j ∉ Region.ready .any ops L := fun hj => by
  obtain ⟨_, o', ho', hall⟩ := mem_ready.1 hj
  obtain rfl : o = o' := Option.some.inj (ho.symm.trans ho')
  obtain ⟨e, he, hb, hon⟩ := hw
  have h1 := hall e he hb
  rw [hon, getD_both (mem_ready.1 hi).1] at h1
  cases h1
theorem wpAnyU_first {i : Nat} {o om : Oper} {v : Value} (hi : ops[i]? = some o) (hsel : ∀ (j : Nat) (p : Oper) cs b, ops[j]? = some p → p.op ≠ .select cs b)
    (hom : ops[m]? = some om) (hmw : ∃ e ∈ om.after, Region.binds .any e = true ∧ e.on = i) (hQ : ∀ c a w, Q (.panic c) (a.put o.dst v) w → Q (.panic c) a w) :
    ∀ (n : Nat) (L : Array Bool) (a : Act) (w : World),
      (∀ j p, ops[j]? = some p → j ≠ i → L.getD j true = false → (∀ e ∈ p.after, Region.binds .any e = true → e.on ≠ i) → o.apart ops p = true) →
      i ∈ Region.ready .any ops L → YieldsIf P ops S o v a → S w → wpAnyU P ops Q S m n (L.setIfInBounds i true) (a.put o.dst v) w → wpAnyU P ops Q S m (n + 1) L a w
  | n, L, a, w, hfree, hr, hy, hS, H => by
    refine ⟨fun h0 => absurd hr (by rw [h0]; simp), fun j hj => ?_⟩
    rcases Nat.decEq j i with hji | hji
    case isTrue =>
      subst hji
      exact hy.wpOp hi hS ⟨fun _ => hS, H⟩
    case isFalse =>
      have hjm : j ≠ m := fun e => unready hr hom hmw (e ▸ hj)
      obtain ⟨hun, p, hp, hall⟩ := mem_ready.1 hj
      match n, H with
      | 0, H => exact absurd (ready_mono hj hji) (by rw [H.1]; simp)
      | n + 1, H =>
        have hno : ∀ e ∈ p.after, Region.binds .any e = true → e.on ≠ i := fun e he hb hon => by
          have h1 := hall e he hb
          rw [hon, getD_both (mem_ready.1 hr).1] at h1
          cases h1
        refine wpOp_mono (fun b x k => ?_) (wpOp_putIf hp (hfree j p hp hji hun hno) (fun cs b => hsel i o cs b hi) (fun cs b => hsel j p cs b hp) hQ hy (H.2 j (ready_mono hj hji)))
        obtain ⟨k1, k2, k3⟩ := k
        refine ⟨k2, wpAnyU_first hi hsel hom hmw hQ n _ b x (fun q r hq hqi hqu hqa => hfree q r hq hqi ?_ hqa) (ready_mono hr (Ne.symm hji)) k1 (k2 hjm) ?_⟩
        · by_cases hjq : j = q
          · rw [← hjq]; exact hun
          · rwa [getD_set_ne true hjq] at hqu
        · rw [Array.setIfInBounds_comm _ _ hji]
          exact k3
def waitsB (ops : Array Oper) (m i : Nat) : Bool := match ops[m]? with
  | some o => o.after.any fun e => Region.binds .any e && e.on == i
  | none => false
theorem waitsB_spec {i : Nat} (h : waitsB ops m i = true) : ∃ om, ops[m]? = some om ∧ ∃ e ∈ om.after, Region.binds .any e = true ∧ e.on = i := by
  unfold waitsB at h
  split at h
  · rename_i o ho
    obtain ⟨e, he, hb⟩ := Array.any_eq_true'.1 h
    simp only [Bool.and_eq_true, beq_iff_eq] at hb
    exact ⟨o, ho, e, he, hb.1, hb.2⟩
  · cases h
/-- number i is taken first -/
theorem takeU (i : Nat) (v : Value) {o : Oper} {n : Nat} {L : Array Bool} {a : Act} {w : World} (hi : ops[i]? = some o) (hc : (Region.noSelect ops && waitsB ops m i && Region.free .any ops L i && (Region.ready .any ops L).contains i) = true)
    (hQ : ∀ c a w, Q (.panic c) (a.put o.dst v) w → Q (.panic c) a w) (hw : Region.wanted o (yielded ops a.tmps) = true) (hy : ∀ x, S x → (execOp a.eval o).run P x = .ok (.value v) x) (hS : S w)
    (h : wpAnyU P ops Q S m n (L.setIfInBounds i true) (a.put o.dst v) w) : wpAnyU P ops Q S m (n + 1) L a w := by
  simp only [Bool.and_eq_true] at hc
  obtain ⟨⟨⟨h1, h2⟩, h3⟩, h4⟩ := hc
  obtain ⟨om, hom, hmw⟩ := waitsB_spec h2
  exact wpAnyU_first hi (Region.noSelect_spec h1) hom hmw hQ n L a w (Region.free_spec hi h3) (by simpa using h4) (.inl ⟨hw, hy⟩) hS h
/-- number i alone may come up -/
theorem oneU (i : Nat) {o : Oper} {n : Nat} {L : Array Bool} {a : Act} {w : World} (hi : ops[i]? = some o) (hr : Region.ready .any ops L = [i]) (hw : Region.wanted o (yielded ops a.tmps) = true)
    (h : o.wp P a w (fun b x => (i ≠ m → S x) ∧ wpAnyU P ops Q S m n (L.setIfInBounds i true) b x) Q) : wpAnyU P ops Q S m (n + 1) L a w :=
  ⟨fun h0 => absurd h0 (by rw [hr]; simp), fun j hj => by
    rw [hr] at hj
    obtain rfl : j = i := by simpa using hj
    exact wpOp_of hi hw h⟩
theorem doneU {L : Array Bool} {a : Act} {w : World} (hr : Region.ready .any ops L = []) (h : Q .normal a w) : ∀ n, wpAnyU P ops Q S m n L a w
  | 0 => ⟨hr, h⟩
  | _ + 1 => ⟨fun _ => h, by rw [hr]; simp⟩
theorem runU {o : Oper} {a : Act} {w x : World} {K : Act → World → Prop} {v : Value} (hr : (execOp a.eval o).run P w = .ok (.value v) x) (h : K (a.put o.dst v) x) : o.wp P a w K Q := by
  unfold Oper.wp
  rw [hr]
  exact h
theorem skipU {o : Oper} {a : Act} {w x : World} {K : Act → World → Prop} (hr : (execOp a.eval o).run P w = .ok .skip x) (h : K (a.put o.dst undef) x) : o.wp P a w K Q := by
  unfold Oper.wp
  rw [hr]
  exact h
end
end Go.Proofs.Ytogjdfiimflbaaa
