/-
  The device's small methods: there, Waiting, Limit, Fail, New; slices.Clone of ints. Condition: the device lies as its state says.
-/
import Derived.Test.YtenhjnicadjbaaaDoorDevMem
namespace Go.Proofs.YtenhjnicadjbaaaDoor
open Go Go.RowKit

def thereB (S : DS) (at_ n : Int) : Bool := decide (0 ≤ at_ ∧ at_ ≤ S.kept.length ∧ 0 ≤ n ∧ n ≤ S.kept.length - at_)

set_option maxRecDepth 100000 in
set_option maxHeartbeats 1000000 in
theorem there_any (W : World) (B g : Nat) (S : DS) (h : DevAt W B g S) (at_ n : Int) (_hn : n ≤ 1099511627776) :
    Calls Tryd.prog 54 #[.pointer (some ⟨g, 0, none⟩), .int .i64 at_, .int .i64 n] W fun e W' => e = .returned (.bool (thereB S at_ n)) ∧ W = W' := by
  obtain ⟨gk, gn, bv, qv, h⟩ := h
  have r3 : W.cell? ⟨g, 3, none⟩ = some (.slice (some ⟨gk, 0, none⟩) S.kept.length S.kept.length) := h.dev.cell 3
  have hlen : S.kept.length ≤ 65536 := h.ok.2.2.2.2.1
  clear h
  have HT : Hid (thereB S at_ n = decide (0 ≤ at_ ∧ at_ ≤ S.kept.length ∧ 0 ≤ n ∧ n ≤ S.kept.length - at_)) := rfl
  generalize thereB S at_ n = tb at *
  generalize S.kept.length = len at *
  by_cases h1 : 0 ≤ at_
  · have t1 : decide (0 ≤ at_) = true := decide_eq_true h1
    by_cases h2 : at_ ≤ (len : Int)
    · have t2 : decide (at_ ≤ (len : Int)) = true := decide_eq_true h2
      by_cases h3 : 0 ≤ n
      · have t3 : decide (0 ≤ n) = true := decide_eq_true h3
        by_cases h4 : n ≤ (len : Int) - at_
        · have t4 : decide (n ≤ (len : Int) - at_) = true := decide_eq_true h4
          have HB : Hid (tb = true) := HT.out.trans (decide_eq_true ⟨h1, h2, h3, h4⟩)
          go_enter Tryd.func54, Tryd.ntmps54
          go_wp2
          go_ret
          exact ⟨by rw [HB.out]; rfl, rfl⟩
        · have t4 : decide (n ≤ (len : Int) - at_) = false := decide_eq_false h4
          have HB : Hid (tb = false) := HT.out.trans (decide_eq_false fun hh => h4 hh.2.2.2)
          go_enter Tryd.func54, Tryd.ntmps54
          go_wp2
          go_ret
          exact ⟨by rw [HB.out]; rfl, rfl⟩
      · have t3 : decide (0 ≤ n) = false := decide_eq_false h3
        have HB : Hid (tb = false) := HT.out.trans (decide_eq_false fun hh => h3 hh.2.2.1)
        go_enter Tryd.func54, Tryd.ntmps54
        go_wp2
        go_ret
        exact ⟨by rw [HB.out]; rfl, rfl⟩
    · have t2 : decide (at_ ≤ (len : Int)) = false := decide_eq_false h2
      have HB : Hid (tb = false) := HT.out.trans (decide_eq_false fun hh => h2 hh.2.1)
      go_enter Tryd.func54, Tryd.ntmps54
      go_wp2
      go_ret
      exact ⟨by rw [HB.out]; rfl, rfl⟩
  · have t1 : decide (0 ≤ at_) = false := decide_eq_false h1
    have HB : Hid (tb = false) := HT.out.trans (decide_eq_false fun hh => h1 hh.1)
    go_enter Tryd.func54, Tryd.ntmps54
    go_wp2
    go_ret
    exact ⟨by rw [HB.out]; rfl, rfl⟩



theorem info_int : (Tryd.prog.info? 3).map (fun i => (i.zero, i.size, i.bytes)) = some (some (.int .i64 0), 1, 8) := by kernel_rfl
theorem ints_one {l : List Int} : ∀ u ∈ ints l, u.oneCell' = true := by
  intro u hu
  simp only [ints, List.mem_map] at hu
  obtain ⟨b, _, rfl⟩ := hu
  rfl

set_option maxRecDepth 100000 in
set_option maxHeartbeats 400000 in
theorem clone_ints (l : List Int) (A : Option Addr) (n c B : Nat) (w : World) (hn : n = l.length) (hl : l.length ≤ 1048576) (hB : B ≤ w.heap.size) (hA : Reads w B 1 A n (ints l)) :
    Calls Tryd.prog 59 #[.slice A n c] w fun e w' => ∃ v, e = .returned v ∧ w'.ownsRow w.heap.size 3 1 v l.length (ints l) ∧ Below w.heap.size w w' := by
  subst hn
  have hq := fun (W : World) => Lib.run_eql_slice_nil (P := Tryd.prog) W
  cases A with
  | none =>
    have h0 : l.length = 0 := by
      rcases Nat.eq_zero_or_pos l.length with h0 | h0
      · exact h0
      · obtain ⟨ad, e, _⟩ := hA.2 h0
        cases e
    obtain rfl : l = [] := List.eq_nil_of_length_eq_zero h0
    go_enter Tryd.func59, Tryd.ntmps59
    go_wp2
    go_ret
    exact ⟨_, rfl, World.ownsRow_nil _ _ _ _, Below.refl _ _⟩
  | some ad =>
    go_enter Tryd.func59, Tryd.ntmps59
    obtain ⟨i0, hi0, hz0, hz1, hz2⟩ := info_parts info_int
    go_wp2_with (at_builtin; refine wpList_append_any _ rfl (.tmp 5) (.tmp 6) _ rfl w.heap.size 3 i0 _ 1 8 Tryd.underlying60 hi0 hz0 hz1 hz2 rfl (by omega) (.slice (some ⟨w.heap.size, 0, none⟩) 0 0) 0 [] rfl (World.ownsRow_made w #[] 0 (Nat.le_refl _) (by simp only [maxLen]; omega) rfl) B (some ad) l.length c (ints l) rfl (Reads.alloc hA hB _) ints_one (by simp only [maxLen]; omega) (by omega) (by simp) ?_; intro v1 w1 hown1 hg1 hat1)
    rw [Nat.zero_add, List.nil_append] at hown1
    go_ret
    exact ⟨v1, rfl, hown1, (Below.alloc (Below.refl _ _) (Nat.le_refl _) _).grown hg1 (by simp) (fun k hk => by simp [Value.ownBlock] at hk; omega)⟩

/-- two stores into the device's own block: the count, and which fail -/
theorem DevIn.fail {W : World} {B g gk gn : Nat} {bv bv' qv : Value} {S : DS} (h : DevIn W B g gk gn bv qv S) (bad : List Int) (hb : bad.length ≤ 1048576) (ho : W.ownsRow B 3 1 bv' bad.length (ints bad)) :
    DevIn ((W.setCell ⟨g, 0, none⟩ (.int .i64 0)).setCell ⟨g, 1, none⟩ bv') B g gk gn bv' qv { S with n := 0, bad := bad } ∧ DKeep B W ((W.setCell ⟨g, 0, none⟩ (.int .i64 0)).setCell ⟨g, 1, none⟩ bv') := by
  obtain ⟨hS1, hS2, hS3, hS4, hS5, hS6, hS7, hS8, hS9, hS10, hS11⟩ := h.ok
  have far : ∀ (X : World) (i : Nat) (u : Value) (C : Array Value), Blk X g 92 C → ∀ q cs t, Blk X q t cs → t ≠ 92 → Blk (X.setCell ⟨g, i, none⟩ u) q t cs := fun X i u C hX q cs t hb ht => hb.far (fun e => Blk.ne_ hb hX ht (by exact e)) u
  have own : ∀ (X : World) (i : Nat) (u : Value) (C : Array Value), Blk X g 92 C → ∀ {e : TypeId} {s n : Nat} {v : Value} {xs : List Value}, X.ownsRow B e s v n xs → e ≠ 92 → (X.setCell ⟨g, i, none⟩ u).ownsRow B e s v n xs := fun X i u C hX e s n v xs ho he =>
    ho.kept (only_setCell (World.grownBy.refl X (some g)) (.inl rfl) u) (.inr (own_blk_ne ho hX he))
  have h1 := h.dev.set_ 0 (.int .i64 0)
  have h2 := h1.set_ 1 bv'
  have F : ∀ q cs t, Blk W q t cs → t ≠ 92 → Blk ((W.setCell ⟨g, 0, none⟩ (.int .i64 0)).setCell ⟨g, 1, none⟩ bv') q t cs := fun q cs t hb ht => far _ 1 _ _ h1 q cs t (far _ 0 _ _ h.dev q cs t hb ht) ht
  have O : ∀ {e : TypeId} {s n : Nat} {v : Value} {xs : List Value}, W.ownsRow B e s v n xs → e ≠ 92 → ((W.setCell ⟨g, 0, none⟩ (.int .i64 0)).setCell ⟨g, 1, none⟩ bv').ownsRow B e s v n xs := fun ho he => own _ 1 _ _ h1 (own _ 0 _ _ h.dev ho he) he
  refine ⟨⟨⟨hS1, hS2, hS3, hS4, hS5, hS6, hb, by show (0 : Int) ≤ 0; omega, by show (0 : Int) ≤ _; omega, hS10, hS11⟩, h.bg, h.bk, h.bn, h.ne, h2, F _ _ _ h.kept (by decide), F _ _ _ h.now (by decide), O ho (by decide), O h.queue (by decide)⟩, ?_, fun q cs t hb ht _ _ => F q cs t hb ht⟩
  exact ((Below.refl B W).setCell (p := ⟨g, 0, none⟩) h.bg _).setCell (p := ⟨g, 1, none⟩) h.bg _

set_option maxRecDepth 100000 in
set_option maxHeartbeats 400000 in
theorem fail_any (W : World) (B g : Nat) (S : DS) (h : DevAt W B g S) (l : List Int) (A : Option Addr) (n c : Nat) (hn : n = l.length) (hl : l.length ≤ 1048576) (hA : Reads W W.heap.size 1 A n (ints l)) : Calls Tryd.prog 39 #[.pointer (some ⟨g, 0, none⟩), .slice A n c] W fun e W' => e = .returned (.tuple #[]) ∧ DevAt W' B g { S with n := 0, bad := l } ∧ DKeep B W W' := by
  subst hn
  obtain ⟨gk, gn, bv, qv, h⟩ := h
  have H := hide h
  have HC := hide (clone_ints l A l.length c W.heap.size W rfl hl (Nat.le_refl _) hA)
  clear h hA
  go_enter Tryd.func39, Tryd.ntmps39
  go_wp2_with fail
  refine (unhide HC).mono ?_
  rintro e w1 ⟨v, rfl, ho, hb⟩
  have h1 := H.out.lift hb
  have r0 := h1.dev.cell 0
  have r1 := h1.dev.cell 1
  have f0 := h1.dev.frozen 0
  have f1 := h1.dev.frozen 1
  have HF := hide (h1.fail l hl (own_base ho (Nat.le_trans H.out.bg (Nat.le_of_lt H.out.dev.lt))))
  have HK := hide (DKeep.of_below hb (Nat.le_trans H.out.bg (Nat.le_of_lt H.out.dev.lt)))
  obtain ⟨Av, cv, rfl⟩ : ∃ Av cv, v = .slice Av l.length cv := by
    rcases ho.2 with ⟨rfl, h0⟩ | ⟨g, cap, cur, rfl, _⟩
    · exact ⟨none, 0, by rw [h0]⟩
    · exact ⟨_, _, rfl⟩
  clear h1 ho hb
  go_wp2
  go_end0
  exact ⟨rfl, ⟨gk, gn, _, qv, HF.out.1⟩, HK.out.trans HF.out.2⟩
end Go.Proofs.YtenhjnicadjbaaaDoor
