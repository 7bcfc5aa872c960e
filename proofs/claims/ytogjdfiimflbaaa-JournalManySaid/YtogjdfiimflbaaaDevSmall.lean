/-
  The device's small methods: there, Waiting, Limit, Fail, New; slices.Clone of ints. Condition: the device lies as its state says.
-/
import Derived.Test.YtogjdfiimflbaaaDevMem
namespace Go.Proofs.Ytogjdfiimflbaaa
open Go Go.RowKit

def thereB (S : DS) (at_ n : Int) : Bool := decide (0 ≤ at_ ∧ at_ ≤ S.kept.length ∧ 0 ≤ n ∧ n ≤ S.kept.length - at_)

set_option maxRecDepth 100000 in
set_option maxHeartbeats 1000000 in
theorem there_any (W : World) (B g : Nat) (S : DS) (h : DevAt W B g S) (at_ n : Int) (_hn : n ≤ 1099511627776) :
    Calls Try.prog 35 #[.pointer (some ⟨g, 0, none⟩), .int .i64 at_, .int .i64 n] W fun e W' => e = .returned (.bool (thereB S at_ n)) ∧ W = W' := by
  obtain ⟨gk, gn, bv, qv, h⟩ := h
  have r3 : W.cell? ⟨g, 3, none⟩ = some (.slice (some ⟨gk, 0, none⟩) S.kept.length S.kept.length) := h.dev.cell 3
  have hlen : S.kept.length ≤ 65536 := h.ok.2.2.2.2.1
  clear h
  have HT : Hid (thereB S at_ n = decide (0 ≤ at_ ∧ at_ ≤ S.kept.length ∧ 0 ≤ n ∧ n ≤ S.kept.length - at_)) := rfl
  generalize thereB S at_ n = tb at *
  generalize S.kept.length = len at *
  by_cases h1 : 0 ≤ at_
  · have t1 : decide (0 ≤ at_) = true := decide_eq_true h1
    by_cases h2 : at_ ≤ (len : Int)
    · have t2 : decide (at_ ≤ (len : Int)) = true := decide_eq_true h2
      by_cases h3 : 0 ≤ n
      · have t3 : decide (0 ≤ n) = true := decide_eq_true h3
        by_cases h4 : n ≤ (len : Int) - at_
        · have t4 : decide (n ≤ (len : Int) - at_) = true := decide_eq_true h4
          have HB : Hid (tb = true) := HT.out.trans (decide_eq_true ⟨h1, h2, h3, h4⟩)
          go_enter Try.func35, Try.ntmps35
          go_wp2
          go_ret
          exact ⟨by rw [HB.out]; rfl, rfl⟩
        · have t4 : decide (n ≤ (len : Int) - at_) = false := decide_eq_false h4
          have HB : Hid (tb = false) := HT.out.trans (decide_eq_false fun hh => h4 hh.2.2.2)
          go_enter Try.func35, Try.ntmps35
          go_wp2
          go_ret
          exact ⟨by rw [HB.out]; rfl, rfl⟩
      · have t3 : decide (0 ≤ n) = false := decide_eq_false h3
        have HB : Hid (tb = false) := HT.out.trans (decide_eq_false fun hh => h3 hh.2.2.1)
        go_enter Try.func35, Try.ntmps35
        go_wp2
        go_ret
        exact ⟨by rw [HB.out]; rfl, rfl⟩
    · have t2 : decide (at_ ≤ (len : Int)) = false := decide_eq_false h2
      have HB : Hid (tb = false) := HT.out.trans (decide_eq_false fun hh => h2 hh.2.1)
      go_enter Try.func35, Try.ntmps35
      go_wp2
      go_ret
      exact ⟨by rw [HB.out]; rfl, rfl⟩
  · have t1 : decide (0 ≤ at_) = false := decide_eq_false h1
    have HB : Hid (tb = false) := HT.out.trans (decide_eq_false fun hh => h1 hh.1)
    go_enter Try.func35, Try.ntmps35
    go_wp2
    go_ret
    exact ⟨by rw [HB.out]; rfl, rfl⟩



theorem info_int : (Try.prog.info? 3).map (fun i => (i.zero, i.size, i.bytes)) = some (some (.int .i64 0), 1, 8) := by kernel_rfl
theorem ints_one {l : List Int} : ∀ u ∈ ints l, u.oneCell' = true := by
  intro u hu
  simp only [ints, List.mem_map] at hu
  obtain ⟨b, _, rfl⟩ := hu
  rfl

/-- two stores into the device's own block: the count, and which fail -/
theorem DevIn.fail {W : World} {B g gk gn : Nat} {bv bv' qv : Value} {S : DS} (h : DevIn W B g gk gn bv qv S) (bad : List Int) (hb : bad.length ≤ 1048576) (ho : W.ownsRow B 3 1 bv' bad.length (ints bad)) :
    DevIn ((W.setCell ⟨g, 0, none⟩ (.int .i64 0)).setCell ⟨g, 1, none⟩ bv') B g gk gn bv' qv { S with n := 0, bad := bad } ∧ DKeep B W ((W.setCell ⟨g, 0, none⟩ (.int .i64 0)).setCell ⟨g, 1, none⟩ bv') := by
  obtain ⟨hS1, hS2, hS3, hS4, hS5, hS6, hS7, hS8, hS9, hS10, hS11⟩ := h.ok
  have far : ∀ (X : World) (i : Nat) (u : Value) (C : Array Value), Blk X g 54 C → ∀ q cs t, Blk X q t cs → t ≠ 54 → Blk (X.setCell ⟨g, i, none⟩ u) q t cs := fun X i u C hX q cs t hb ht => hb.far (fun e => Blk.ne_ hb hX ht (by exact e)) u
  have own : ∀ (X : World) (i : Nat) (u : Value) (C : Array Value), Blk X g 54 C → ∀ {e : TypeId} {s n : Nat} {v : Value} {xs : List Value}, X.ownsRow B e s v n xs → e ≠ 54 → (X.setCell ⟨g, i, none⟩ u).ownsRow B e s v n xs := fun X i u C hX e s n v xs ho he =>
    ho.kept (only_setCell (World.grownBy.refl X (some g)) (.inl rfl) u) (.inr (own_blk_ne ho hX he))
  have h1 := h.dev.set_ 0 (.int .i64 0)
  have h2 := h1.set_ 1 bv'
  have F : ∀ q cs t, Blk W q t cs → t ≠ 54 → Blk ((W.setCell ⟨g, 0, none⟩ (.int .i64 0)).setCell ⟨g, 1, none⟩ bv') q t cs := fun q cs t hb ht => far _ 1 _ _ h1 q cs t (far _ 0 _ _ h.dev q cs t hb ht) ht
  have O : ∀ {e : TypeId} {s n : Nat} {v : Value} {xs : List Value}, W.ownsRow B e s v n xs → e ≠ 54 → ((W.setCell ⟨g, 0, none⟩ (.int .i64 0)).setCell ⟨g, 1, none⟩ bv').ownsRow B e s v n xs := fun ho he => own _ 1 _ _ h1 (own _ 0 _ _ h.dev ho he) he
  refine ⟨⟨⟨hS1, hS2, hS3, hS4, hS5, hS6, hb, by show (0 : Int) ≤ 0; omega, by show (0 : Int) ≤ _; omega, hS10, hS11⟩, h.bg, h.bk, h.bn, h.ne, h2, F _ _ _ h.kept (by decide), F _ _ _ h.now (by decide), O ho (by decide), O h.queue (by decide)⟩, ?_, fun q cs t hb ht _ _ => F q cs t hb ht⟩
  exact ((Below.refl B W).setCell (p := ⟨g, 0, none⟩) h.bg _).setCell (p := ⟨g, 1, none⟩) h.bg _

end Go.Proofs.Ytogjdfiimflbaaa
