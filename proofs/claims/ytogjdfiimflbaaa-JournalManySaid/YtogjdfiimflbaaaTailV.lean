/-
  Steps of a region that draws its order whose last operation writes: it may wait for the others through others. Conditions: each step's own.
-/
import Derived.Test.YtogjdfiimflbaaaTailU
namespace Go.Proofs.Ytogjdfiimflbaaa
open Go Go.RowKit

section
variable {P : Program} {ops : Array Oper} {Q : Exit → Act → World → Prop} {S : World → Prop} {m : Nat}
/-- what is done has done before it all that it waits for -/
def ClosedU (ops : Array Oper) (L : Array Bool) : Prop := ∀ (j : Nat) (o : Oper), L.getD j false = true → ops[j]? = some o → ∀ e ∈ o.after, Region.binds .any e = true → L.getD e.on false = true
theorem ClosedU.set {L : Array Bool} (h : ClosedU ops L) {j : Nat} (hj : j ∈ Region.ready .any ops L) : ClosedU ops (L.setIfInBounds j true) := by
  intro k o hk ho e he hb
  obtain ⟨_, p, hp, hall⟩ := mem_ready.1 hj
  rcases Nat.decEq j k with hjk | hjk
  case isTrue =>
    subst hjk
    obtain rfl : p = o := Option.some.inj (hp.symm.trans ho)
    exact getD_set_true (hall e he hb)
  case isFalse =>
    rw [getD_set_ne false hjk] at hk
    exact getD_set_true (h k o hk ho e he hb)
def aheadB (ops : Array Oper) : Nat → Nat → Nat → Bool
  | 0, _, _ => false
  | f + 1, m, i => match ops[m]? with
    | some o => o.after.any fun e => Region.binds .any e && (e.on == i || aheadB ops f e.on i)
    | none => false
theorem aheadB_step {f m i : Nat} (h : aheadB ops (f + 1) m i = true) : ∃ o, ops[m]? = some o ∧ ∃ e ∈ o.after, Region.binds .any e = true ∧ (e.on = i ∨ aheadB ops f e.on i = true) := by
  unfold aheadB at h
  split at h
  · rename_i o ho
    obtain ⟨e, he, hb⟩ := Array.any_eq_true'.1 h
    simp only [Bool.and_eq_true, Bool.or_eq_true, beq_iff_eq] at hb
    exact ⟨o, ho, e, he, hb.1, hb.2⟩
  · cases h
theorem ahead_done {L : Array Bool} (hc : ClosedU ops L) {i : Nat} : ∀ (f m : Nat), aheadB ops f m i = true → L.getD m false = true → L.getD i false = true
  | 0, _, h, _ => by cases h
  | f + 1, m, h, hm => by
    obtain ⟨o, ho, e, he, hb, hor⟩ := aheadB_step h
    have h1 := hc m o hm ho e he hb
    rcases hor with rfl | hor
    · exact h1
    · exact ahead_done hc f e.on hor h1
theorem unreadyV {L : Array Bool} (hc : ClosedU ops L) {i f : Nat} (hi : i ∈ Region.ready .any ops L) (hw : aheadB ops f m i = true) : m ∉ Region.ready .any ops L := fun hm => by
  have hni := getD_both (mem_ready.1 hi).1
  obtain ⟨_, p, hp, hall⟩ := mem_ready.1 hm
  match f, hw with
  | f + 1, hw =>
    obtain ⟨o, ho, e, he, hb, hor⟩ := aheadB_step hw
    obtain rfl : p = o := Option.some.inj (hp.symm.trans ho)
    have h1 := hall e he hb
    rcases hor with rfl | hor
    · rw [h1] at hni; cases hni
    · rw [ahead_done hc f e.on hor h1] at hni; cases hni
theorem wpAnyV_first {i f : Nat} {o : Oper} {v : Value} (hi : ops[i]? = some o) (hsel : ∀ (j : Nat) (p : Oper) cs b, ops[j]? = some p → p.op ≠ .select cs b)
    (hmw : aheadB ops f m i = true) (hQ : ∀ c a w, Q (.panic c) (a.put o.dst v) w → Q (.panic c) a w) :
    ∀ (n : Nat) (L : Array Bool) (a : Act) (w : World), ClosedU ops L →
      (∀ j p, ops[j]? = some p → j ≠ i → L.getD j true = false → (∀ e ∈ p.after, Region.binds .any e = true → e.on ≠ i) → o.apart ops p = true) →
      i ∈ Region.ready .any ops L → YieldsIf P ops S o v a → S w → wpAnyU P ops Q S m n (L.setIfInBounds i true) (a.put o.dst v) w → wpAnyU P ops Q S m (n + 1) L a w
  | n, L, a, w, hC, hfree, hr, hy, hS, H => by
    refine ⟨fun h0 => absurd hr (by rw [h0]; simp), fun j hj => ?_⟩
    rcases Nat.decEq j i with hji | hji
    case isTrue =>
      subst hji
      exact hy.wpOp hi hS ⟨fun _ => hS, H⟩
    case isFalse =>
      have hjm : j ≠ m := fun e => unreadyV hC hr hmw (e ▸ hj)
      obtain ⟨hun, p, hp, hall⟩ := mem_ready.1 hj
      match n, H with
      | 0, H => exact absurd (ready_mono hj hji) (by rw [H.1]; simp)
      | n + 1, H =>
        have hno : ∀ e ∈ p.after, Region.binds .any e = true → e.on ≠ i := fun e he hb hon => by
          have h1 := hall e he hb
          rw [hon, getD_both (mem_ready.1 hr).1] at h1
          cases h1
        refine wpOp_mono (fun b x k => ?_) (wpOp_putIf hp (hfree j p hp hji hun hno) (fun cs b => hsel i o cs b hi) (fun cs b => hsel j p cs b hp) hQ hy (H.2 j (ready_mono hj hji)))
        obtain ⟨k1, k2, k3⟩ := k
        refine ⟨k2, wpAnyV_first hi hsel hmw hQ n _ b x (hC.set hj) (fun q r hq hqi hqu hqa => hfree q r hq hqi ?_ hqa) (ready_mono hr (Ne.symm hji)) k1 (k2 hjm) ?_⟩
        · by_cases hjq : j = q
          · rw [← hjq]; exact hun
          · rwa [getD_set_ne true hjq] at hqu
        · rw [Array.setIfInBounds_comm _ _ hji]
          exact k3
def closedB (ops : Array Oper) (L : Array Bool) : Bool := (List.range L.size).all fun j => !L.getD j false || match ops[j]? with
  | some o => o.after.all fun e => !Region.binds .any e || L.getD e.on false
  | none => true
theorem closedB_spec {L : Array Bool} (h : closedB ops L = true) : ClosedU ops L := by
  intro j o hj ho e he hb
  have hjL : j < L.size := by
    rcases Nat.lt_or_ge j L.size with k | k
    · exact k
    · simp [Array.getElem?_eq_none k] at hj
  have h1 := List.all_eq_true.1 h j (List.mem_range.2 hjL)
  rw [hj, ho] at h1
  simp only [Bool.not_true, Bool.false_or] at h1
  have h2 := Array.all_eq_true'.1 h1 e he
  rw [hb] at h2
  simpa using h2
/-- number i is taken first -/
theorem takeV (f : Nat) (i : Nat) (v : Value) {o : Oper} {n : Nat} {L : Array Bool} {a : Act} {w : World} (hi : ops[i]? = some o) (hc : (Region.noSelect ops && aheadB ops f m i && closedB ops L && Region.free .any ops L i && (Region.ready .any ops L).contains i) = true)
    (hQ : ∀ c a w, Q (.panic c) (a.put o.dst v) w → Q (.panic c) a w) (hw : Region.wanted o (yielded ops a.tmps) = true) (hy : ∀ x, S x → (execOp a.eval o).run P x = .ok (.value v) x) (hS : S w)
    (h : wpAnyU P ops Q S m n (L.setIfInBounds i true) (a.put o.dst v) w) : wpAnyU P ops Q S m (n + 1) L a w := by
  simp only [Bool.and_eq_true] at hc
  obtain ⟨⟨⟨⟨h1, h2⟩, hcl⟩, h3⟩, h4⟩ := hc
  exact wpAnyV_first hi (Region.noSelect_spec h1) h2 hQ n L a w (closedB_spec hcl) (Region.free_spec hi h3) (by simpa using h4) (.inl ⟨hw, hy⟩) hS h
end
end Go.Proofs.Ytogjdfiimflbaaa
