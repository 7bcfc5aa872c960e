/-
  The walk of icehouselaw21.small. Conditions: the response reads as its data say, its fields' texts take no more than the reach.
-/
import Derived.Test.YtjijdpdbkpknpaaLruScans
namespace Go.Proofs.Ytjijdpdbkpknpaa
open Go Go.RowKit

def acs (kind : Int) (h : Hd) (l : Loc) (A : Option Addr) (n c : Nat) : List Value := .int .i64 kind :: (hcs h l ++ [.slice A n c])
def smallB (h : Hd) (n : Nat) : Bool := decide (h.key.size ≤ 300) && (decide (h.bytes.length ≤ 2000) && (decide (h.fields.length ≤ 20) && (decide (h.names.length ≤ 20) && (decide (h.body.length ≤ 20) && (decide (n ≤ 10) && decide (costN h ≤ 1048576))))))
theorem smallB_ok {h : Hd} {n : Nat} (hs : smallB h n = true) : h.ok ∧ h.key.size ≤ 300 ∧ h.names.length ≤ 20 ∧ h.fields.length ≤ 20 ∧ h.body.length ≤ 20 ∧ h.bytes.length ≤ 2000 ∧ n ≤ 10 := by
  unfold smallB at hs
  simp only [Bool.and_eq_true, decide_eq_true_eq] at hs
  exact ⟨⟨by omega, by omega, by omega, by omega, by omega⟩, by omega, by omega, by omega, by omega, by omega, by omega⟩
/-- no text of a field is longer than the reach -/
def Reach (h : Hd) : Prop := ∀ e ∈ h.fields, e.1.size ≤ 140737488355328 ∧ e.2.size ≤ 140737488355328
theorem fcost_reach : ∀ (l : List (ByteArray × ByteArray)), (∀ e ∈ l, e.1.size ≤ 140737488355328 ∧ e.2.size ≤ 140737488355328) → fcost l ≤ l.length * 281474976710656
  | [], _ => by simp [fcost]
  | x :: r, h => by
    have h1 := h x List.mem_cons_self
    have := fcost_reach r (fun e he => h e (List.mem_cons_of_mem _ he))
    simp only [fcost, List.map_cons, List.sum_cons, List.length_cons] at this ⊢
    omega
theorem acs_one {kind : Int} {h : Hd} {l : Loc} {A : Option Addr} {n c : Nat} : ∀ u ∈ acs kind h l A n c, u.oneCell' = true := by
  intro u hu
  rcases List.mem_cons.1 hu with rfl | hu
  · rfl
  · rcases List.mem_append.1 hu with hu | hu
    · exact hcs_one u hu
    · rw [List.mem_singleton.1 hu]; rfl

theorem wpList_load_runW {P : Program} {ops : Array Oper} {rest : List Oper} {o : Oper} {a : Act} {w : World} {Q : Exit → Act → World → Prop} (hw : Region.wanted o (yielded ops a.tmps) = true) (ty : TypeId) (p : Operand) (ho : o.op = .load ty p) {x v : Value}
    (hl : (Instr.loadAt ty x).run P w = .ok v w) (hx : a.eval p = x) (h : wpList P ops Q rest (a.put o.dst v) w) : wpList P ops Q (o :: rest) a w := by
  unfold wpList
  rw [if_pos hw]
  left
  unfold Oper.wp execOp
  simp only [ho, hx, Sem.run_bind, hl, Result.andThen_ok, Sem.run_pure]
  exact h

set_option maxRecDepth 100000 in
set_option maxHeartbeats 2000000 in
theorem small_any (kind : Int) (h : Hd) (l : Loc) (A : Option Addr) (n c : Nat) (B : Nat) (w : World) (hf : Reads w B 2 l.af h.fields.length (flds h.fields)) (hB : B ≤ w.heap.size) (hr : Reach h) :
    Calls Try.prog 15 #[.agg (acs kind h l A n c).toArray] w fun e w' => e = .returned (.bool (smallB h n)) ∧ Below w.heap.size w w' := by
  have HBB : Hid (Blk (w.alloc (.cells (acs kind h l A n c).toArray 49)) w.heap.size 49 (acs kind h l A n c).toArray) := Blk.new _ _ _
  have HW1 : Hid (Below w.heap.size w (w.alloc (.cells (acs kind h l A n c).toArray 49))) := (Below.refl _ _).alloc (Nat.le_refl _) _
  obtain ⟨W1, hA1⟩ : ∃ W1, w.alloc (.cells (acs kind h l A n c).toArray 49) = W1 := ⟨_, rfl⟩
  rw [hA1] at HBB HW1
  have c1 : W1.cell? ⟨w.heap.size, 1, none⟩ = some (.string h.key) := HBB.out.cell 1
  have c17 : W1.cell? ⟨w.heap.size, 17, none⟩ = some (.slice l.ay h.bytes.length l.cy) := HBB.out.cell 17
  have c10 : W1.cell? ⟨w.heap.size, 10, none⟩ = some (.slice l.af h.fields.length l.cf) := HBB.out.cell 10
  have c3 : W1.cell? ⟨w.heap.size, 3, none⟩ = some (.slice l.an h.names.length l.cn) := HBB.out.cell 3
  have c16 : W1.cell? ⟨w.heap.size, 16, none⟩ = some (.slice l.ab h.body.length l.cb) := HBB.out.cell 16
  have c18 : W1.cell? ⟨w.heap.size, 18, none⟩ = some (.slice A n c) := HBB.out.cell 18
  have HLD : Hid ((Instr.loadAt 40 (.pointer (some ⟨w.heap.size, 1, none⟩))).run Try.prog W1 = .ok (.agg (hcs h l).toArray) W1) := load_held W1 _ h l (fun j v hv => by
    rw [add_flat, HBB.out.cell, List.getElem?_toArray]
    unfold acs
    rw [show 1 + j = j + 1 by omega, List.getElem?_cons_succ, List.getElem?_append_left (List.getElem?_eq_some_iff.1 hv).1]
    exact hv)
  have hsz1 := HW1.out.size
  have HFR := hide (hf.below (HW1.out.mono hB))
  clear hf HBB
  by_cases g0 : h.key.size ≤ 300
  case neg =>
    have t0 : decide (((h.key.size : Nat) : Int) ≤ 300) = false := decide_eq_false (by omega)
    have HS : Hid (smallB h n = false) := by show _ = _; unfold smallB; rw [decide_eq_false g0]; simp
    clear g0
    go_enter Try.func15, Try.ntmps15
    go_wp2
    go_ret
    rw [HS.out]
    exact ⟨rfl, HW1.out⟩
  by_cases g1 : h.bytes.length ≤ 2000
  case neg =>
    have t0 : decide (((h.key.size : Nat) : Int) ≤ 300) = true := decide_eq_true (by omega)
    have t1 : decide (((h.bytes.length : Nat) : Int) ≤ 2000) = false := decide_eq_false (by omega)
    have HS : Hid (smallB h n = false) := by show _ = _; unfold smallB; rw [decide_eq_false g1]; simp
    clear g0 g1
    go_enter Try.func15, Try.ntmps15
    go_wp2
    go_ret
    rw [HS.out]
    exact ⟨rfl, HW1.out⟩
  by_cases g2 : h.fields.length ≤ 20
  case neg =>
    have t0 : decide (((h.key.size : Nat) : Int) ≤ 300) = true := decide_eq_true (by omega)
    have t1 : decide (((h.bytes.length : Nat) : Int) ≤ 2000) = true := decide_eq_true (by omega)
    have t2 : decide (((h.fields.length : Nat) : Int) ≤ 20) = false := decide_eq_false (by omega)
    have HS : Hid (smallB h n = false) := by show _ = _; unfold smallB; rw [decide_eq_false g2]; simp
    clear g0 g1 g2
    go_enter Try.func15, Try.ntmps15
    go_wp2
    go_ret
    rw [HS.out]
    exact ⟨rfl, HW1.out⟩
  by_cases g3 : h.names.length ≤ 20
  case neg =>
    have t0 : decide (((h.key.size : Nat) : Int) ≤ 300) = true := decide_eq_true (by omega)
    have t1 : decide (((h.bytes.length : Nat) : Int) ≤ 2000) = true := decide_eq_true (by omega)
    have t2 : decide (((h.fields.length : Nat) : Int) ≤ 20) = true := decide_eq_true (by omega)
    have t3 : decide (((h.names.length : Nat) : Int) ≤ 20) = false := decide_eq_false (by omega)
    have HS : Hid (smallB h n = false) := by show _ = _; unfold smallB; rw [decide_eq_false g3]; simp
    clear g0 g1 g2 g3
    go_enter Try.func15, Try.ntmps15
    go_wp2
    go_ret
    rw [HS.out]
    exact ⟨rfl, HW1.out⟩
  by_cases g4 : h.body.length ≤ 20
  case neg =>
    have t0 : decide (((h.key.size : Nat) : Int) ≤ 300) = true := decide_eq_true (by omega)
    have t1 : decide (((h.bytes.length : Nat) : Int) ≤ 2000) = true := decide_eq_true (by omega)
    have t2 : decide (((h.fields.length : Nat) : Int) ≤ 20) = true := decide_eq_true (by omega)
    have t3 : decide (((h.names.length : Nat) : Int) ≤ 20) = true := decide_eq_true (by omega)
    have t4 : decide (((h.body.length : Nat) : Int) ≤ 20) = false := decide_eq_false (by omega)
    have HS : Hid (smallB h n = false) := by show _ = _; unfold smallB; rw [decide_eq_false g4]; simp
    clear g0 g1 g2 g3 g4
    go_enter Try.func15, Try.ntmps15
    go_wp2
    go_ret
    rw [HS.out]
    exact ⟨rfl, HW1.out⟩
  by_cases g5 : n ≤ 10
  case neg =>
    have t0 : decide (((h.key.size : Nat) : Int) ≤ 300) = true := decide_eq_true (by omega)
    have t1 : decide (((h.bytes.length : Nat) : Int) ≤ 2000) = true := decide_eq_true (by omega)
    have t2 : decide (((h.fields.length : Nat) : Int) ≤ 20) = true := decide_eq_true (by omega)
    have t3 : decide (((h.names.length : Nat) : Int) ≤ 20) = true := decide_eq_true (by omega)
    have t4 : decide (((h.body.length : Nat) : Int) ≤ 20) = true := decide_eq_true (by omega)
    have t5 : decide (((n : Nat) : Int) ≤ 10) = false := decide_eq_false (by omega)
    have HS : Hid (smallB h n = false) := by show _ = _; unfold smallB; rw [decide_eq_false g5]; simp
    clear g0 g1 g2 g3 g4 g5
    go_enter Try.func15, Try.ntmps15
    go_wp2
    go_ret
    rw [HS.out]
    exact ⟨rfl, HW1.out⟩
  have HCO : Hid (costN h ≤ 1152921504606846976) := by
    have := fcost_reach h.fields hr
    show 64 + h.key.size + h.bytes.length + fcost h.fields ≤ _
    omega
  have HC := hide (cost_any h l B W1 HFR.out (by omega) (by omega) HCO.out)
  have t0 : decide (((h.key.size : Nat) : Int) ≤ 300) = true := decide_eq_true (by omega)
  have t1 : decide (((h.bytes.length : Nat) : Int) ≤ 2000) = true := decide_eq_true (by omega)
  have t2 : decide (((h.fields.length : Nat) : Int) ≤ 20) = true := decide_eq_true (by omega)
  have t3 : decide (((h.names.length : Nat) : Int) ≤ 20) = true := decide_eq_true (by omega)
  have t4 : decide (((h.body.length : Nat) : Int) ≤ 20) = true := decide_eq_true (by omega)
  have t5 : decide (((n : Nat) : Int) ≤ 10) = true := decide_eq_true (by omega)
  obtain ⟨b, hb⟩ : ∃ b, smallB h n = b := ⟨_, rfl⟩
  have hb2 : decide ((costN h : Int) ≤ 1048576) = b := by
    rw [← hb]
    unfold smallB
    rw [decide_eq_true g0, decide_eq_true g1, decide_eq_true g2, decide_eq_true g3, decide_eq_true g4, decide_eq_true g5]
    simp only [Bool.true_and]
    exact decide_eq_decide.2 (by omega)
  rw [hb]
  clear hb g0 g1 g2 g3 g4 g5
  have HC0 := HCO.out
  go_enter Try.func15, Try.ntmps15
  go_wp2_with (refine wpList_load_runW (by first | rfl | (simp [Region.wanted, yielded]; done)) 40 (.tmp 46) rfl HLD.out rfl ?_)
  refine (unhide HC).mono ?_
  rintro e w2 ⟨rfl, hb3⟩
  have HEND : Hid (Below w.heap.size w w2) := HW1.out.trans (hb3.mono hsz1)
  clear hb3
  go_wp2
  go_ret
  exact ⟨rfl, HEND.out⟩
end Go.Proofs.Ytjijdpdbkpknpaa
