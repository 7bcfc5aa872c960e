/-
  The walk of journal's settled. Conditions: the journal lies so.
-/
import Derived.Test.YtogjdfiimflbaaaJrTell
namespace Go.Proofs.Ytogjdfiimflbaaa
open Go Go.RowKit

/-- a journal's block and its device, as they are behind stores into it -/
def JW (W0 W : World) (B g c : Nat) (N : List (List UInt8)) (m j : Nat) (cs : Array Value) : Prop := B ≤ j ∧ DevC W B g c N m ∧ Blk W j 68 cs ∧ JKeep B W0 W ∧ PKeep W0 W
section
variable {W0 W : World} {B g c m j : Nat} {N : List (List UInt8)} {cs : Array Value}
theorem JW.set (h : JW W0 W B g c N m j cs) (i : Nat) (u : Value) : JW W0 (W.setCell ⟨j, i, none⟩ u) B g c N m j (cs.setIfInBounds i u) :=
  ⟨h.1, h.2.1.far h.2.2.1 (by decide) (by decide) (by decide) (by decide) u, h.2.2.1.set_ i u, h.2.2.2.1.trans (JKeep.set h.1 h.2.2.1 i u), h.2.2.2.2.trans (PKeep.set h.2.2.1 (by decide) i u)⟩
end
def setJ (J : JS) : JS := { J with m := bif decide (0 < J.count) then J.m + 1 else J.m, f := bif decide (0 < J.count) then J.next else J.f, a := bif decide (0 < J.count) then J.pos else J.a, base := J.pos, count := 0, owed := [] }
section
variable {W : World} {B T j g c m : Nat} {J : JS} {N : List (List UInt8)}
set_option maxRecDepth 100000 in
set_option maxHeartbeats 4000000 in
theorem settled_any (h : JAt W B T j g J) (hD : DevC W B g c N m) (hB : B ≤ W.heap.size) (hm : J.m + 1 < 65536) :
    Calls Try.prog 26 #[.pointer (some ⟨j, 0, none⟩)] W fun e W' => e = .returned (.tuple #[]) ∧ JAt W' B 0 j g (setJ J) ∧ DevC W' B g c N m ∧ JKeep B W W' ∧ PKeep W W' := by
  have hBj := h.1
  obtain ⟨A, co, hpa, hjb⟩ := h.cells
  have HJB := hide hjb
  have HD := hide hD
  clear h hD hpa hjb
  have HWR : Hid (IntKind.i64.wrap ((J.m : Int) + 1) = (J.m : Int) + 1) := (by rw [IntKind.wrap_i64]; omega : IntKind.i64.wrap ((J.m : Int) + 1) = (J.m : Int) + 1)
  have HSX : Hid (∀ x, Below W.heap.size W x → x.cell? ⟨j, 3, none⟩ = some (.int .i64 (J.m : Int)) ∧ x.cell? ⟨j, 6, none⟩ = some (.int .i64 (J.next : Int)) ∧ x.cell? ⟨j, 7, none⟩ = some (.int .i64 (J.pos : Int))) := fun x hx => by
    have hj := HJB.out.below hx HJB.out.lt
    exact ⟨hj.cell 3, hj.cell 6, hj.cell 7⟩
  have r11 : W.cell? ⟨j, 11, none⟩ = some (.int .i64 (J.count : Int)) := HJB.out.cell 11
  have HJW : Hid (JW W W B g c N m j (jrnC g J (.slice A J.owed.length co))) := ⟨hBj, HD.out, HJB.out, JKeep.refl _ _, PKeep.refl _⟩
  by_cases hcn : 0 < J.count
  · have t1 : decide ((J.count : Int) > 0) = true := decide_eq_true (by omega)
    have t2 : decide (J.count > 0) = true := decide_eq_true (by omega)
    go_enter Try.func26, Try.ntmps26
    go_wp2_with fail
    refine region_U (fun x => x.cell? ⟨j, 3, none⟩ = some (.int .i64 (J.m : Int)) ∧ x.cell? ⟨j, 6, none⟩ = some (.int .i64 (J.next : Int)) ∧ x.cell? ⟨j, 7, none⟩ = some (.int .i64 (J.pos : Int))) 18 (by kernel_rfl) ?_
    intro Y hY
    have HBY : Hid (Below W.heap.size W Y) := by rw [hY]; exact (Below.refl _ _).drew
    have HSY := hide (HSX.out Y HBY.out)
    clear hY
    refine takeV 19 0 (.pointer (some ⟨j, 0, none⟩)) rfl (by kernel_rfl) (fun _ _ _ h => h) (by rfl) (fun x hS => by
      obtain ⟨s1, s2, s3⟩ := hS
      go_simp) HSY.out ?_
    simp only [Act.put, List.getElem_toArray, List.getElem_cons_succ, List.getElem_cons_zero, List.setIfInBounds_toArray, List.set_cons_zero, List.set_cons_succ]
    refine takeV 19 1 (.pointer (some ⟨j, 0, none⟩)) rfl (by kernel_rfl) (fun _ _ _ h => h) (by rfl) (fun x hS => by
      obtain ⟨s1, s2, s3⟩ := hS
      go_simp) HSY.out ?_
    simp only [Act.put, List.getElem_toArray, List.getElem_cons_succ, List.getElem_cons_zero, List.setIfInBounds_toArray, List.set_cons_zero, List.set_cons_succ]
    refine takeV 19 2 (.pointer (some ⟨j, 0, none⟩)) rfl (by kernel_rfl) (fun _ _ _ h => h) (by rfl) (fun x hS => by
      obtain ⟨s1, s2, s3⟩ := hS
      go_simp) HSY.out ?_
    simp only [Act.put, List.getElem_toArray, List.getElem_cons_succ, List.getElem_cons_zero, List.setIfInBounds_toArray, List.set_cons_zero, List.set_cons_succ]
    refine takeV 19 3 (.pointer (some ⟨j, 3, none⟩)) rfl (by kernel_rfl) (fun _ _ _ h => h) (by rfl) (fun x hS => by
      obtain ⟨s1, s2, s3⟩ := hS
      go_simp) HSY.out ?_
    simp only [Act.put, List.getElem_toArray, List.getElem_cons_succ, List.getElem_cons_zero, List.setIfInBounds_toArray, List.set_cons_zero, List.set_cons_succ]
    refine takeV 19 4 (.pointer (some ⟨j, 3, none⟩)) rfl (by kernel_rfl) (fun _ _ _ h => h) (by rfl) (fun x hS => by
      obtain ⟨s1, s2, s3⟩ := hS
      go_simp) HSY.out ?_
    simp only [Act.put, List.getElem_toArray, List.getElem_cons_succ, List.getElem_cons_zero, List.setIfInBounds_toArray, List.set_cons_zero, List.set_cons_succ]
    refine takeV 19 5 (.int .i64 (J.m : Int)) rfl (by kernel_rfl) (fun _ _ _ h => h) (by rfl) (fun x hS => by
      obtain ⟨s1, s2, s3⟩ := hS
      go_simp) HSY.out ?_
    simp only [Act.put, List.getElem_toArray, List.getElem_cons_succ, List.getElem_cons_zero, List.setIfInBounds_toArray, List.set_cons_zero, List.set_cons_succ]
    refine takeV 19 6 (.int .i64 ((J.m : Int) + 1)) rfl (by kernel_rfl) (fun _ _ _ h => h) (by rfl) (fun x hS => by
      have hw := HWR.out
      go_simp) HSY.out ?_
    simp only [Act.put, List.getElem_toArray, List.getElem_cons_succ, List.getElem_cons_zero, List.setIfInBounds_toArray, List.set_cons_zero, List.set_cons_succ]
    refine takeV 19 7 (.pointer (some ⟨j, 0, none⟩)) rfl (by kernel_rfl) (fun _ _ _ h => h) (by rfl) (fun x hS => by
      obtain ⟨s1, s2, s3⟩ := hS
      go_simp) HSY.out ?_
    simp only [Act.put, List.getElem_toArray, List.getElem_cons_succ, List.getElem_cons_zero, List.setIfInBounds_toArray, List.set_cons_zero, List.set_cons_succ]
    refine takeV 19 8 (.pointer (some ⟨j, 0, none⟩)) rfl (by kernel_rfl) (fun _ _ _ h => h) (by rfl) (fun x hS => by
      obtain ⟨s1, s2, s3⟩ := hS
      go_simp) HSY.out ?_
    simp only [Act.put, List.getElem_toArray, List.getElem_cons_succ, List.getElem_cons_zero, List.setIfInBounds_toArray, List.set_cons_zero, List.set_cons_succ]
    refine takeV 19 9 (.pointer (some ⟨j, 6, none⟩)) rfl (by kernel_rfl) (fun _ _ _ h => h) (by rfl) (fun x hS => by
      obtain ⟨s1, s2, s3⟩ := hS
      go_simp) HSY.out ?_
    simp only [Act.put, List.getElem_toArray, List.getElem_cons_succ, List.getElem_cons_zero, List.setIfInBounds_toArray, List.set_cons_zero, List.set_cons_succ]
    refine takeV 19 10 (.int .i64 (J.next : Int)) rfl (by kernel_rfl) (fun _ _ _ h => h) (by rfl) (fun x hS => by
      obtain ⟨s1, s2, s3⟩ := hS
      go_simp) HSY.out ?_
    simp only [Act.put, List.getElem_toArray, List.getElem_cons_succ, List.getElem_cons_zero, List.setIfInBounds_toArray, List.set_cons_zero, List.set_cons_succ]
    refine takeV 19 11 (.pointer (some ⟨j, 0, none⟩)) rfl (by kernel_rfl) (fun _ _ _ h => h) (by rfl) (fun x hS => by
      obtain ⟨s1, s2, s3⟩ := hS
      go_simp) HSY.out ?_
    simp only [Act.put, List.getElem_toArray, List.getElem_cons_succ, List.getElem_cons_zero, List.setIfInBounds_toArray, List.set_cons_zero, List.set_cons_succ]
    refine takeV 19 12 (.pointer (some ⟨j, 0, none⟩)) rfl (by kernel_rfl) (fun _ _ _ h => h) (by rfl) (fun x hS => by
      obtain ⟨s1, s2, s3⟩ := hS
      go_simp) HSY.out ?_
    simp only [Act.put, List.getElem_toArray, List.getElem_cons_succ, List.getElem_cons_zero, List.setIfInBounds_toArray, List.set_cons_zero, List.set_cons_succ]
    refine takeV 19 13 (.pointer (some ⟨j, 7, none⟩)) rfl (by kernel_rfl) (fun _ _ _ h => h) (by rfl) (fun x hS => by
      obtain ⟨s1, s2, s3⟩ := hS
      go_simp) HSY.out ?_
    simp only [Act.put, List.getElem_toArray, List.getElem_cons_succ, List.getElem_cons_zero, List.setIfInBounds_toArray, List.set_cons_zero, List.set_cons_succ]
    refine takeV 19 14 (.int .i64 (J.pos : Int)) rfl (by kernel_rfl) (fun _ _ _ h => h) (by rfl) (fun x hS => by
      obtain ⟨s1, s2, s3⟩ := hS
      go_simp) HSY.out ?_
    simp only [Act.put, List.getElem_toArray, List.getElem_cons_succ, List.getElem_cons_zero, List.setIfInBounds_toArray, List.set_cons_zero, List.set_cons_succ]
    refine takeV 19 15 (.agg (markI ((J.m : Int) + 1) (J.next : Int) (J.pos : Int))) rfl (by kernel_rfl) (fun _ _ _ h => h) (by rfl) (fun x hS => by
      have hbu := build_mark x ((J.m : Int) + 1) (J.next : Int) (J.pos : Int)
      go_simp
      rfl) HSY.out ?_
    simp only [Act.put, List.getElem_toArray, List.getElem_cons_succ, List.getElem_cons_zero, List.setIfInBounds_toArray, List.set_cons_zero, List.set_cons_succ]
    refine takeV 19 16 (.pointer (some ⟨j, 0, none⟩)) rfl (by kernel_rfl) (fun _ _ _ h => h) (by rfl) (fun x hS => by
      obtain ⟨s1, s2, s3⟩ := hS
      go_simp) HSY.out ?_
    simp only [Act.put, List.getElem_toArray, List.getElem_cons_succ, List.getElem_cons_zero, List.setIfInBounds_toArray, List.set_cons_zero, List.set_cons_succ]
    refine takeV 19 17 (.pointer (some ⟨j, 3, none⟩)) rfl (by kernel_rfl) (fun _ _ _ h => h) (by rfl) (fun x hS => by
      obtain ⟨s1, s2, s3⟩ := hS
      go_simp) HSY.out ?_
    simp only [Act.put, List.getElem_toArray, List.getElem_cons_succ, List.getElem_cons_zero, List.setIfInBounds_toArray, List.set_cons_zero, List.set_cons_succ]
    refine oneU 18 rfl (by kernel_rfl) (by rfl) ?_
    have HJY := hide (HJB.out.below HBY.out HJB.out.lt)
    have HJW1 : Hid (JW W Y B g c N m j (jrnC g J (.slice A J.owed.length co))) := ⟨hBj, HD.out.lift HBY.out, HJY.out, JKeep.of_below HBY.out hB, PKeep.of_below HBY.out⟩
    have y3 : Y.cell? ⟨j, 3, none⟩ = some (.int .i64 (J.m : Int)) := HJY.out.cell 3
    have y4 : Y.cell? ⟨j, 4, none⟩ = some (.int .i64 (J.f : Int)) := HJY.out.cell 4
    have y5 : Y.cell? ⟨j, 5, none⟩ = some (.int .i64 (J.a : Int)) := HJY.out.cell 5
    have z3 := HJY.out.frozen 3
    have z4 := HJY.out.frozen 4
    have z5 := HJY.out.frozen 5
    have HJW2 := hide (((HJW1.out.set 3 (.int .i64 ((J.m : Int) + 1))).set 4 (.int .i64 (J.next : Int))).set 5 (.int .i64 (J.pos : Int)))
    clear r11 HSY HSX
    unfold markI
    go_wp2_with fail
    refine doneU (by kernel_rfl) ?_ _
    obtain ⟨W5, hW5⟩ : ∃ W5, ((Y.setCell ⟨j, 3, none⟩ (.int .i64 ((J.m : Int) + 1))).setCell ⟨j, 4, none⟩ (.int .i64 (J.next : Int))).setCell ⟨j, 5, none⟩ (.int .i64 (J.pos : Int)) = W5 := ⟨_, rfl⟩
    rw [hW5] at HJW2 ⊢
    clear hW5 y3 y4 y5 z3 z4 z5
    have HJ5 := hide HJW2.out.2.2.1
    have r7 : W5.cell? ⟨j, 7, none⟩ = some (.int .i64 (J.pos : Int)) := HJ5.out.cell 7
    have y8 : W5.cell? ⟨j, 8, none⟩ = some (.int .i64 (J.base : Int)) := HJ5.out.cell 8
    have y9 : W5.cell? ⟨j, 9, none⟩ = some (.bool false) := HJ5.out.cell 9
    have y10 : W5.cell? ⟨j, 10, none⟩ = some (.slice A J.owed.length co) := HJ5.out.cell 10
    have y11 : W5.cell? ⟨j, 11, none⟩ = some (.int .i64 (J.count : Int)) := HJ5.out.cell 11
    have z8 := HJ5.out.frozen 8
    have z9 := HJ5.out.frozen 9
    have z10 := HJ5.out.frozen 10
    have z11 := HJ5.out.frozen 11
    have HF := hide ((((HJW2.out.set 8 (.int .i64 (J.pos : Int))).set 9 (.bool false)).set 10 (.slice none 0 0)).set 11 (.int .i64 0))
    go_wp2
    go_end0
    exact ⟨rfl, ⟨hBj, .slice none 0 0, by
      have := HF.out.2.2.1
      unfold setJ
      rw [decide_eq_true hcn]
      exact this, OwedAt.nil⟩, HF.out.2.1, HF.out.2.2.2.1, HF.out.2.2.2.2⟩
  · have t1 : decide ((J.count : Int) > 0) = false := decide_eq_false (by omega)
    have t2 : decide (J.count > 0) = false := decide_eq_false (by omega)
    have HJ5 := hide HJW.out.2.2.1
    have r7 : W.cell? ⟨j, 7, none⟩ = some (.int .i64 (J.pos : Int)) := HJ5.out.cell 7
    have y8 : W.cell? ⟨j, 8, none⟩ = some (.int .i64 (J.base : Int)) := HJ5.out.cell 8
    have y9 : W.cell? ⟨j, 9, none⟩ = some (.bool false) := HJ5.out.cell 9
    have y10 : W.cell? ⟨j, 10, none⟩ = some (.slice A J.owed.length co) := HJ5.out.cell 10
    have y11 : W.cell? ⟨j, 11, none⟩ = some (.int .i64 (J.count : Int)) := HJ5.out.cell 11
    have z8 := HJ5.out.frozen 8
    have z9 := HJ5.out.frozen 9
    have z10 := HJ5.out.frozen 10
    have z11 := HJ5.out.frozen 11
    have HF := hide ((((HJW.out.set 8 (.int .i64 (J.pos : Int))).set 9 (.bool false)).set 10 (.slice none 0 0)).set 11 (.int .i64 0))
    go_enter Try.func26, Try.ntmps26
    go_wp2
    go_end0
    exact ⟨rfl, ⟨hBj, .slice none 0 0, by
      have := HF.out.2.2.1
      unfold setJ
      rw [decide_eq_false hcn]
      exact this, OwedAt.nil⟩, HF.out.2.1, HF.out.2.2.2.1, HF.out.2.2.2.2⟩
end
end Go.Proofs.Ytogjdfiimflbaaa
