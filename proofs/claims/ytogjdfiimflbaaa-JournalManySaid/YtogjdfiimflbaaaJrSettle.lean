/-
  The walk of journal's Settle. Conditions: the journal lies so, on a device that no call fails, and something is owed.
-/
import Derived.Test.YtogjdfiimflbaaaJrFault
namespace Go.Proofs.Ytogjdfiimflbaaa
open Go Go.RowKit

def settleN (J : JS) (N : List (List UInt8)) : List (List UInt8) := wsec (homeN N J.owed) ((J.m + 1) % 2) [markL (J.m + 1) J.next J.pos]
theorem settleN_len (J : JS) (N : List (List UInt8)) : (settleN J N).length = N.length := by unfold settleN; rw [wsec_len, homeN_len]
theorem run_home (a : Array Value) (w : World) : (callFunc 24 a).run Try.prog w = .ok (.enter 24 a) w := by go_simp
theorem run_tell (a : Array Value) (w : World) : (callFunc 25 a).run Try.prog w = .ok (.enter 25 a) w := by go_simp
@[reducible] def flushV (g : Nat) : Value := .func (.func 21) #[.pointer (some ⟨g, 0, none⟩)] #[]
@[reducible] def homeV (j : Nat) : Value := .func (.func 24) #[.pointer (some ⟨j, 0, none⟩)] #[]
@[reducible] def tellV (j : Nat) : Value := .func (.func 25) #[.pointer (some ⟨j, 0, none⟩)] #[]
/-- what a journal's puts must be to be settled -/
def Fit (J : JS) (N : List (List UInt8)) : Prop := (∀ p ∈ J.owed, PutOk p ∧ p.1 < N.length) ∧ J.m + 1 < 65536 ∧ J.next < 65536 ∧ J.pos < 65536 ∧ 2 ≤ N.length ∧ J.owed.length ≤ 1000
section
variable {W : World} {B T j g c m : Nat} {J : JS} {N : List (List UInt8)}
theorem fn_home (h : JAt W B T j g J) (hD : DevC W B g c N 0) (hB : B ≤ W.heap.size) (hc : c + 1000 < 1048576) (hf : Fit J N) : Fn0 (homeV j) W fun e W' => e = .returned (.int .i64 0) ∧ DevC W' B g (c + J.owed.length) (homeN N J.owed) J.owed.length ∧ DKeep B W W' := by
  refine ⟨_, _, _, rfl, run_home _ _, (home_any h hD hB (by have := hf.2.2.2.2.2; omega) (by have := hf.2.2.2.2.2; omega) hf.1).mono ?_⟩
  rintro e W' ⟨rfl, hd, hk⟩
  rw [Nat.zero_add] at hd
  exact ⟨rfl, hd, hk⟩
theorem fn_tell (h : JAt W B T j g J) (hD : DevC W B g c (homeN N J.owed) 0) (hB : B ≤ W.heap.size) (hc : c < 1048576) (hf : Fit J N) : Fn0 (tellV j) W fun e W' => e = .returned (.int .i64 0) ∧ DevC W' B g (c + 1) (settleN J N) 1 ∧ DKeep B W W' :=
  ⟨_, _, _, rfl, run_tell _ _, tell_any h hD hB hc (by omega) (by rw [homeN_len]; exact hf.2.2.2.2.1) hf.2.1 hf.2.2.1 hf.2.2.2.1⟩
/-- ahead of the steps of Settle -/
def SetI (w5 : World) (B g c m : Nat) (J : JS) (N : List (List UInt8)) : Nat → World → Prop
  | 0, w => DKeep B w5 w ∧ DevC w B g c N m
  | 1, w => DKeep B w5 w ∧ DevC w B g (c + 1) N 0
  | 2, w => DKeep B w5 w ∧ DevC w B g (c + 1 + J.owed.length) (homeN N J.owed) J.owed.length
  | 3, w => DKeep B w5 w ∧ DevC w B g (c + 1 + J.owed.length + 1) (homeN N J.owed) 0
  | 4, w => DKeep B w5 w ∧ DevC w B g (c + 1 + J.owed.length + 2) (settleN J N) 1
  | _, w => DKeep B w5 w ∧ DevC w B g (c + 1 + J.owed.length + 3) (settleN J N) 0
theorem SetI.keep {w5 : World} : ∀ {k : Nat} {w : World}, SetI w5 B g c m J N k w → DKeep B w5 w
  | 0, _, h => h.1
  | 1, _, h => h.1
  | 2, _, h => h.1
  | 3, _, h => h.1
  | 4, _, h => h.1
  | _ + 5, _, h => h.1
set_option maxRecDepth 100000 in
set_option maxHeartbeats 4000000 in
theorem settle_any' (h : JAt W B T j g J) (hD : DevC W B g c N m) (hB : B ≤ W.heap.size) (hc : c + 2000 < 1048576) (hf : Fit J N) (hcn : 0 < J.count) :
    Calls Try.prog 30 #[.pointer (some ⟨j, 0, none⟩)] W fun e W' => e = .returned (.int .i64 0) ∧ JAt W' B 0 j g (setJ J) ∧ DevC W' B g (c + J.owed.length + 4) (settleN J N) 0 ∧ JKeep B W W' ∧ PKeep W W' := by
  obtain ⟨Ao, co, hpa, hjb⟩ := h.cells
  have HJ := hide h
  have HJB := hide hjb
  have HD := hide hD
  have HF := hide hf
  have r11 : W.cell? ⟨j, 11, none⟩ = some (.int .i64 (J.count : Int)) := hjb.cell 11
  have t1 : ((J.count : Int) == 0) = false := beq_eq_false_iff_ne.2 (by omega)
  have HSX : Hid (∀ x, Below W.heap.size W x → x.cell? ⟨j, 0, none⟩ = some (.pointer (some ⟨g, 0, none⟩))) := fun x hx => (HJB.out.below hx HJB.out.lt).cell 0
  clear h hD hpa hjb hf
  go_enter Try.func30, Try.ntmps30
  go_wp2_with fail
  clear r11
  refine region_U (fun x => x.cell? ⟨j, 0, none⟩ = some (.pointer (some ⟨g, 0, none⟩))) 24 (by kernel_rfl) ?_
  intro Y hY
  have HBY : Hid (Below W.heap.size W Y) := by rw [hY]; exact (Below.refl _ _).drew
  have HSY := hide (HSX.out Y HBY.out)
  clear hY
  refine takeV 25 0 (.pointer (some ⟨j, 0, none⟩)) rfl (by kernel_rfl) (fun _ _ _ h => h) (by rfl) (fun x hS => by
    obtain s1 := hS
    go_simp) HSY.out ?_
  simp only [Act.put, List.getElem_toArray, List.getElem_cons_succ, List.getElem_cons_zero, List.setIfInBounds_toArray, List.set_cons_zero, List.set_cons_succ]
  refine takeV 25 1 (.pointer (some ⟨j, 0, none⟩)) rfl (by kernel_rfl) (fun _ _ _ h => h) (by rfl) (fun x hS => by
    obtain s1 := hS
    go_simp) HSY.out ?_
  simp only [Act.put, List.getElem_toArray, List.getElem_cons_succ, List.getElem_cons_zero, List.setIfInBounds_toArray, List.set_cons_zero, List.set_cons_succ]
  refine takeV 25 2 (.pointer (some ⟨j, 0, none⟩)) rfl (by kernel_rfl) (fun _ _ _ h => h) (by rfl) (fun x hS => by
    obtain s1 := hS
    go_simp) HSY.out ?_
  simp only [Act.put, List.getElem_toArray, List.getElem_cons_succ, List.getElem_cons_zero, List.setIfInBounds_toArray, List.set_cons_zero, List.set_cons_succ]
  refine takeV 25 3 (.pointer (some ⟨j, 0, none⟩)) rfl (by kernel_rfl) (fun _ _ _ h => h) (by rfl) (fun x hS => by
    obtain s1 := hS
    go_simp) HSY.out ?_
  simp only [Act.put, List.getElem_toArray, List.getElem_cons_succ, List.getElem_cons_zero, List.setIfInBounds_toArray, List.set_cons_zero, List.set_cons_succ]
  refine takeV 25 4 (.pointer (some ⟨g, 0, none⟩)) rfl (by kernel_rfl) (fun _ _ _ h => h) (by rfl) (fun x hS => by
    have s1 : x.cell? ⟨j, 0, none⟩ = some (.pointer (some ⟨g, 0, none⟩)) := hS
    go_simp) HSY.out ?_
  simp only [Act.put, List.getElem_toArray, List.getElem_cons_succ, List.getElem_cons_zero, List.setIfInBounds_toArray, List.set_cons_zero, List.set_cons_succ]
  refine takeV 25 5 (.func (.func 21) #[.pointer (some ⟨g, 0, none⟩)] #[]) rfl (by kernel_rfl) (fun _ _ _ h => h) (by rfl) (fun x hS => by
    obtain s1 := hS
    go_simp) HSY.out ?_
  simp only [Act.put, List.getElem_toArray, List.getElem_cons_succ, List.getElem_cons_zero, List.setIfInBounds_toArray, List.set_cons_zero, List.set_cons_succ]
  refine takeV 25 6 (.pointer (some ⟨j, 0, none⟩)) rfl (by kernel_rfl) (fun _ _ _ h => h) (by rfl) (fun x hS => by
    obtain s1 := hS
    go_simp) HSY.out ?_
  simp only [Act.put, List.getElem_toArray, List.getElem_cons_succ, List.getElem_cons_zero, List.setIfInBounds_toArray, List.set_cons_zero, List.set_cons_succ]
  refine takeV 25 7 (.func (.func 24) #[.pointer (some ⟨j, 0, none⟩)] #[]) rfl (by kernel_rfl) (fun _ _ _ h => h) (by rfl) (fun x hS => by
    obtain s1 := hS
    go_simp) HSY.out ?_
  simp only [Act.put, List.getElem_toArray, List.getElem_cons_succ, List.getElem_cons_zero, List.setIfInBounds_toArray, List.set_cons_zero, List.set_cons_succ]
  refine takeV 25 8 (.pointer (some ⟨j, 0, none⟩)) rfl (by kernel_rfl) (fun _ _ _ h => h) (by rfl) (fun x hS => by
    obtain s1 := hS
    go_simp) HSY.out ?_
  simp only [Act.put, List.getElem_toArray, List.getElem_cons_succ, List.getElem_cons_zero, List.setIfInBounds_toArray, List.set_cons_zero, List.set_cons_succ]
  refine takeV 25 9 (.pointer (some ⟨j, 0, none⟩)) rfl (by kernel_rfl) (fun _ _ _ h => h) (by rfl) (fun x hS => by
    obtain s1 := hS
    go_simp) HSY.out ?_
  simp only [Act.put, List.getElem_toArray, List.getElem_cons_succ, List.getElem_cons_zero, List.setIfInBounds_toArray, List.set_cons_zero, List.set_cons_succ]
  refine takeV 25 10 (.pointer (some ⟨j, 0, none⟩)) rfl (by kernel_rfl) (fun _ _ _ h => h) (by rfl) (fun x hS => by
    obtain s1 := hS
    go_simp) HSY.out ?_
  simp only [Act.put, List.getElem_toArray, List.getElem_cons_succ, List.getElem_cons_zero, List.setIfInBounds_toArray, List.set_cons_zero, List.set_cons_succ]
  refine takeV 25 11 (.pointer (some ⟨j, 0, none⟩)) rfl (by kernel_rfl) (fun _ _ _ h => h) (by rfl) (fun x hS => by
    obtain s1 := hS
    go_simp) HSY.out ?_
  simp only [Act.put, List.getElem_toArray, List.getElem_cons_succ, List.getElem_cons_zero, List.setIfInBounds_toArray, List.set_cons_zero, List.set_cons_succ]
  refine takeV 25 12 (.pointer (some ⟨g, 0, none⟩)) rfl (by kernel_rfl) (fun _ _ _ h => h) (by rfl) (fun x hS => by
    have s1 : x.cell? ⟨j, 0, none⟩ = some (.pointer (some ⟨g, 0, none⟩)) := hS
    go_simp) HSY.out ?_
  simp only [Act.put, List.getElem_toArray, List.getElem_cons_succ, List.getElem_cons_zero, List.setIfInBounds_toArray, List.set_cons_zero, List.set_cons_succ]
  refine takeV 25 13 (.func (.func 21) #[.pointer (some ⟨g, 0, none⟩)] #[]) rfl (by kernel_rfl) (fun _ _ _ h => h) (by rfl) (fun x hS => by
    obtain s1 := hS
    go_simp) HSY.out ?_
  simp only [Act.put, List.getElem_toArray, List.getElem_cons_succ, List.getElem_cons_zero, List.setIfInBounds_toArray, List.set_cons_zero, List.set_cons_succ]
  refine takeV 25 14 (.pointer (some ⟨j, 0, none⟩)) rfl (by kernel_rfl) (fun _ _ _ h => h) (by rfl) (fun x hS => by
    obtain s1 := hS
    go_simp) HSY.out ?_
  simp only [Act.put, List.getElem_toArray, List.getElem_cons_succ, List.getElem_cons_zero, List.setIfInBounds_toArray, List.set_cons_zero, List.set_cons_succ]
  refine takeV 25 15 (.func (.func 25) #[.pointer (some ⟨j, 0, none⟩)] #[]) rfl (by kernel_rfl) (fun _ _ _ h => h) (by rfl) (fun x hS => by
    obtain s1 := hS
    go_simp) HSY.out ?_
  simp only [Act.put, List.getElem_toArray, List.getElem_cons_succ, List.getElem_cons_zero, List.setIfInBounds_toArray, List.set_cons_zero, List.set_cons_succ]
  refine takeV 25 16 (.pointer (some ⟨j, 0, none⟩)) rfl (by kernel_rfl) (fun _ _ _ h => h) (by rfl) (fun x hS => by
    obtain s1 := hS
    go_simp) HSY.out ?_
  simp only [Act.put, List.getElem_toArray, List.getElem_cons_succ, List.getElem_cons_zero, List.setIfInBounds_toArray, List.set_cons_zero, List.set_cons_succ]
  refine takeV 25 17 (.pointer (some ⟨j, 0, none⟩)) rfl (by kernel_rfl) (fun _ _ _ h => h) (by rfl) (fun x hS => by
    obtain s1 := hS
    go_simp) HSY.out ?_
  simp only [Act.put, List.getElem_toArray, List.getElem_cons_succ, List.getElem_cons_zero, List.setIfInBounds_toArray, List.set_cons_zero, List.set_cons_succ]
  refine takeV 25 18 (.pointer (some ⟨j, 0, none⟩)) rfl (by kernel_rfl) (fun _ _ _ h => h) (by rfl) (fun x hS => by
    obtain s1 := hS
    go_simp) HSY.out ?_
  simp only [Act.put, List.getElem_toArray, List.getElem_cons_succ, List.getElem_cons_zero, List.setIfInBounds_toArray, List.set_cons_zero, List.set_cons_succ]
  refine takeV 25 19 (.pointer (some ⟨j, 0, none⟩)) rfl (by kernel_rfl) (fun _ _ _ h => h) (by rfl) (fun x hS => by
    obtain s1 := hS
    go_simp) HSY.out ?_
  simp only [Act.put, List.getElem_toArray, List.getElem_cons_succ, List.getElem_cons_zero, List.setIfInBounds_toArray, List.set_cons_zero, List.set_cons_succ]
  refine takeV 25 20 (.pointer (some ⟨g, 0, none⟩)) rfl (by kernel_rfl) (fun _ _ _ h => h) (by rfl) (fun x hS => by
    have s1 : x.cell? ⟨j, 0, none⟩ = some (.pointer (some ⟨g, 0, none⟩)) := hS
    go_simp) HSY.out ?_
  simp only [Act.put, List.getElem_toArray, List.getElem_cons_succ, List.getElem_cons_zero, List.setIfInBounds_toArray, List.set_cons_zero, List.set_cons_succ]
  refine takeV 25 21 (.func (.func 21) #[.pointer (some ⟨g, 0, none⟩)] #[]) rfl (by kernel_rfl) (fun _ _ _ h => h) (by rfl) (fun x hS => by
    obtain s1 := hS
    go_simp) HSY.out ?_
  simp only [Act.put, List.getElem_toArray, List.getElem_cons_succ, List.getElem_cons_zero, List.setIfInBounds_toArray, List.set_cons_zero, List.set_cons_succ]
  refine oneU 22 rfl (by kernel_rfl) (by rfl) ?_
  have HB5 : Hid (Below W.heap.size W (Y.alloc (.cells #[flushV g, homeV j, flushV g, tellV j, flushV g] 59))) := HBY.out.alloc HBY.out.size _
  have HBF : Hid (Blk (Y.alloc (.cells #[flushV g, homeV j, flushV g, tellV j, flushV g] 59)) Y.heap.size 59 [flushV g, homeV j, flushV g, tellV j, flushV g].toArray) := Blk.new _ _ _
  have HS5 := hide (HSX.out _ HB5.out)
  go_wp2_with fail
  refine ⟨(by first | exact fun _ => HS5.out | exact HS5.out), ?_⟩
  try simp only [Act.put, List.getElem_toArray, List.getElem_cons_succ, List.getElem_cons_zero, List.setIfInBounds_toArray, List.set_cons_zero, List.set_cons_succ]
  clear HS5 HSY
  obtain ⟨w5, hw5⟩ : ∃ w5, Y.alloc (.cells #[flushV g, homeV j, flushV g, tellV j, flushV g] 59) = w5 := ⟨_, rfl⟩
  rw [hw5] at HBF HB5 ⊢
  clear hw5
  have hB5 : B ≤ w5.heap.size := Nat.le_trans hB HB5.out.size
  have HJ5 := hide (HJ.out.lift HB5.out)
  have HFI := hide (first_any _ _ 5 5 rfl (by simp) (SetI w5 B g c m J N) w5 ⟨DKeep.refl _ _, HD.out.lift HB5.out⟩ (fun k w hi => reads_keep HBF.out hi.keep (by decide) (by decide) (by decide) rfl) (fun k hk w hi => by
    have hkw := hi.keep
    have hszw : B ≤ w.heap.size := Nat.le_trans hB5 hkw.1.size
    have hjw := HJ5.out.dkeep hkw
    have hol := HF.out.2.2.2.2.2
    match k, hk, hi with
    | 0, _, hi =>
      refine (hi.2.fn_flush (by omega)).weak ?_
      rintro e w' ⟨rfl, hd, hk'⟩
      exact ⟨rfl, hkw.trans hk', hd⟩
    | 1, _, hi =>
      refine (fn_home hjw hi.2 hszw (by omega) HF.out).weak ?_
      rintro e w' ⟨rfl, hd, hk'⟩
      exact ⟨rfl, hkw.trans hk', hd⟩
    | 2, _, hi =>
      refine (hi.2.fn_flush (by omega)).weak ?_
      rintro e w' ⟨rfl, hd, hk'⟩
      exact ⟨rfl, hkw.trans hk', hd⟩
    | 3, _, hi =>
      refine (fn_tell hjw hi.2 hszw (by omega) HF.out).weak ?_
      rintro e w' ⟨rfl, hd, hk'⟩
      exact ⟨rfl, hkw.trans hk', hd⟩
    | 4, _, hi =>
      refine (hi.2.fn_flush (by omega)).weak ?_
      rintro e w' ⟨rfl, hd, hk'⟩
      exact ⟨rfl, hkw.trans hk', hd⟩))
  refine oneU 23 rfl (by kernel_rfl) (by rfl) ?_
  go_wp2_with fail
  refine (unhide HFI).mono ?_
  rintro e w6 ⟨rfl, hi⟩
  have HI : Hid (SetI w5 B g c m J N 5 w6) := hi
  have HS6 : Hid (w6.cell? ⟨j, 0, none⟩ = some (.pointer (some ⟨g, 0, none⟩))) := by
    obtain ⟨_, _, _, hb6⟩ := (HJ5.out.dkeep HI.out.1).cells
    exact hb6.cell 0
  clear hi HFI
  refine ⟨(by first | exact fun _ => HS6.out | exact HS6.out), ?_⟩
  try simp only [Act.put, List.getElem_toArray, List.getElem_cons_succ, List.getElem_cons_zero, List.setIfInBounds_toArray, List.set_cons_zero, List.set_cons_succ]
  refine oneU 24 rfl (by kernel_rfl) (by rfl) ?_
  go_wp2_with fail
  refine doneU (by kernel_rfl) ?_ _
  have HSD := hide (settled_any (HJ5.out.dkeep HI.out.1) HI.out.2 (Nat.le_trans hB5 HI.out.1.1.size) HF.out.2.1)
  go_wp2_with fail
  refine (unhide HSD).mono ?_
  rintro e w7 ⟨rfl, hj7, hd7, hk7, hp7⟩
  have HP7 : Hid (PKeep W w7) := ((PKeep.of_below HB5.out).trans (PKeep.of_dkeep HI.out.1)).trans hp7
  have HJ7 := hide hj7
  have HD7 : Hid (DevC w7 B g (c + J.owed.length + 4) (settleN J N) 0) := by
    have : DevC w7 B g (c + 1 + J.owed.length + 3) (settleN J N) 0 := hd7
    rw [show c + 1 + J.owed.length + 3 = c + J.owed.length + 4 by omega] at this
    exact this
  have HK7 : Hid (JKeep B W w7) := ((JKeep.of_below HB5.out hB).trans (JKeep.of_dkeep HI.out.1)).trans hk7
  clear hj7 hd7 hk7 hp7 HSD
  go_wp2
  go_ret
  exact ⟨rfl, HJ7.out, HD7.out, HK7.out, HP7.out⟩
end
end Go.Proofs.Ytogjdfiimflbaaa
