/-
  The walks of lru's New, of held, of icehouseref01.Same. Conditions: each theorem's own.
-/
import Derived.Test.YtjijdpdbkpknpaaLruDrop
namespace Go.Proofs.Ytjijdpdbkpknpaa
open Go Go.RowKit

def heldHd (k : ByteArray) (n : Nat) : Hd := { zh with key := k, bytes := List.replicate n 0 }
def heldLoc (q n : Nat) : Loc := { zl with ay := some ⟨q, 0, none⟩, cy := n }
theorem built_two (k : ByteArray) (q n : Nat) : Try.prog.built 40 [(0, .string k), (2, .slice (some ⟨q, 0, none⟩) n n)] = some #[.string k, .string ⟨#[]⟩, .slice none 0 0, .string ⟨#[]⟩, .string ⟨#[]⟩, .string ⟨#[]⟩, .int .i64 0, .string ⟨#[]⟩, .int .i64 0, .slice none 0 0, .int .i64 0, .int .i64 0, .int .i64 0, .int .i64 0, .int .u32 0, .slice none 0 0, .slice (some ⟨q, 0, none⟩) n n] := by kernel_rfl
theorem hcs_two (k : ByteArray) (q n : Nat) : (hcs (heldHd k n) (heldLoc q n)).toArray = #[.string k, .string ⟨#[]⟩, .slice none 0 0, .string ⟨#[]⟩, .string ⟨#[]⟩, .string ⟨#[]⟩, .int .i64 0, .string ⟨#[]⟩, .int .i64 0, .slice none 0 0, .int .i64 0, .int .i64 0, .int .i64 0, .int .i64 0, .int .u32 0, .slice none 0 0, .slice (some ⟨q, 0, none⟩) n n] := by
  simp [hcs, heldHd, heldLoc, zh, zl]
theorem wpList_build_two {ops : Array Oper} {rest : List Oper} {o : Oper} {a : Act} {w : World} {Q : Exit → Act → World → Prop} (hgd : o.guard = none) (x y : Operand) (ho : o.op = .build 40 #[(0, x), (2, y)]) (k : ByteArray) (q n : Nat)
    (hx : a.eval x = .string k) (hy : a.eval y = .slice (some ⟨q, 0, none⟩) n n)
    (h : wpList Try.prog ops Q rest (a.put o.dst (.agg (hcs (heldHd k n) (heldLoc q n)).toArray)) w) : wpList Try.prog ops Q (o :: rest) a w :=
  wpList_plain hgd fun _ hK => by
    unfold Oper.wp execOp
    have := run_build (P := Try.prog) w 40 #[(0, .string k), (2, .slice (some ⟨q, 0, none⟩) n n)] _ (built_two k q n)
    rw [← hcs_two] at this
    simp only [ho, List.map_toArray, List.map_cons, List.map_nil, hx, hy, Sem.run_bind, this, Result.andThen_ok]
    exact hK _ _ h

set_option maxRecDepth 100000 in
set_option maxHeartbeats 400000 in
theorem held_any (k : ByteArray) (n : Nat) (hn : n ≤ 1000) (w : World) :
    Calls Try.prog 11 #[.string k, .int .i64 (n : Int)] w fun e w' => ∃ l, e = .returned (.agg (hcs (heldHd k n) l).toArray) ∧ HeldD w' (fun q => w.heap.size ≤ q ∧ q < w'.heap.size) (heldHd k n) l ∧ Below w.heap.size w w' := by
  have hz := fun W' => zero_held W'
  have HZB0 : Hid (Blk (w.alloc (.cells heldZero 40)) w.heap.size 40 heldZero) := Blk.new _ _ _
  have HW1 : Hid (Below w.heap.size w (w.alloc (.cells heldZero 40)) ∧ (w.alloc (.cells heldZero 40)).heap.size = w.heap.size + 1) := ⟨(Below.refl _ _).alloc (Nat.le_refl _) _, by simp⟩
  obtain ⟨W1, hA1⟩ : ∃ W1, w.alloc (.cells heldZero 40) = W1 := ⟨_, rfl⟩
  rw [hA1] at HW1 HZB0
  have hmk : ∀ (kl kc : IntKind), (Instr.makeSlice 27 (.int kl (n : Int)) (.int kc (n : Int))).run Try.prog W1 = .ok (.slice (some ⟨W1.heap.size, 0, none⟩) n n) (W1.alloc (.cells (byts (List.replicate n 0)).toArray 5)) := fun kl kc => by
    obtain ⟨i0, hi0, hz0, hz1, hz2⟩ := info_parts info_u8
    have := run_make_rowN (P := Try.prog) 27 5 i0 _ Try.underlying27 hi0 hz0 kl kc n n (Nat.le_refl _) (by rw [hz2]; omega) (by omega) W1
    rw [this, hz1]
    have e : madeCells (Value.int .u8 0).cells (n * 1) = (byts (List.replicate n 0)).toArray := by
      rw [← Array.toList_inj, Nat.mul_one]
      show (madeCells #[Value.int .u8 0] n).toList = _
      rw [toList_madeCells_one]
      simp [byts]
    rw [e]
  have HYB : Hid (Blk (W1.alloc (.cells (byts (List.replicate n 0)).toArray 5)) W1.heap.size 5 (byts (List.replicate n 0)).toArray) := Blk.new _ _ _
  have HW2 : Hid (Below W1.heap.size W1 (W1.alloc (.cells (byts (List.replicate n 0)).toArray 5))) := (Below.refl _ _).alloc (Nat.le_refl _) _
  generalize W1.alloc (.cells (byts (List.replicate n 0)).toArray 5) = W2 at *
  have hs1 : W1.heap.size = w.heap.size + 1 := HW1.out.2
  have hs2 := HW2.out.size
  have hzb : Blk W2 w.heap.size 40 heldZero := HZB0.out.below HW2.out (by omega)
  have hst := cells_held_blk W2 w.heap.size _ _ (heldHd k n) (heldLoc W1.heap.size n) hzb rfl
  have HB7 : Hid (Blk (W2.setRow w.heap.size (hcs (heldHd k n) (heldLoc W1.heap.size n)).toArray) w.heap.size 40 (hcs (heldHd k n) (heldLoc W1.heap.size n)).toArray) := hzb.setRow _
  have hf7 : Fr (fun q => some w.heap.size = some q) W2 (W2.setRow w.heap.size (hcs (heldHd k n) (heldLoc W1.heap.size n)).toArray) := Fr.of_grown (grown_setRow _ _ _)
  have hyb2 := hf7.blk HYB.out (fun e => by injection e with e; omega)
  have HH7 : Hid (HeldD (W2.setRow w.heap.size (hcs (heldHd k n) (heldLoc W1.heap.size n)).toArray) (fun q => w.heap.size ≤ q ∧ q < (W2.setRow w.heap.size (hcs (heldHd k n) (heldLoc W1.heap.size n)).toArray).heap.size) (heldHd k n) (heldLoc W1.heap.size n)) := by
    refine ⟨⟨rfl, fun h => absurd (show 0 < 0 from h) (by decide)⟩, ⟨rfl, fun h => absurd (show 0 < 0 from h) (by decide)⟩, ⟨rfl, fun h => absurd (show 0 < 0 from h) (by decide)⟩, ⟨by simp [heldHd, byts], fun _ => ⟨_, rfl, ⟨by show w.heap.size ≤ W1.heap.size; omega, hyb2.lt⟩, fun j u hu => ?_⟩⟩⟩
    rw [add_flat, Nat.zero_add, hyb2.cell, List.getElem?_toArray]
    exact hu
  have HBE : Hid (Below w.heap.size w (W2.setRow w.heap.size (hcs (heldHd k n) (heldLoc W1.heap.size n)).toArray)) := (HW1.out.1.trans (HW2.out.mono (by omega))).trans (hf7.below (by omega) (fun q e => by injection e with e; omega))
  clear hzb hf7 hyb2 hs2 hs1
  go_enter Try.func11, Try.ntmps11
  go_wp2_with (with_reducible refine wpList_build_two rfl (.tmp 5) (.tmp 7) rfl k W1.heap.size n rfl rfl ?_)
  clear hst hmk hA1 hz
  generalize W2.setRow w.heap.size (hcs (heldHd k n) (heldLoc W1.heap.size n)).toArray = W7 at *
  refine bodyPost_ret (results_cell Try.results11 (load_var_blk W7 _ _ (heldHd k n) _ HB7.out) rfl) rfl ⟨_, rfl, HH7.out, HBE.out⟩

set_option maxRecDepth 100000 in
set_option maxHeartbeats 400000 in
theorem new_any (b s : Nat) (hb : b ≤ 1099511627776) (hs : s ≤ 100) (w : World) :
    Calls Try.prog 9 #[.int .i64 (b : Int), .int .i64 (s : Int)] w fun e w' => e = .returned (.tuple #[.pointer (some ⟨w.heap.size, 0, none⟩), .int .i64 0]) ∧ CacheAt w' (fun q => q = w.heap.size) w.heap.size ⟨b, b * s / 100, [], []⟩ ∧ Below w.heap.size w w' := by
  have hm0 : b * s ≤ 1099511627776 * 100 := Nat.mul_le_mul hb hs
  have hm : (b : Int) * (s : Int) ≤ 109951162777600 := by
    have : ((b * s : Nat) : Int) ≤ 109951162777600 := by omega
    rwa [Int.natCast_mul] at this
  have hm1 : (0 : Int) ≤ (b : Int) * (s : Int) := by
    have : (0 : Int) ≤ ((b * s : Nat) : Int) := by omega
    rwa [Int.natCast_mul] at this
  have HQ : Hid ((b : Int) * (s : Int) / 100 = ((b * s / 100 : Nat) : Int)) := by
    show _ = _
    rw [← Int.natCast_mul]
    omega
  go_enter Try.func9, Try.ntmps9
  go_wp2
  go_ret2
  refine ⟨rfl, ?_, (Below.refl _ _).alloc (Nat.le_refl _) _⟩
  rw [HQ.out]
  refine ⟨fun _ => False, .slice none 0 0, .slice none 0 0, [], [], ⟨⟨hb, by show b * s / 100 ≤ _; omega, by simp, fun h hh => by simp at hh⟩, fun q hq => by rw [hq]; simp, rfl, Blk.new _ _ _, rfl, rfl, World.ownsRow_nil _ _ _ _, World.ownsRow_nil _ _ _ _, fun q hq => by simp [Value.ownBlock] at hq, fun q hq => by simp [Value.ownBlock] at hq, fun q hq => by simp [Value.ownBlock] at hq, fun q hq => hq.elim, fun x hx => by simp at hx, fun x hx => by simp at hx⟩⟩

set_option maxRecDepth 100000 in
set_option maxHeartbeats 400000 in
theorem same_strs (l1 l2 : List ByteArray) (A1 A2 : Option Addr) (n1 n2 c1 c2 B : Nat) (w : World) (hn1 : n1 = l1.length) (hn2 : n2 = l2.length) (hl : l1.length ≤ 1099511627776) (hl2 : l2.length ≤ 1099511627776) (hA1 : Reads w B 1 A1 n1 (strs l1)) (hA2 : Reads w B 1 A2 n2 (strs l2)) :
    Calls Try.prog 21 #[.slice A1 n1 c1, .slice A2 n2 c2] w fun e w' => e = .returned (.bool (decide (l1 = l2))) ∧ Below w.heap.size w w' ∧ w'.heap = w.heap := by
  subst hn1 hn2
  have HA1 := hide hA1
  have HA2 := hide hA2
  clear hA1 hA2
  by_cases hlen : l1.length = l2.length
  · have hll : ((l1.length : Int) != (l2.length : Int)) = false := by simp [hlen]
    have h12 : l2.length ≤ l1.length := by omega
    have h21 : l1.length ≤ l2.length := by omega
    clear hlen
    go_enter Try.func21, Try.ntmps21
    go_wp2_with fail
    go_loopw [5] (fun i wr => ∃ k : Nat, k ≤ l1.length ∧ i = .int .i64 k ∧ l1.take k = l2.take k ∧ Below w.heap.size w wr ∧ wr.heap = w.heap) (fun i _ => l1.length - (intOf i).toNat)
    case atStart => exact ⟨0, Nat.zero_le _, rfl, rfl, Below.refl _ _, rfl⟩
    case round =>
      obtain ⟨k, hk, rfl, htk, hbe, hhe⟩ := hrel
      have HB := hide hbe
      have HE := hide hhe
      have HT := hide htk
      by_cases hlt : k < l1.length
      · have hlt2 : k < l2.length := by omega
        obtain ⟨p1, u1, rfl, hp1, hu1, q1⟩ := Reads.at_ (unhide HA1) hlt
        obtain ⟨p2, u2, rfl, hp2, hu2, q2⟩ := Reads.at_ (unhide HA2) hlt2
        have e1 : u1 = .string l1[k] := by simpa [strs, hlt] using hu1.symm
        have e2 : u2 = .string l2[k] := by simpa [strs, hlt2] using hu2.symm
        subst e1 e2
        have r1 : wr.cell? (p1.add k) = some (.string l1[k]) := (by simpa [World.cell?, hhe] using q1)
        have r2 : wr.cell? (p2.add k) = some (.string l2[k]) := (by simpa [World.cell?, hhe] using q2)
        have HS : Hid (l1[k] = l2[k] → l1.take (k + 1) = l2.take (k + 1)) := fun e => by rw [List.take_succ_eq_append_getElem hlt, List.take_succ_eq_append_getElem hlt2, htk, e]
        have HNE : Hid (l1[k] ≠ l2[k] → decide (l1 = l2) = false) := fun e => decide_eq_false (fun h => e (by subst h; rfl))
        clear hbe hhe q1 q2 htk hu1 hu2
        generalize l1[k] = x at *
        generalize l2[k] = y at *
        have i1 : (0 : Int) ≤ (k : Int) := by omega
        have i2 : (k : Int) < (l1.length : Int) := by omega
        have i3 : (k : Int) < (l2.length : Int) := by omega
        by_cases hxy : x = y
        · have hxx : (x.toList == y.toList) = true := by simp [hxy]
          have hxn : (x.toList != y.toList) = false := by simp [hxy]
          have HX := hide hxy
          clear hxy
          go_wp2_with fail
          go_quiet (fail)
          go_wp2
          go_roundw
          case rel => exact ⟨k + 1, by omega, by go_num, HS.out HX.out, below_drewN HB.out _, HE.out⟩
          case measure => simp [intOf]; omega
        · have hxx : (x.toList == y.toList) = false := by rw [ba_beq]; exact decide_eq_false hxy
          have hxn : (x.toList != y.toList) = true := by rw [bne, hxx]; rfl
          have HX := hide (HNE.out hxy)
          clear hxy
          go_wp2_with fail
          go_quiet (fail)
          go_wp2
          go_ret
          exact ⟨by rw [HX.out]; rfl, below_drewN HB.out _, HE.out⟩
      · rw [List.take_of_length_le (by omega), List.take_of_length_le (by omega)] at htk
        have HD : Hid (decide (l1 = l2) = true) := decide_eq_true htk
        clear hbe hhe htk
        go_wp2
        go_ret
        exact ⟨by rw [HD.out]; rfl, HB.out, HE.out⟩
  · have hll : ((l1.length : Int) != (l2.length : Int)) = true := by rw [bne_iff_ne]; omega
    have HD : Hid (decide (l1 = l2) = false) := decide_eq_false (fun e => hlen (by rw [e]))
    clear hlen
    go_enter Try.func21, Try.ntmps21
    go_wp2
    go_ret
    exact ⟨by rw [HD.out]; rfl, Below.refl _ _, rfl⟩
end Go.Proofs.Ytjijdpdbkpknpaa
