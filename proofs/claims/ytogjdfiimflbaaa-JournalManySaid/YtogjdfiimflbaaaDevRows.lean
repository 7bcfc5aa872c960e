/-
  slices.ContainsFunc over sectors, for the device's Write: none is of another length. Condition: the rows read as lists of 64 octets.
-/
import Derived.Test.YtogjdfiimflbaaaDevSmall
namespace Go.Proofs.Ytogjdfiimflbaaa
open Go Go.RowKit

theorem len64_any (A : Option Addr) (c : Nat) (w : World) : Calls Try.prog 50 #[.slice A 64 c] w fun e w' => e = .returned (.bool false) ∧ w = w' := by
  go_enter Try.func50, Try.ntmps50
  go_wp2
  go_ret
  exact ⟨rfl, rfl⟩

set_option maxRecDepth 100000 in
set_option maxHeartbeats 400000 in
theorem indexRows_none (ls : List (List UInt8)) (A : Option Addr) (n c B : Nat) (w : World) (hn : n = ls.length) (hl : ls.length ≤ 1099511627776) (h64 : All64 ls) (hA : RowsAt w B A ls) :
    Calls Try.prog 53 #[.slice A n c, .func (.func 50) #[] #[]] w fun e w' => e = .returned (.int .i64 (-1)) ∧ w = w' := by
  subst hn
  have HX := hide h64
  clear h64
  go_enter Try.func53, Try.ntmps53
  go_wp2
  go_loop [8] (fun i => ∃ k : Nat, k ≤ ls.length ∧ i = .int .i64 k) (fun i => ls.length - (intOf i).toNat)
  case atStart => exact ⟨0, Nat.zero_le _, rfl⟩
  case round =>
    obtain ⟨k, hk, rfl⟩ := hrel
    by_cases hlt : k < ls.length
    · obtain ⟨ad, rfl, hb, hc⟩ := hA (by omega)
      obtain ⟨Ai, ci, hci, hlen, hbs⟩ := hc k hlt
      have hl64 : ls[k].length = 64 := HX.out _ (List.getElem_mem hlt)
      rw [hl64] at hci
      clear hc hlen hbs hl64
      have i1 : (0 : Int) ≤ (k : Int) := by omega
      have i2 : (k : Int) < (ls.length : Int) := by omega
      go_wp2_with fail
      refine (len64_any Ai ci _).mono ?_
      rintro e w' ⟨rfl, rfl⟩
      go_wp2
      go_round
      case rel => exact ⟨k + 1, by omega, by go_num⟩
      case measure => simp [intOf]; omega
    · go_wp2
      go_ret
      exact ⟨rfl, rfl⟩

set_option maxRecDepth 100000 in
set_option maxHeartbeats 400000 in
theorem containsRows_none (ls : List (List UInt8)) (A : Option Addr) (n c B : Nat) (w : World) (hn : n = ls.length) (hl : ls.length ≤ 1099511627776) (h64 : All64 ls) (hA : RowsAt w B A ls) :
    Calls Try.prog 49 #[.slice A n c, .func (.func 50) #[] #[]] w fun e w' => e = .returned (.bool false) ∧ w = w' := by
  subst hn
  have HI := hide (indexRows_none ls A ls.length c B w rfl hl h64 hA)
  go_enter Try.func49, Try.ntmps49
  go_wp2_with fail
  refine (unhide HI).mono ?_
  rintro e w' ⟨rfl, rfl⟩
  go_wp2
  go_ret
  exact ⟨rfl, rfl⟩

def wr1 (S : DS) (a : Nat) (s : List UInt8) : DS := { S with q := S.q ++ [(a, s)], now := S.now.set a s }
def writeS (S : DS) (a : Nat) : List (List UInt8) → DS
  | [] => S
  | s :: r => writeS (wr1 S a s) (a + 1) r
theorem writeS_snoc : ∀ (l : List (List UInt8)) (S : DS) (a : Nat) (s : List UInt8), writeS S a (l ++ [s]) = wr1 (writeS S a l) (a + l.length) s
  | [], S, a, s => rfl
  | x :: r, S, a, s => by
    show writeS (wr1 S a x) (a + 1) (r ++ [s]) = wr1 (writeS (wr1 S a x) (a + 1) r) (a + (x :: r).length) s
    rw [writeS_snoc r]
    congr 1
    rw [List.length_cons]
    omega
theorem writeS_kept : ∀ (l : List (List UInt8)) (S : DS) (a : Nat), (writeS S a l).kept = S.kept ∧ (writeS S a l).n = S.n ∧ (writeS S a l).bad = S.bad ∧ (writeS S a l).left = S.left ∧ (writeS S a l).q.length = S.q.length + l.length ∧ (writeS S a l).now.length = S.now.length
  | [], S, a => ⟨rfl, rfl, rfl, rfl, rfl, rfl⟩
  | x :: r, S, a => by
    obtain ⟨h1, h2, h3, h4, h5, h6⟩ := writeS_kept r (wr1 S a x) (a + 1)
    refine ⟨h1, h2, h3, h4, h5.trans ?_, h6.trans ?_⟩
    · simp [wr1]
      omega
    · simp [wr1]

/-- sixty-four cells set in the middle -/
theorem flat_set : ∀ (K : List (List UInt8)) (i : Nat) (s : List UInt8), All64 K → i < K.length → s.length = 64 → (K.set i s).flatten = K.flatten.take (64 * i) ++ s ++ K.flatten.drop (64 * i + 64)
  | [], i, s, _, hi, _ => absurd hi (by simp)
  | x :: r, 0, s, h, _, hs => by
    have hx : x.length = 64 := h x List.mem_cons_self
    simp only [List.set_cons_zero, List.flatten_cons, Nat.mul_zero, List.take_zero, List.nil_append, Nat.zero_add]
    rw [List.drop_append_of_le_length (by omega), List.drop_of_length_le (by omega), List.nil_append]
  | x :: r, i + 1, s, h, hi, hs => by
    have hx : x.length = 64 := h x List.mem_cons_self
    have ih := flat_set r i s (fun y hy => h y (List.mem_cons_of_mem _ hy)) (by simpa using hi) hs
    simp only [List.set_cons_succ, List.flatten_cons, ih]
    have e1 : (x ++ r.flatten).take (64 * (i + 1)) = x ++ r.flatten.take (64 * i) := by
      rw [List.take_append, List.take_of_length_le (by omega), show 64 * (i + 1) - x.length = 64 * i by omega]
    have e2 : (x ++ r.flatten).drop (64 * (i + 1) + 64) = r.flatten.drop (64 * i + 64) := by
      rw [List.drop_append, List.drop_of_length_le (by omega), List.nil_append, show 64 * (i + 1) + 64 - x.length = 64 * i + 64 by omega]
    rw [e1, e2]
    simp
theorem flat64_len : ∀ (K : List (List UInt8)), All64 K → K.flatten.length = 64 * K.length
  | [], _ => rfl
  | x :: r, h => by
    have hx : x.length = 64 := h x List.mem_cons_self
    rw [List.flatten_cons, List.length_append, flat64_len r (fun y hy => h y (List.mem_cons_of_mem _ hy)), List.length_cons]
    omega
theorem flat64_get : ∀ (K : List (List UInt8)) (i : Nat) (s : List UInt8), All64 K → K[i]? = some s → (K.flatten.drop (64 * i)).take 64 = s
  | [], i, s, _, hi => by simp at hi
  | x :: r, 0, s, h, hi => by
    have hx : x.length = 64 := h x List.mem_cons_self
    simp only [List.getElem?_cons_zero, Option.some.injEq] at hi
    subst hi
    rw [Nat.mul_zero, List.drop_zero, List.flatten_cons, List.take_append_of_le_length (by omega), List.take_of_length_le (by omega)]
  | x :: r, i + 1, s, h, hi => by
    have hx : x.length = 64 := h x List.mem_cons_self
    rw [List.flatten_cons, List.drop_append, List.drop_of_length_le (by omega), List.nil_append, show 64 * (i + 1) - x.length = 64 * i by omega]
    exact flat64_get r i s (fun y hy => h y (List.mem_cons_of_mem _ hy)) (by simpa using hi)

/-- rows of sectors in blocks of their own: what a device's methods keep -/
def RowsBlk (W : World) (A : Option Addr) (ls : List (List UInt8)) : Prop := 0 < ls.length → ∃ gr cur, A = some ⟨gr, 0, none⟩ ∧ Blk W gr 22 cur ∧
  ∀ (i : Nat) (hi : i < ls.length), ∃ gi ci cu, cur[i]? = some (.slice (some ⟨gi, 0, none⟩) ls[i].length ci) ∧ ls[i].length ≤ ci ∧ Blk W gi 5 cu ∧ cu.toList.take ls[i].length = byts ls[i]
theorem RowsBlk.keep {B : Nat} {W W' : World} {A : Option Addr} {ls : List (List UInt8)} (h : RowsBlk W A ls) (hk : DKeep B W W') : RowsBlk W' A ls := fun hp => by
  obtain ⟨gr, cur, rfl, hb, hc⟩ := h hp
  refine ⟨gr, cur, rfl, hk.2 _ _ _ hb (by decide) (by decide) (by decide), fun i hi => ?_⟩
  obtain ⟨gi, ci, cu, h1, h2, h3, h4⟩ := hc i hi
  exact ⟨gi, ci, cu, h1, h2, hk.2 _ _ _ h3 (by decide) (by decide) (by decide), h4⟩
theorem RowsBlk.below {W W' : World} {A : Option Addr} {ls : List (List UInt8)} (h : RowsBlk W A ls) (hb : Below W.heap.size W W') : RowsBlk W' A ls := h.keep (DKeep.of_below hb (Nat.le_refl _))
theorem bytes_blk {W : World} {g : Nat} {s : List UInt8} {cu : Array Value} (h : Blk W g 5 cu) (ht : cu.toList.take s.length = byts s) : BytesAt W W.heap.size (some ⟨g, 0, none⟩) s := by
  refine ⟨by simp [byts], fun _ => ⟨_, rfl, h.lt, fun j u hu => ?_⟩⟩
  have hj : j < s.length := by
    have := (List.getElem?_eq_some_iff.1 hu).1
    simpa [byts] using this
  rw [add_flat, Nat.zero_add, h.cell, ← Array.getElem?_toList, ← hu, ← ht, List.getElem?_take_of_lt hj]
theorem RowsBlk.rows {W : World} {A : Option Addr} {ls : List (List UInt8)} (h : RowsBlk W A ls) : RowsAt W W.heap.size A ls := fun hp => by
  obtain ⟨gr, cur, rfl, hb, hc⟩ := h hp
  refine ⟨_, rfl, hb.lt, fun i hi => ?_⟩
  obtain ⟨gi, ci, cu, h1, h2, h3, h4⟩ := hc i hi
  exact ⟨_, ci, by rw [add_flat, Nat.zero_add, hb.cell]; exact h1, h2, bytes_blk h3 h4⟩
end Go.Proofs.Ytogjdfiimflbaaa
