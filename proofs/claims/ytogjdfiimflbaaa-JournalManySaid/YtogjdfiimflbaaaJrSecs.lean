/-
  Slices of octets, rows of them, puts in memory; the record's sectors. No walk.
-/
import Derived.Test.YtogjdfiimflbaaaJrRight
namespace Go.Proofs.Ytogjdfiimflbaaa
open Go Go.RowKit

/-- a slice of octets in a block of D -/
def SecV (W : World) (D : Nat → Prop) (u : Value) (b : List UInt8) : Prop := ∃ gi ci cu, u = .slice (some ⟨gi, 0, none⟩) b.length ci ∧ b.length ≤ ci ∧ Blk W gi 5 cu ∧ cu.toList.take b.length = byts b ∧ D gi
section
variable {A : Option Addr} {W W' : World} {D D' O : Nat → Prop} {u v : Value} {b : List UInt8} {base : Nat} {vs : List Value} {ls : List (List UInt8)}
theorem SecV.fr (h : SecV W D u b) (k : Fr O W W') (hO : ∀ q, q < W.heap.size → D q → ¬ O q) : SecV W' D u b := by
  obtain ⟨gi, ci, cu, h1, h2, h3, h4, h5⟩ := h
  exact ⟨gi, ci, cu, h1, h2, k.blk h3 (hO gi h3.lt h5), h4, h5⟩
theorem SecV.below (h : SecV W D u b) (k : Below W.heap.size W W') : SecV W' D u b := h.fr (Fr.of_below k (fun _ => False)) (fun _ _ _ e => e)
theorem SecV.dkeep {B : Nat} (h : SecV W D u b) (k : DKeep B W W') : SecV W' D u b := by
  obtain ⟨gi, ci, cu, h1, h2, h3, h4, h5⟩ := h
  exact ⟨gi, ci, cu, h1, h2, k.2 _ _ _ h3 (by decide) (by decide) (by decide), h4, h5⟩
theorem SecV.weak (h : SecV W D u b) (hD : ∀ q, q < W.heap.size → D q → D' q) : SecV W D' u b := by
  obtain ⟨gi, ci, cu, h1, h2, h3, h4, h5⟩ := h
  exact ⟨gi, ci, cu, h1, h2, h3, h4, hD _ h3.lt h5⟩
theorem SecV.far {g i : Nat} {t : TypeId} {cs : Array Value} (h : SecV W D u b) (hb : Blk W g t cs) (ht : t ≠ 5) (x : Value) : SecV (W.setCell ⟨g, i, none⟩ x) D u b := by
  obtain ⟨gi, ci, cu, h1, h2, h3, h4, h5⟩ := h
  exact ⟨gi, ci, cu, h1, h2, h3.far (fun e => Blk.ne_ hb h3 ht (by exact e.symm)) x, h4, h5⟩
theorem SecV.of_own (h : W.ownsRow base 5 1 v b.length (byts b)) (h0 : 0 < b.length) : SecV W (fun q => base ≤ q ∧ v.ownBlock = some q) v b := by
  rcases h.2 with ⟨_, h1⟩ | ⟨g, cap, cur, rfl, h2, h3, h4, h5, h6, h7⟩
  · omega
  · exact ⟨g, cap, cur, rfl, h4, h3, by rw [Nat.mul_one] at h7; exact h7, h2, rfl⟩
theorem SecV.reads (h : SecV W D u b) : ∃ A c, u = .slice A b.length c ∧ b.length ≤ c ∧ BytesAt W W.heap.size A b := by
  obtain ⟨gi, ci, cu, h1, h2, h3, h4, h5⟩ := h
  exact ⟨_, _, h1, h2, bytes_blk h3 h4⟩
/-- values of slices of octets -/
def SecVs (W : World) (D : Nat → Prop) (vs : List Value) (ls : List (List UInt8)) : Prop := vs.length = ls.length ∧ ∀ (i : Nat) (u : Value) (b : List UInt8), vs[i]? = some u → ls[i]? = some b → SecV W D u b
theorem SecVs.nil : SecVs W D [] [] := ⟨rfl, fun i u b h => by simp at h⟩
theorem SecVs.fr (h : SecVs W D vs ls) (k : Fr O W W') (hO : ∀ q, q < W.heap.size → D q → ¬ O q) : SecVs W' D vs ls := ⟨h.1, fun i u b h1 h2 => (h.2 i u b h1 h2).fr k hO⟩
theorem SecVs.below (h : SecVs W D vs ls) (k : Below W.heap.size W W') : SecVs W' D vs ls := ⟨h.1, fun i u b h1 h2 => (h.2 i u b h1 h2).below k⟩
theorem SecVs.weak (h : SecVs W D vs ls) (hD : ∀ q, q < W.heap.size → D q → D' q) : SecVs W D' vs ls := ⟨h.1, fun i u b h1 h2 => (h.2 i u b h1 h2).weak hD⟩
theorem SecVs.snoc (h : SecVs W D vs ls) (hu : SecV W D u b) : SecVs W D (vs ++ [u]) (ls ++ [b]) := by
  refine ⟨by rw [List.length_append, List.length_append, h.1]; rfl, fun i x y h1 h2 => ?_⟩
  rcases Nat.lt_or_ge i vs.length with hi | hi
  · rw [List.getElem?_append_left hi] at h1
    rw [List.getElem?_append_left (by rw [← h.1]; exact hi)] at h2
    exact h.2 i x y h1 h2
  · rw [List.getElem?_append_right hi] at h1
    rw [List.getElem?_append_right (by rw [← h.1]; exact hi), ← h.1] at h2
    rcases Nat.eq_zero_or_pos (i - vs.length) with h0 | h0
    · rw [h0] at h1 h2
      simp only [List.getElem?_cons_zero, Option.some.injEq] at h1 h2
      subst h1 h2
      exact hu
    · rw [List.getElem?_eq_none (by simp; omega)] at h1
      cases h1
theorem SecVs.cons (h : SecVs W D vs ls) (hu : SecV W D u b) : SecVs W D (u :: vs) (b :: ls) := by
  refine ⟨by rw [List.length_cons, List.length_cons, h.1], fun i x y h1 h2 => ?_⟩
  cases i with
  | zero =>
    simp only [List.getElem?_cons_zero, Option.some.injEq] at h1 h2
    subst h1 h2
    exact hu
  | succ i =>
    simp only [List.getElem?_cons_succ] at h1 h2
    exact h.2 i x y h1 h2
theorem SecVs.append {vs' : List Value} {ls' : List (List UInt8)} (h : SecVs W D vs ls) (h' : SecVs W D vs' ls') : SecVs W D (vs ++ vs') (ls ++ ls') := by
  refine ⟨by rw [List.length_append, List.length_append, h.1, h'.1], fun i x y h1 h2 => ?_⟩
  rcases Nat.lt_or_ge i vs.length with hi | hi
  · rw [List.getElem?_append_left hi] at h1
    rw [List.getElem?_append_left (by rw [← h.1]; exact hi)] at h2
    exact h.2 i x y h1 h2
  · rw [List.getElem?_append_right hi] at h1
    rw [List.getElem?_append_right (by rw [← h.1]; exact hi), ← h.1] at h2
    exact h'.2 _ x y h1 h2
theorem SecVs.take (h : SecVs W D vs ls) (k : Nat) : SecVs W D (vs.take k) (ls.take k) := by
  refine ⟨by rw [List.length_take, List.length_take, h.1], fun i x y h1 h2 => ?_⟩
  have hi : i < k := by
    have := (List.getElem?_eq_some_iff.1 h1).1
    rw [List.length_take] at this
    omega
  rw [List.getElem?_take_of_lt hi] at h1 h2
  exact h.2 i x y h1 h2
/-- an own row of slices of octets is rows -/
theorem rows_of_own {n : Nat} (h : W.ownsRow base 22 1 v n vs) (hs : SecVs W D vs ls) : ∃ A c, v = .slice A n c ∧ RowsBlk W A ls := by
  have hl := h.1
  rw [Nat.mul_one] at hl
  rcases h.2 with ⟨h1, h0⟩ | ⟨g, cap, cur, rfl, h2, h3, h4, h5, h6, h7⟩
  · exact ⟨none, 0, by rw [h1, h0], fun hp => by have := hs.1; omega⟩
  · refine ⟨_, _, rfl, fun _ => ⟨g, cur, rfl, h3, fun i hi => ?_⟩⟩
    have hi2 : i < vs.length := by rw [hs.1]; exact hi
    obtain ⟨gi, ci, cu, k1, k2, k3, k4, _⟩ := hs.2 i vs[i] ls[i] (List.getElem?_eq_getElem hi2) (List.getElem?_eq_getElem hi)
    refine ⟨gi, ci, cu, ?_, k2, k3, k4⟩
    rw [← k1, ← Array.getElem?_toList, ← List.getElem?_eq_getElem hi2, ← h7, List.getElem?_take_of_lt (by omega)]
theorem RowsBlk.vals (h : RowsBlk W A ls) : ∃ vs : List Value, SecVs W (fun _ => True) vs ls ∧ ∀ (i : Nat) (u : Value), vs[i]? = some u → ∃ ad, A = some ad ∧ W.cell? (ad.add i) = some u := by
  rcases Nat.eq_zero_or_pos ls.length with h0 | h0
  · rw [List.eq_nil_of_length_eq_zero h0]
    exact ⟨[], .nil, fun i u h => by simp at h⟩
  · obtain ⟨gr, cur, rfl, hb, hc⟩ := h h0
    have hsz : ls.length ≤ cur.size := by
      obtain ⟨_, _, _, h1, _⟩ := hc (ls.length - 1) (by omega)
      have := (Array.getElem?_eq_some_iff.1 h1).1
      omega
    refine ⟨cur.toList.take ls.length, ⟨List.length_take_of_le (by simpa using hsz), fun i u b h1 h2 => ?_⟩, fun i u h1 => ⟨_, rfl, ?_⟩⟩
    · obtain ⟨hi, e⟩ := List.getElem?_eq_some_iff.1 h2
      subst e
      obtain ⟨gi, ci, cu, k1, k2, k3, k4⟩ := hc i hi
      rw [List.getElem?_take_of_lt hi, Array.getElem?_toList, k1] at h1
      injection h1 with h1
      exact ⟨gi, ci, cu, h1.symm, k2, k3, k4, trivial⟩
    · have hi : i < ls.length := by
        have := (List.getElem?_eq_some_iff.1 h1).1
        rw [List.length_take] at this
        omega
      rw [List.getElem?_take_of_lt hi, Array.getElem?_toList] at h1
      rw [add_flat, Nat.zero_add, hb.cell]
      exact h1
end

/-- puts that are read -/
abbrev PutL := Nat × List UInt8
def PutOk (p : PutL) : Prop := p.1 < 65536 ∧ p.2.length = 64
def PutsAt (W : World) (A : Option Addr) (ps : List PutL) : Prop := 0 < ps.length → ∃ gr cur, A = some ⟨gr, 0, none⟩ ∧ Blk W gr 37 cur ∧ ∀ (i : Nat) (p : PutL), ps[i]? = some p → ∃ u, cur[2 * i]? = some (.int .i64 (p.1 : Int)) ∧ cur[2 * i + 1]? = some u ∧ SecV W (fun _ => True) u p.2
theorem PutsAt.below {W W' : World} {A : Option Addr} {ps : List PutL} (h : PutsAt W A ps) (k : Below W.heap.size W W') : PutsAt W' A ps := fun h0 => by
  obtain ⟨gr, cur, h1, h2, h3⟩ := h h0
  exact ⟨gr, cur, h1, h2.below k h2.lt, fun i p hp => by
    obtain ⟨u, k1, k2, k3⟩ := h3 i p hp
    exact ⟨u, k1, k2, k3.below k⟩⟩
theorem PutsAt.dkeep {W W' : World} {B : Nat} {A : Option Addr} {ps : List PutL} (h : PutsAt W A ps) (k : DKeep B W W') : PutsAt W' A ps := fun h0 => by
  obtain ⟨gr, cur, h1, h2, h3⟩ := h h0
  exact ⟨gr, cur, h1, k.2 _ _ _ h2 (by decide) (by decide) (by decide), fun i p hp => by
    obtain ⟨u, k1, k2, k3⟩ := h3 i p hp
    exact ⟨u, k1, k2, k3.dkeep k⟩⟩

/-- a record's head, ahead of its padding -/
def headP (n k : Nat) (ps : List PutL) : List UInt8 := [72] ++ beL n 8 ++ [UInt8.ofNat k] ++ (ps.map fun p => beL p.1 4 ++ [p.2.headD 0]).flatten
theorem headP_len (n k : Nat) : ∀ ps : List PutL, (headP n k ps).length = 10 + 5 * ps.length := by
  intro ps
  have h : ((ps.map fun p => beL p.1 4 ++ [p.2.headD 0]).flatten).length = 5 * ps.length := by
    induction ps with
    | nil => rfl
    | cons p r ih => rw [List.map_cons, List.flatten_cons, List.length_append, ih, List.length_append, beL_len, List.length_cons]; simp; omega
  unfold headP
  rw [List.length_append, h, List.length_append, List.length_append, beL_len]
  rfl
theorem headP_snoc (n k : Nat) (ps : List PutL) (p : PutL) : headP n k (ps ++ [p]) = headP n k ps ++ beL p.1 4 ++ [p.2.headD 0] := by
  unfold headP
  simp
/-- a put's sector in a record -/
def bodyL (p : PutL) : List UInt8 := p.2.set 0 0
def footL (n : Nat) : List UInt8 := padL ([67] ++ beL n 8)
def headL (n : Nat) (ps : List PutL) : List UInt8 := padL (headP n ps.length ps)
def recL (n : Nat) (ps : List PutL) : List (List UInt8) := headL n ps :: ps.map bodyL ++ [footL n]
theorem padL_len {b : List UInt8} (h : b.length ≤ 64) : (padL b).length = 64 := by
  unfold padL
  rw [List.length_append, List.length_replicate]
  omega
theorem footL_len (n : Nat) : (footL n).length = 64 := padL_len (by rw [List.length_append, beL_len]; decide)
theorem headL_len (n : Nat) {ps : List PutL} (h : ps.length ≤ 10) : (headL n ps).length = 64 := padL_len (by rw [headP_len]; omega)
theorem recL_len (n : Nat) (ps : List PutL) : (recL n ps).length = ps.length + 2 := by
  unfold recL
  simp
theorem recL_64 (n : Nat) {ps : List PutL} (h : ps.length ≤ 10) (hp : ∀ p ∈ ps, PutOk p) : All64 (recL n ps) := fun s hs => by
  unfold recL at hs
  rcases List.mem_append.1 hs with h1 | h1
  · rcases List.mem_cons.1 h1 with rfl | h1
    · exact headL_len n h
    · obtain ⟨p, hpm, rfl⟩ := List.mem_map.1 h1
      unfold bodyL
      rw [List.length_set]
      exact (hp p hpm).2
  · rw [List.mem_singleton.1 h1]
    exact footL_len n
end Go.Proofs.Ytogjdfiimflbaaa
