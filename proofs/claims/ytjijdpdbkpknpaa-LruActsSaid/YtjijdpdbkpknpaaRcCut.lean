/-
  The walk of the document's cut: a list without one, in new memory. Conditions: the list is owned memory; the place is within.
-/
import Derived.Test.YtjijdpdbkpknpaaRcFind
namespace Go.Proofs.Ytjijdpdbkpknpaa
open Go Go.RowKit

set_option maxRecDepth 100000 in
set_option maxHeartbeats 1000000 in
theorem rcut_any (L : List (Hd × Loc)) (v : Value) (n i : Nat) (W : World) (hn : n = L.length) (hi : i < L.length) (hl : L.length ≤ 1000000) (hown : W.ownsRow 0 40 17 v n (hrow L)) :
    Calls Try.prog 46 #[v, .int .i64 (i : Int)] W fun e W' => ∃ v', e = .returned v' ∧ W'.ownsRow W.heap.size 40 17 v' (L.length - 1) (hrow (L.eraseIdx i)) ∧ Below W.heap.size W W' := by
  subst hn
  obtain ⟨g, cap, rfl, _, hg⟩ := hown.form (by omega)
  have hcap : L.length ≤ cap := by
    rcases hown.2 with ⟨e, h0⟩ | ⟨g', cap', cur, e, _, _, h, _⟩
    · cases e
    · injection e with e1 e2 e3
      omega
  have hc63 : cap ≤ maxLen := by
    rcases hown.2 with ⟨e, h0⟩ | ⟨g', cap', cur, e, _, _, _, h, _⟩
    · cases e
    · injection e with e1 e2 e3
      omega
  obtain ⟨i0, z0, hi0, hz0, hzc, hz1, hz2⟩ := held_zero4
  have hz17 : z0.cells.size = 17 := by rw [hzc]; rfl
  have HO := hide hown
  have HR1 : Hid (Reads W W.heap.size 17 (some ⟨g, 0, none⟩) i (hrow (L.take i))) := ⟨by rw [hrow_len, List.length_take]; omega, fun _ => ⟨_, rfl, hg, fun j u hu => by
    refine HO.out.cells (g := g) rfl j u ?_
    rw [← hrow_take] at hu
    have := List.getElem?_eq_some_iff.1 hu
    rw [List.getElem?_take_of_lt (by have := this.1; rw [List.length_take] at this; omega)] at hu
    exact hu⟩⟩
  have i1 : (0 : Int) ≤ (i : Int) := by omega
  have i2 : (i : Int) ≤ (cap : Int) := by omega
  have i3 : (i : Int) ≤ (L.length : Int) := by omega
  clear hown
  go_enter Try.func46, Try.ntmps46
  have HE : Hid (hrow (L.eraseIdx i) = hrow (L.take i) ++ hrow (L.drop (i + 1))) := by
    show _ = _
    rw [List.eraseIdx_eq_take_drop_succ, hrow_append]
  by_cases hce : cap = i + 1
  · subst hce
    have hlen : L.length - (i + 1) = 0 := by omega
    have HRD : Hid (∀ X : World, Reads X W.heap.size 17 (some ⟨g, 0, none⟩) 0 (hrow (L.drop (i + 1)))) := fun X => ⟨by rw [hrow_len, List.length_drop, hlen], fun h => absurd h (by omega)⟩
    go_wp2_with (first | (at_builtin; refine wpList_append_any _ rfl (.tmp 6) (.tmp 9) _ rfl W.heap.size 40 i0 z0 17 248 Try.underlying46 hi0 hz0 hz1 hz2 hz17 (by omega) (.slice none 0 0) 0 [] rfl (World.ownsRow_nil _ _ _ _) W.heap.size (some ⟨g, 0, none⟩) i (i + 1) (hrow (L.take i)) rfl HR1.out hrow_one (by simp only [maxLen]; omega) (by omega) (Nat.le_refl _) ?_; intro v1 w1 hown1 hg1 hat1; have HO1 := hide hown1; have HG1 := hide hg1; have hw1 := hg1.size; clear hown1 hg1 hat1) | (at_builtin; go_loud (refine wpList_append_any _ rfl (.tmp 11) (.tmp 15) _ rfl W.heap.size 40 i0 z0 17 248 Try.underlying46 hi0 hz0 hz1 hz2 hz17 (by omega) v1 (0 + i) ([] ++ hrow (L.take i)) rfl HO1.out W.heap.size (some ⟨g, 0, none⟩) 0 0 (hrow (L.drop (i + 1))) rfl (HRD.out _) hrow_one (by simp only [maxLen]; omega) (by omega) hw1 ?_; intro v2 w2 hown2 hg2 hat2; have HO2 := hide hown2; have HG2 := hide hg2; clear hown2 hg2 hat2)))
    have HB2 : Hid (Below W.heap.size W w2) := (((Below.refl _ _).grown HG1.out (Nat.le_refl _) (fun q hq => by cases hq))).grown HG2.out (by omega) (fun q hq => (HO1.out.lt q hq).1)
    have HO3 : Hid (w2.ownsRow W.heap.size 40 17 v2 (L.length - 1) (hrow (L.take i) ++ hrow (L.drop (i + 1)))) := by
      have := HO2.out
      rw [List.nil_append, show 0 + i + 0 = L.length - 1 by omega] at this
      exact this
    go_ret
    refine ⟨v2, rfl, ?_, HB2.out⟩
    rw [HE.out]
    exact HO3.out
  · have HRD : Hid (∀ X : World, Below W.heap.size W X → Reads X W.heap.size 17 (some ⟨g, (i + 1) * 17, none⟩) (L.length - (i + 1)) (hrow (L.drop (i + 1)))) := fun X hX => ⟨by rw [hrow_len, List.length_drop], fun _ => ⟨_, rfl, hg, fun j u hu => by
      rw [← hrow_drop, List.getElem?_drop] at hu
      have := HO.out.cells (g := g) rfl _ u hu
      rw [add_flat, Nat.zero_add] at this
      rw [add_flat]
      exact (hX.cell (p := ⟨g, (i + 1) * 17 + j, none⟩) hg).trans this⟩⟩
    go_wp2_with (first | (at_builtin; refine wpList_append_any _ rfl (.tmp 6) (.tmp 9) _ rfl W.heap.size 40 i0 z0 17 248 Try.underlying46 hi0 hz0 hz1 hz2 hz17 (by omega) (.slice none 0 0) 0 [] rfl (World.ownsRow_nil _ _ _ _) W.heap.size (some ⟨g, 0, none⟩) i cap (hrow (L.take i)) rfl HR1.out hrow_one (by simp only [maxLen]; omega) (by omega) (Nat.le_refl _) ?_; intro v1 w1 hown1 hg1 hat1; have HO1 := hide hown1; have HG1 := hide hg1; have hw1 := hg1.size; clear hown1 hg1 hat1) | (at_builtin; go_loud (refine wpList_append_any _ rfl (.tmp 11) (.tmp 15) _ rfl W.heap.size 40 i0 z0 17 248 Try.underlying46 hi0 hz0 hz1 hz2 hz17 (by omega) v1 (0 + i) ([] ++ hrow (L.take i)) rfl HO1.out W.heap.size (some ⟨g, (i + 1) * 17, none⟩) (L.length - (i + 1)) (cap - (i + 1)) (hrow (L.drop (i + 1))) rfl (HRD.out _ ((Below.refl _ _).grown HG1.out (Nat.le_refl _) (fun q hq => by cases hq))) hrow_one (by simp only [maxLen]; omega) (by omega) hw1 ?_; intro v2 w2 hown2 hg2 hat2; have HO2 := hide hown2; have HG2 := hide hg2; clear hown2 hg2 hat2)))
    have HB2 : Hid (Below W.heap.size W w2) := (((Below.refl _ _).grown HG1.out (Nat.le_refl _) (fun q hq => by cases hq))).grown HG2.out (by omega) (fun q hq => (HO1.out.lt q hq).1)
    have HO3 : Hid (w2.ownsRow W.heap.size 40 17 v2 (L.length - 1) (hrow (L.take i) ++ hrow (L.drop (i + 1)))) := by
      have := HO2.out
      rw [List.nil_append, show 0 + i + (L.length - (i + 1)) = L.length - 1 by omega] at this
      exact this
    go_ret
    refine ⟨v2, rfl, ?_, HB2.out⟩
    rw [HE.out]
    exact HO3.out

end Go.Proofs.Ytjijdpdbkpknpaa
