/-
  The records that a journal's Open finds; found in one form. No walk.
-/
import Derived.Test.YtogjdfiimflbaaaJrCommit
namespace Go.Proofs.Ytogjdfiimflbaaa
open Go Go.RowKit

/-- puts that a record may hold -/
def GoodP (z L : Nat) (ps : List PutL) : Prop := 1 ≤ ps.length ∧ ps.length ≤ 10 ∧ ∀ p ∈ ps, PutOk p ∧ z ≤ p.1 ∧ p.1 < L
/-- what found says -/
def FoundR (ls : List (List UInt8)) (z L a n : Nat) (b : Bool) (ps : List PutL) : Prop := 2 ≤ a ∧ a < 65536 ∧ ((b = true ∧ GoodP z L ps ∧ RecAt ls a n ps) ∨ (b = false ∧ ps = [] ∧ NoRec ls a n))
/-- the records found from a sector on -/
def Chain (ls : List (List UInt8)) (z L : Nat) : Nat → Nat → List (List PutL) → Nat → Prop
  | a, n, [], a' => FoundR ls z L a n false [] ∧ FoundR ls z L 2 n false [] ∧ a' = a
  | a, n, ps :: rs, a' => (FoundR ls z L a n true ps ∧ Chain ls z L (a + (ps.length + 2)) (n + 1) rs a') ∨ (FoundR ls z L a n false [] ∧ FoundR ls z L 2 n true ps ∧ Chain ls z L (2 + (ps.length + 2)) (n + 1) rs a')
theorem chain_good {ls : List (List UInt8)} {z L : Nat} : ∀ {rs : List (List PutL)} {a n a' : Nat}, Chain ls z L a n rs a' → ∀ ps ∈ rs, GoodP z L ps
  | [], _, _, _, _ => fun ps h => absurd h List.not_mem_nil
  | ps :: rs, a, n, a', h => fun qs hq => by
    have fg : ∀ {b : Nat}, FoundR ls z L b n true ps → GoodP z L ps := fun h => by
      rcases h.2.2 with ⟨_, h, _⟩ | ⟨h, _⟩
      · exact h
      · cases h
    rcases List.mem_cons.1 hq with rfl | hq
    · rcases h with h | h
      · exact fg h.1
      · exact fg h.2.1
    · rcases h with h | h
      · exact chain_good h.2 qs hq
      · exact chain_good h.2.2 qs hq
section
variable {W : World} {A : Option Addr} {ls : List (List UInt8)} {B g c m : Nat} {N : List (List UInt8)}
theorem found_any (hA : RowsBlk W A ls) (hD : DevC W B g c N m) {z a num n k : Nat} {ps : List PutL} {b : Bool} (hn : n = ls.length) (hl : ls.length ≤ 65536) (hnum : num < 65536) (h : FoundR ls z N.length a num b ps) :
    Calls Try.prog 23 #[.agg (placeC g z), .slice A n k, .int .i64 (a : Int), .int .i64 (num : Int)] W fun e W' => ∃ A' c', e = .returned (.tuple #[.slice A' ps.length c', .bool b]) ∧ PutsAt W' A' ps ∧ Below W.heap.size W W' := by
  obtain ⟨h2, h3, ⟨rfl, hg, hr⟩ | ⟨rfl, rfl, hr⟩⟩ := h
  · exact found_yes hA hD hn hl h2 (by omega) hg.1 hg.2.1 (fun p hp => (hg.2.2 p hp).1) (fun p hp => (hg.2.2 p hp).2) hr
  · refine (found_no hA hn hl h2 (by omega) (by omega) hr).mono ?_
    rintro e W' ⟨rfl, hb⟩
    exact ⟨none, 0, rfl, fun h0 => absurd h0 (by simp), hb⟩
theorem PutsAt.reads {ps : List PutL} (h : PutsAt W A ps) : ∃ us, SecVs W (fun _ => True) us (ps.map (·.2)) ∧ Reads W W.heap.size 2 A ps.length (putsC ps us) ∧ ∀ u ∈ putsC ps us, u.oneCell' = true := by
  rcases Nat.eq_zero_or_pos ps.length with h0 | h0
  · rw [List.eq_nil_of_length_eq_zero h0]
    exact ⟨[], .nil, ⟨rfl, fun h => absurd h (by simp)⟩, fun u hu => by simp [putsC] at hu⟩
  · obtain ⟨gr, xs, rfl, hl, hx⟩ := h.list h0
    have hget : ∀ (k : Nat) (p : PutL), ps[k]? = some p → ∃ u, xs[k]? = some (p.1, u) ∧ SecV W (fun _ => True) u p.2 := fun k p hk => by
      have hkl := (List.getElem?_eq_some_iff.1 hk).1
      obtain ⟨⟨q, u⟩, hqu⟩ : ∃ q, xs[k]? = some q := ⟨_, List.getElem?_eq_getElem (by omega)⟩
      obtain ⟨⟨b, hb, hs⟩, _⟩ := hx k q u hqu
      rw [hk] at hb
      injection hb with hb
      subst hb
      exact ⟨u, hqu, hs⟩
    have hul : (xs.map (·.2)).length = ps.length := by rw [List.length_map, hl]
    have hsv : SecVs W (fun _ => True) (xs.map (·.2)) (ps.map (·.2)) := ⟨by rw [hul, List.length_map], fun i u b h1 h2 => by
      rw [List.getElem?_map] at h1 h2
      obtain ⟨p, hp, rfl⟩ := Option.map_eq_some_iff.1 h2
      obtain ⟨u', hu', hs⟩ := hget i p hp
      rw [hu'] at h1
      injection h1 with h1
      subst h1
      exact hs⟩
    have hcell : ∀ (j : Nat) (u : Value), (putsC ps (xs.map (·.2)))[j]? = some u → W.cell? ⟨gr, j, none⟩ = some u ∧ u.oneCell' = true := fun j u hu => by
      have hj := (List.getElem?_eq_some_iff.1 hu).1
      rw [putsC_len _ _ hul] at hj
      have hk : j / 2 < ps.length := by omega
      obtain ⟨p, hp⟩ : ∃ p, ps[j / 2]? = some p := ⟨_, List.getElem?_eq_getElem hk⟩
      obtain ⟨u', hu', hs⟩ := hget _ p hp
      obtain ⟨c0, c1⟩ := putsC_get ps _ (j / 2) p hul hp
      obtain ⟨d0, d1⟩ := (hx _ _ _ hu').2 W (Below.refl _ _)
      rcases Nat.mod_two_eq_zero_or_one j with hm | hm
      · rw [show 2 * (j / 2) = j by omega, hu] at c0
        rw [show j / 2 * 2 = j by omega] at d0
        injection c0 with c0
        subst c0
        exact ⟨d0, rfl⟩
      · rw [show 2 * (j / 2) + 1 = j by omega, hu, List.getElem?_map, hu'] at c1
        rw [show j / 2 * 2 + 1 = j by omega] at d1
        injection c1 with c1
        subst c1
        exact ⟨d1, hs.one⟩
    have hgl : gr < W.heap.size := by
      obtain ⟨gr', cur, e, hb, _⟩ := h h0
      injection e with e
      injection e with e
      subst e
      exact hb.lt
    refine ⟨_, hsv, ⟨putsC_len _ _ hul, fun _ => ⟨_, rfl, hgl, fun j u hu => ?_⟩⟩, fun u hu => ?_⟩
    · rw [add_flat, Nat.zero_add]
      exact (hcell j u hu).1
    · obtain ⟨j, hj⟩ := List.mem_iff_getElem?.1 hu
      exact (hcell j u hj).2
end
theorem putsC_append : ∀ (ps qs : List PutL) (us vs : List Value), us.length = ps.length → putsC (ps ++ qs) (us ++ vs) = putsC ps us ++ putsC qs vs
  | [], _, [], _, _ => rfl
  | [], _, _ :: _, _, h => by cases h
  | _ :: _, _, [], _, h => by cases h
  | p :: ps, qs, u :: us, vs, h => by
    have := putsC_append ps qs us vs (by simpa using h)
    simp only [List.cons_append, putsC, this]
theorem built_jrn (g z : Nat) (m f a : Int) : Try.prog.built 68 [(0, .agg (placeC g z)), (1, .agg (markI m f a)), (2, .int .i64 f), (3, .int .i64 a), (4, .int .i64 a)] = some #[.pointer (some ⟨g, 0, none⟩), .int .i64 0, .int .i64 (z : Int), .int .i64 m, .int .i64 f, .int .i64 a, .int .i64 f, .int .i64 a, .int .i64 a, .bool false, .slice none 0 0, .int .i64 0] := by kernel_rfl
theorem build_jrn (W : World) (g z : Nat) (m f a : Int) : (Instr.build 68 #[(0, .agg (placeC g z)), (1, .agg (markI m f a)), (2, .int .i64 f), (3, .int .i64 a), (4, .int .i64 a)]).run Try.prog W = .ok (.agg #[.pointer (some ⟨g, 0, none⟩), .int .i64 0, .int .i64 (z : Int), .int .i64 m, .int .i64 f, .int .i64 a, .int .i64 f, .int .i64 a, .int .i64 a, .bool false, .slice none 0 0, .int .i64 0]) W := run_build W _ _ _ (built_jrn g z m f a)
end Go.Proofs.Ytogjdfiimflbaaa
