/-
  slices.Clone at the four slices of a response, and lru's copied: a response in new memory. Conditions: the slices read as lists.
-/
import Derived.Test.YtjijdpdbkpknpaaLruPush
import Derived.Test.YtjijdpdbkpknpaaRegionPhase
namespace Go.Proofs.Ytjijdpdbkpknpaa
open Go Go.RowKit

/-- a block that may be written -/
def Thawed (w : World) (q : Nat) : Prop := ∃ cs t, w.heap[q]? = some (.cells cs t (0, 0))
/-- a slice that reads so, in blocks of which D holds and that may be written -/
def ReadsT (w : World) (D : Nat → Prop) (size : Nat) (A : Option Addr) (n : Nat) (xs : List Value) : Prop := ReadsD w (fun q => D q ∧ Thawed w q) size A n xs
theorem Thawed.fr {O : Nat → Prop} {w w' : World} {q : Nat} (h : Thawed w q) (hs : Fr O w w') (hO : ¬ O q) : Thawed w' q := by
  obtain ⟨cs, t, e⟩ := h
  exact ⟨cs, t, (hs.block q (Array.getElem?_eq_some_iff.1 e).1 hO).trans e⟩
theorem ReadsT.rd {w : World} {D : Nat → Prop} {size n : Nat} {A : Option Addr} {xs : List Value} (h : ReadsT w D size A n xs) : ReadsD w D size A n xs := ReadsD.weak h fun _ hq => hq.1
theorem ReadsT.weak {w : World} {D D' : Nat → Prop} {size n : Nat} {A : Option Addr} {xs : List Value} (h : ReadsT w D size A n xs) (hD : ∀ q, D q → D' q) : ReadsT w D' size A n xs := ReadsD.weak h fun q hq => ⟨hD q hq.1, hq.2⟩
theorem ReadsT.fr {w w' : World} {D O : Nat → Prop} {size n : Nat} {A : Option Addr} {xs : List Value} (h : ReadsT w D size A n xs) (hs : Fr O w w') (hD : ∀ q, D q → ¬ O q) : ReadsT w' D size A n xs :=
  ⟨h.1, fun hn => by
    obtain ⟨ad, e, hd, hc⟩ := h.2 hn
    refine ⟨ad, e, ⟨hd.1, hd.2.fr hs (hD _ hd.1)⟩, fun j u hu => ?_⟩
    have hlt := World.block_lt_of_cell? w _ (hc j u hu)
    rw [← hc j u hu]
    exact World.cell?_of_block (hs.block _ hlt (by rw [block_of_add]; exact hD _ hd.1))⟩
theorem ReadsT.of_own {w : World} {base size n c : Nat} {A : Option Addr} {e : TypeId} {xs : List Value} (h : w.ownsRow base e size (.slice A n c) n xs) : ReadsT w (fun q => base ≤ q) size A n xs := by
  have hr := ReadsD.of_own h
  refine ⟨hr.1, fun hn => ?_⟩
  obtain ⟨ad, e1, hd, hc⟩ := hr.2 hn
  refine ⟨ad, e1, ⟨hd.1, ?_⟩, hc⟩
  rcases h.2 with ⟨_, h0⟩ | ⟨g', cap', cur, hv', hb', hg, _⟩
  · omega
  · injection hv' with e2
    rw [e1] at e2
    injection e2 with e2
    subst e2
    exact ⟨cur, e, hg⟩
/-- the same, told by a value -/
def CloneT (D : Nat → Prop) (size n : Nat) (xs : List Value) : Value → World → Prop := fun v w => ∃ A c, v = .slice A n c ∧ ReadsT w D size A n xs
/-- a slice that reads so, from a block on -/
def CloneV (D : Nat → Prop) (size n : Nat) (xs : List Value) : Value → World → Prop := fun v w => ∃ A c, v = .slice A n c ∧ ReadsD w D size A n xs
def Cloned (w : World) (size n : Nat) (xs : List Value) (e : Ending) (w' : World) : Prop := ∃ A c, e = .returned (.slice A n c) ∧ ReadsT w' (fun q => w.heap.size ≤ q) size A n xs ∧ Below w.heap.size w w'

theorem info_cstr : (Try.prog.info? 9).map (fun i => (i.zero, i.size, i.bytes)) = some (some (.string ⟨#[]⟩), 1, 16) := by kernel_rfl
set_option maxRecDepth 100000 in
set_option maxHeartbeats 400000 in
theorem clone_str (A : Option Addr) (n c B : Nat) (xs : List Value) (w : World) (hl : n ≤ 1099511627776) (hB : B ≤ w.heap.size) (h1 : ∀ u ∈ xs, u.oneCell' = true) (hA : Reads w B 1 A n xs) :
    Calls Try.prog 76 #[.slice A n c] w (Cloned w 1 n xs) := by
  have hq := fun (W : World) => Lib.run_eql_slice_nil (P := Try.prog) W
  unfold Cloned
  rcases A with _ | ad
  · have hn0 : n = 0 := by
      rcases Nat.eq_zero_or_pos n with h0 | h0
      · exact h0
      · obtain ⟨ad, e, _⟩ := hA.2 h0
        cases e
    subst hn0
    have hx := hA.1
    clear hA
    go_enter Try.func76, Try.ntmps76
    go_wp2
    go_ret
    exact ⟨none, 0, rfl, ⟨hx, fun h => absurd h (by omega)⟩, Below.refl _ _⟩
  · have HA := hide (Reads.alloc hA hB (.cells #[] 9))
    clear hA
    go_enter Try.func76, Try.ntmps76
    obtain ⟨i0, hi0, hz0, hz1, hz2⟩ := info_parts info_cstr
    go_wp2_with (at_builtin; refine wpList_append_any _ rfl (.tmp 5) (.tmp 6) _ rfl w.heap.size 9 i0 _ 1 16 Try.underlying28 hi0 hz0 hz1 hz2 rfl (by omega) (.slice (some ⟨w.heap.size, 0, none⟩) 0 0) 0 [] rfl (World.ownsRow_made w #[] 0 (Nat.le_refl _) (by simp only [maxLen]; omega) rfl) B (some ad) n c xs rfl HA.out h1 (by simp only [maxLen]; omega) (by omega) (by simp) ?_; intro v1 w1 hown1 hg1 hat1)
    rw [Nat.zero_add, List.nil_append] at hown1
    have HOW := hide hown1
    clear hown1
    go_ret
    have hbe := (Below.alloc (Below.refl w.heap.size w) (Nat.le_refl _) (.cells #[] 9)).grown hg1 (by simp) (fun k hk => by simp [Value.ownBlock] at hk; omega)
    rcases HOW.out.2 with ⟨e, h0⟩ | ⟨g, cap, cur, e, hb, _⟩
    · exact ⟨none, 0, by rw [e, h0]; rfl, ⟨HOW.out.1, fun h => absurd h (by omega)⟩, hbe⟩
    · refine ⟨some ⟨g, 0, none⟩, cap, by rw [e]; rfl, ?_, hbe⟩
      have := HOW.out
      rw [e] at this
      exact ReadsT.of_own this

theorem info_cfld : (Try.prog.info? 101).map (fun i => (i.zero, i.size, i.bytes)) = some (some (.agg #[.string ⟨#[]⟩, .string ⟨#[]⟩]), 2, 32) := by kernel_rfl
set_option maxRecDepth 100000 in
set_option maxHeartbeats 400000 in
theorem clone_fld (A : Option Addr) (n c B : Nat) (xs : List Value) (w : World) (hl : n ≤ 1099511627776) (hB : B ≤ w.heap.size) (h1 : ∀ u ∈ xs, u.oneCell' = true) (hA : Reads w B 2 A n xs) :
    Calls Try.prog 77 #[.slice A n c] w (Cloned w 2 n xs) := by
  have hq := fun (W : World) => Lib.run_eql_slice_nil (P := Try.prog) W
  unfold Cloned
  rcases A with _ | ad
  · have hn0 : n = 0 := by
      rcases Nat.eq_zero_or_pos n with h0 | h0
      · exact h0
      · obtain ⟨ad, e, _⟩ := hA.2 h0
        cases e
    subst hn0
    have hx := hA.1
    clear hA
    go_enter Try.func77, Try.ntmps77
    go_wp2
    go_ret
    exact ⟨none, 0, rfl, ⟨hx, fun h => absurd h (by omega)⟩, Below.refl _ _⟩
  · have HA := hide (Reads.alloc hA hB (.cells #[] 101))
    clear hA
    go_enter Try.func77, Try.ntmps77
    obtain ⟨i0, hi0, hz0, hz1, hz2⟩ := info_parts info_cfld
    go_wp2_with (at_builtin; refine wpList_append_any _ rfl (.tmp 5) (.tmp 6) _ rfl w.heap.size 101 i0 _ 2 32 Try.underlying32 hi0 hz0 hz1 hz2 rfl (by omega) (.slice (some ⟨w.heap.size, 0, none⟩) 0 0) 0 [] rfl (World.ownsRow_made w #[] 0 (Nat.le_refl _) (by simp only [maxLen]; omega) rfl) B (some ad) n c xs rfl HA.out h1 (by simp only [maxLen]; omega) (by omega) (by simp) ?_; intro v1 w1 hown1 hg1 hat1)
    rw [Nat.zero_add, List.nil_append] at hown1
    have HOW := hide hown1
    clear hown1
    go_ret
    have hbe := (Below.alloc (Below.refl w.heap.size w) (Nat.le_refl _) (.cells #[] 101)).grown hg1 (by simp) (fun k hk => by simp [Value.ownBlock] at hk; omega)
    rcases HOW.out.2 with ⟨e, h0⟩ | ⟨g, cap, cur, e, hb, _⟩
    · exact ⟨none, 0, by rw [e, h0]; rfl, ⟨HOW.out.1, fun h => absurd h (by omega)⟩, hbe⟩
    · refine ⟨some ⟨g, 0, none⟩, cap, by rw [e]; rfl, ?_, hbe⟩
      have := HOW.out
      rw [e] at this
      exact ReadsT.of_own this

theorem info_cext : (Try.prog.info? 146).map (fun i => (i.zero, i.size, i.bytes)) = some (some (.agg #[.int .i64 0, .int .i64 0]), 2, 16) := by kernel_rfl
set_option maxRecDepth 100000 in
set_option maxHeartbeats 400000 in
theorem clone_ext (A : Option Addr) (n c B : Nat) (xs : List Value) (w : World) (hl : n ≤ 1099511627776) (hB : B ≤ w.heap.size) (h1 : ∀ u ∈ xs, u.oneCell' = true) (hA : Reads w B 2 A n xs) :
    Calls Try.prog 78 #[.slice A n c] w (Cloned w 2 n xs) := by
  have hq := fun (W : World) => Lib.run_eql_slice_nil (P := Try.prog) W
  unfold Cloned
  rcases A with _ | ad
  · have hn0 : n = 0 := by
      rcases Nat.eq_zero_or_pos n with h0 | h0
      · exact h0
      · obtain ⟨ad, e, _⟩ := hA.2 h0
        cases e
    subst hn0
    have hx := hA.1
    clear hA
    go_enter Try.func78, Try.ntmps78
    go_wp2
    go_ret
    exact ⟨none, 0, rfl, ⟨hx, fun h => absurd h (by omega)⟩, Below.refl _ _⟩
  · have HA := hide (Reads.alloc hA hB (.cells #[] 146))
    clear hA
    go_enter Try.func78, Try.ntmps78
    obtain ⟨i0, hi0, hz0, hz1, hz2⟩ := info_parts info_cext
    go_wp2_with (at_builtin; refine wpList_append_any _ rfl (.tmp 5) (.tmp 6) _ rfl w.heap.size 146 i0 _ 2 16 Try.underlying36 hi0 hz0 hz1 hz2 rfl (by omega) (.slice (some ⟨w.heap.size, 0, none⟩) 0 0) 0 [] rfl (World.ownsRow_made w #[] 0 (Nat.le_refl _) (by simp only [maxLen]; omega) rfl) B (some ad) n c xs rfl HA.out h1 (by simp only [maxLen]; omega) (by omega) (by simp) ?_; intro v1 w1 hown1 hg1 hat1)
    rw [Nat.zero_add, List.nil_append] at hown1
    have HOW := hide hown1
    clear hown1
    go_ret
    have hbe := (Below.alloc (Below.refl w.heap.size w) (Nat.le_refl _) (.cells #[] 146)).grown hg1 (by simp) (fun k hk => by simp [Value.ownBlock] at hk; omega)
    rcases HOW.out.2 with ⟨e, h0⟩ | ⟨g, cap, cur, e, hb, _⟩
    · exact ⟨none, 0, by rw [e, h0]; rfl, ⟨HOW.out.1, fun h => absurd h (by omega)⟩, hbe⟩
    · refine ⟨some ⟨g, 0, none⟩, cap, by rw [e]; rfl, ?_, hbe⟩
      have := HOW.out
      rw [e] at this
      exact ReadsT.of_own this

theorem info_cbyt : (Try.prog.info? 5).map (fun i => (i.zero, i.size, i.bytes)) = some (some (.int .u8 0), 1, 1) := by kernel_rfl
set_option maxRecDepth 100000 in
set_option maxHeartbeats 400000 in
theorem clone_byt (A : Option Addr) (n c B : Nat) (xs : List Value) (w : World) (hl : n ≤ 1099511627776) (hB : B ≤ w.heap.size) (h1 : ∀ u ∈ xs, u.oneCell' = true) (hA : Reads w B 1 A n xs) :
    Calls Try.prog 70 #[.slice A n c] w (Cloned w 1 n xs) := by
  have hq := fun (W : World) => Lib.run_eql_slice_nil (P := Try.prog) W
  unfold Cloned
  rcases A with _ | ad
  · have hn0 : n = 0 := by
      rcases Nat.eq_zero_or_pos n with h0 | h0
      · exact h0
      · obtain ⟨ad, e, _⟩ := hA.2 h0
        cases e
    subst hn0
    have hx := hA.1
    clear hA
    go_enter Try.func70, Try.ntmps70
    go_wp2
    go_ret
    exact ⟨none, 0, rfl, ⟨hx, fun h => absurd h (by omega)⟩, Below.refl _ _⟩
  · have HA := hide (Reads.alloc hA hB (.cells #[] 5))
    clear hA
    go_enter Try.func70, Try.ntmps70
    obtain ⟨i0, hi0, hz0, hz1, hz2⟩ := info_parts info_cbyt
    go_wp2_with (at_builtin; refine wpList_append_any _ rfl (.tmp 5) (.tmp 6) _ rfl w.heap.size 5 i0 _ 1 1 Try.underlying27 hi0 hz0 hz1 hz2 rfl (by omega) (.slice (some ⟨w.heap.size, 0, none⟩) 0 0) 0 [] rfl (World.ownsRow_made w #[] 0 (Nat.le_refl _) (by simp only [maxLen]; omega) rfl) B (some ad) n c xs rfl HA.out h1 (by simp only [maxLen]; omega) (by omega) (by simp) ?_; intro v1 w1 hown1 hg1 hat1)
    rw [Nat.zero_add, List.nil_append] at hown1
    have HOW := hide hown1
    clear hown1
    go_ret
    have hbe := (Below.alloc (Below.refl w.heap.size w) (Nat.le_refl _) (.cells #[] 5)).grown hg1 (by simp) (fun k hk => by simp [Value.ownBlock] at hk; omega)
    rcases HOW.out.2 with ⟨e, h0⟩ | ⟨g, cap, cur, e, hb, _⟩
    · exact ⟨none, 0, by rw [e, h0]; rfl, ⟨HOW.out.1, fun h => absurd h (by omega)⟩, hbe⟩
    · refine ⟨some ⟨g, 0, none⟩, cap, by rw [e]; rfl, ?_, hbe⟩
      have := HOW.out
      rw [e] at this
      exact ReadsT.of_own this

theorem ReadsD.fr {w w' : World} {D O : Nat → Prop} {size n : Nat} {A : Option Addr} {xs : List Value} (h : ReadsD w D size A n xs) (hs : Fr O w w') (hD : ∀ q, D q → ¬ O q) : ReadsD w' D size A n xs :=
  ⟨h.1, fun hn => by
    obtain ⟨ad, e, hd, hc⟩ := h.2 hn
    refine ⟨ad, e, hd, fun j u hu => ?_⟩
    have hlt := World.block_lt_of_cell? w _ (hc j u hu)
    rw [← hc j u hu]
    exact World.cell?_of_block (hs.block _ hlt (by rw [block_of_add]; exact hD _ hd))⟩
theorem HeldD.fr {w w' : World} {D O : Nat → Prop} {h : Hd} {l : Loc} (H : HeldD w D h l) (hs : Fr O w w') (hD : ∀ q, D q → ¬ O q) : HeldD w' D h l := ⟨H.names.fr hs hD, H.fields.fr hs hD, H.body.fr hs hD, H.bytes.fr hs hD⟩
theorem pre_fr (O : Nat → Prop) : Pre (Fr O) := ⟨fun w => Fr.refl O w, fun h k => h.trans k (fun _ _ e => e)⟩
theorem CloneT_stable {O D : Nat → Prop} {size n : Nat} {xs : List Value} (hD : ∀ q, D q → ¬ O q) : StableP (Fr O) (CloneT D size n xs) := fun _ _ _ ⟨A, c, e, h⟩ hk => ⟨A, c, e, h.fr hk hD⟩
theorem CloneV_stable {O D : Nat → Prop} {size n : Nat} {xs : List Value} (hD : ∀ q, D q → ¬ O q) : StableP (Fr O) (CloneV D size n xs) := fun _ _ _ ⟨A, c, e, h⟩ hk => ⟨A, c, e, h.fr hk hD⟩

/-- one of the four spots: as it was, or a clone -/
def Spot (w : World) (D : Nat → Prop) (size n : Nat) (xs : List Value) (A0 : Option Addr) (c0 : Nat) (A : Option Addr) (c : Nat) (done : Prop) : Prop := (¬ done → A = A0 ∧ c = c0) ∧ (done → ReadsT w D size A n xs)
def CopyI (h0 : Nat) (D : Nat → Prop) (h : Hd) (l : Loc) (L : Nat → Prop) (w : World) : Prop := ∃ l' : Loc, Blk w h0 40 (hcs h l').toArray ∧
  Spot w D 1 h.names.length (strs h.names) l.an l.cn l'.an l'.cn (L 17) ∧ Spot w D 2 h.fields.length (flds h.fields) l.af l.cf l'.af l'.cf (L 20) ∧
  Spot w D 2 h.body.length (exts h.body) l.ab l.cb l'.ab l'.cb (L 23) ∧ Spot w D 1 h.bytes.length (byts h.bytes) l.ay l.cy l'.ay l'.cy (L 25)
theorem Spot.fr {w w' : World} {D O : Nat → Prop} {size n : Nat} {xs : List Value} {A0 A : Option Addr} {c0 c : Nat} {d d' : Prop} (h : Spot w D size n xs A0 c0 A c d) (hs : Fr O w w') (hD : ∀ q, D q → ¬ O q) (hd : d' ↔ d) : Spot w' D size n xs A0 c0 A c d' :=
  ⟨fun hn => h.1 (fun e => hn (hd.2 e)), fun e => (h.2 (hd.1 e)).fr hs hD⟩
theorem CopyI.stay {h0 k : Nat} {D : Nat → Prop} {h : Hd} {l : Loc} {L : Nat → Prop} {w w' : World} (H : CopyI h0 D h l L w) (hk : k ≠ 17 ∧ k ≠ 20 ∧ k ≠ 23 ∧ k ≠ 25) (hb : Below w.heap.size w w') : CopyI h0 D h l (fun j => j = k ∨ L j) w' := by
  obtain ⟨l', hblk, s1, s2, s3, s4⟩ := H
  have hf := Fr.of_below hb (fun _ => False)
  have e : ∀ j, j ≠ k → ((j = k ∨ L j) ↔ L j) := fun j hj => ⟨fun o => o.resolve_left hj, .inr⟩
  exact ⟨l', hblk.below hb hblk.lt, s1.fr hf (fun _ _ => id) (e 17 (Ne.symm hk.1)), s2.fr hf (fun _ _ => id) (e 20 (Ne.symm hk.2.1)), s3.fr hf (fun _ _ => id) (e 23 (Ne.symm hk.2.2.1)), s4.fr hf (fun _ _ => id) (e 25 (Ne.symm hk.2.2.2))⟩
theorem CopyI.c17 {h0 : Nat} {D : Nat → Prop} {h : Hd} {l : Loc} {L : Nat → Prop} {w : World} (H : CopyI h0 D h l L w) (hL : ¬ L 17) : w.cell? ⟨h0, 2, none⟩ = some (.slice l.an h.names.length l.cn) := by
  obtain ⟨l', hblk, s1, -⟩ := H
  obtain ⟨e1, e2⟩ := s1.1 hL
  rw [← e1, ← e2]
  exact hblk.cell 2
theorem CopyI.c20 {h0 : Nat} {D : Nat → Prop} {h : Hd} {l : Loc} {L : Nat → Prop} {w : World} (H : CopyI h0 D h l L w) (hL : ¬ L 20) : w.cell? ⟨h0, 9, none⟩ = some (.slice l.af h.fields.length l.cf) := by
  obtain ⟨l', hblk, -, s1, -⟩ := H
  obtain ⟨e1, e2⟩ := s1.1 hL
  rw [← e1, ← e2]
  exact hblk.cell 9
theorem CopyI.c23 {h0 : Nat} {D : Nat → Prop} {h : Hd} {l : Loc} {L : Nat → Prop} {w : World} (H : CopyI h0 D h l L w) (hL : ¬ L 23) : w.cell? ⟨h0, 15, none⟩ = some (.slice l.ab h.body.length l.cb) := by
  obtain ⟨l', hblk, -, -, s1, -⟩ := H
  obtain ⟨e1, e2⟩ := s1.1 hL
  rw [← e1, ← e2]
  exact hblk.cell 15
theorem CopyI.c25 {h0 : Nat} {D : Nat → Prop} {h : Hd} {l : Loc} {L : Nat → Prop} {w : World} (H : CopyI h0 D h l L w) (hL : ¬ L 25) : w.cell? ⟨h0, 16, none⟩ = some (.slice l.ay h.bytes.length l.cy) := by
  obtain ⟨l', hblk, -, -, -, s1⟩ := H
  obtain ⟨e1, e2⟩ := s1.1 hL
  rw [← e1, ← e2]
  exact hblk.cell 16
section
variable {h0 : Nat} {D : Nat → Prop} {h : Hd} {l : Loc} {L : Nat → Prop} {w : World}
theorem CopyI.cell (H : CopyI h0 D h l L w) (i : Nat) (hi : i < 17) : (∃ u, w.cell? ⟨h0, i, none⟩ = some u) ∧ w.frozen? ⟨h0, i, none⟩ = false := by
  obtain ⟨l', hblk, -⟩ := H
  exact ⟨⟨_, (hblk.cell i).trans (Array.getElem?_eq_getElem (by rw [hcs_size]; exact hi))⟩, hblk.frozen i⟩
theorem CopyI.put17 (H : CopyI h0 D h l L w) (hD : ∀ q, D q → q ≠ h0) {A : Option Addr} {c : Nat} (hr : ReadsT w D 1 A h.names.length (strs h.names)) : CopyI h0 D h l (fun j => j = 17 ∨ L j) (w.setCell ⟨h0, 2, none⟩ (.slice A h.names.length c)) := by
  obtain ⟨l', hblk, s1, s2, s3, s4⟩ := H
  have hf := Fr.of_set w ⟨h0, 2, none⟩ (.slice A h.names.length c)
  have e : ∀ j, j ≠ 17 → ((j = 17 ∨ L j) ↔ L j) := fun j hj => ⟨fun o => o.resolve_left hj, .inr⟩
  exact ⟨{ l' with an := A, cn := c }, hblk.set_ 2 _, ⟨fun hn => absurd (.inl rfl) hn, fun _ => hr.fr hf hD⟩, s2.fr hf hD (e 20 (by decide)), s3.fr hf hD (e 23 (by decide)), s4.fr hf hD (e 25 (by decide))⟩
theorem CopyI.put20 (H : CopyI h0 D h l L w) (hD : ∀ q, D q → q ≠ h0) {A : Option Addr} {c : Nat} (hr : ReadsT w D 2 A h.fields.length (flds h.fields)) : CopyI h0 D h l (fun j => j = 20 ∨ L j) (w.setCell ⟨h0, 9, none⟩ (.slice A h.fields.length c)) := by
  obtain ⟨l', hblk, s1, s2, s3, s4⟩ := H
  have hf := Fr.of_set w ⟨h0, 9, none⟩ (.slice A h.fields.length c)
  have e : ∀ j, j ≠ 20 → ((j = 20 ∨ L j) ↔ L j) := fun j hj => ⟨fun o => o.resolve_left hj, .inr⟩
  exact ⟨{ l' with af := A, cf := c }, hblk.set_ 9 _, s1.fr hf hD (e 17 (by decide)), ⟨fun hn => absurd (.inl rfl) hn, fun _ => hr.fr hf hD⟩, s3.fr hf hD (e 23 (by decide)), s4.fr hf hD (e 25 (by decide))⟩
theorem CopyI.put23 (H : CopyI h0 D h l L w) (hD : ∀ q, D q → q ≠ h0) {A : Option Addr} {c : Nat} (hr : ReadsT w D 2 A h.body.length (exts h.body)) : CopyI h0 D h l (fun j => j = 23 ∨ L j) (w.setCell ⟨h0, 15, none⟩ (.slice A h.body.length c)) := by
  obtain ⟨l', hblk, s1, s2, s3, s4⟩ := H
  have hf := Fr.of_set w ⟨h0, 15, none⟩ (.slice A h.body.length c)
  have e : ∀ j, j ≠ 23 → ((j = 23 ∨ L j) ↔ L j) := fun j hj => ⟨fun o => o.resolve_left hj, .inr⟩
  exact ⟨{ l' with ab := A, cb := c }, hblk.set_ 15 _, s1.fr hf hD (e 17 (by decide)), s2.fr hf hD (e 20 (by decide)), ⟨fun hn => absurd (.inl rfl) hn, fun _ => hr.fr hf hD⟩, s4.fr hf hD (e 25 (by decide))⟩
theorem CopyI.put25 (H : CopyI h0 D h l L w) (hD : ∀ q, D q → q ≠ h0) {A : Option Addr} {c : Nat} (hr : ReadsT w D 1 A h.bytes.length (byts h.bytes)) : CopyI h0 D h l (fun j => j = 25 ∨ L j) (w.setCell ⟨h0, 16, none⟩ (.slice A h.bytes.length c)) := by
  obtain ⟨l', hblk, s1, s2, s3, s4⟩ := H
  have hf := Fr.of_set w ⟨h0, 16, none⟩ (.slice A h.bytes.length c)
  have e : ∀ j, j ≠ 25 → ((j = 25 ∨ L j) ↔ L j) := fun j hj => ⟨fun o => o.resolve_left hj, .inr⟩
  exact ⟨{ l' with ay := A, cy := c }, hblk.set_ 16 _, s1.fr hf hD (e 17 (by decide)), s2.fr hf hD (e 20 (by decide)), s3.fr hf hD (e 23 (by decide)), ⟨fun hn => absurd (.inl rfl) hn, fun _ => hr.fr hf hD⟩⟩
end
end Go.Proofs.Ytjijdpdbkpknpaa
