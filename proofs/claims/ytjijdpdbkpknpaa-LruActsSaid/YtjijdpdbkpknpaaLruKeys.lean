/-
  The walks of lru's keys, Keys, Used, segments. Conditions: the cache lies as its state says.
-/
import Derived.Test.YtjijdpdbkpknpaaLruAt
namespace Go.Proofs.Ytjijdpdbkpknpaa
open Go Go.RowKit

def keysOf (l : List Hd) : List ByteArray := l.map (·.key)
def StrsNew (W : World) (l : List ByteArray) (e : Ending) (W' : World) : Prop := ∃ A c, e = .returned (.slice A l.length c) ∧ ReadsD W' (fun q => W.heap.size ≤ q ∧ q < W'.heap.size) 1 A l.length (strs l) ∧ Below W.heap.size W W'
theorem own_strs {W : World} {base : Nat} {v : Value} {l : List ByteArray} (h : W.ownsRow base 9 1 v l.length (strs l)) : ∃ A c, v = .slice A l.length c ∧ ReadsD W (fun q => base ≤ q ∧ q < W.heap.size) 1 A l.length (strs l) := by
  rcases h.2 with ⟨e1, h0⟩ | ⟨g', cap, cur, e1, _⟩
  · exact ⟨none, 0, by rw [e1, h0], ⟨h.1, fun hp => absurd hp (by omega)⟩⟩
  · refine ⟨_, cap, e1, ?_⟩
    rw [e1] at h
    exact ReadsD.of_own h
theorem info_str : (Try.prog.info? 9).map (fun i => (i.zero, i.size, i.bytes)) = some (some (.string ⟨#[]⟩), 1, 16) := by kernel_rfl

set_option maxRecDepth 100000 in
set_option maxHeartbeats 1000000 in
theorem keys_any (L : List (Hd × Loc)) (A : Option Addr) (g o c B : Nat) (w : World) (hl : L.length ≤ 1000000) (hB : B ≤ w.heap.size) (hA : Reads w B 17 A L.length (hrow L)) (hc : w.cell? ⟨g, o, none⟩ = some (.slice A L.length c)) :
    Calls Try.prog 44 #[.pointer (some ⟨g, o, none⟩)] w (StrsNew w (keysOf (hds L))) := by
  have HA := hide hA
  clear hA
  obtain ⟨i0, hi0, hz0, hz1, hz2⟩ := info_parts info_str
  have hkl : (keysOf (hds L)).length = L.length := by simp [keysOf, hds]
  unfold StrsNew
  rw [hkl]
  have HKL := hide hkl
  clear hkl
  go_enter Try.func44, Try.ntmps44
  go_wp2_with fail
  go_loopw [3, 11] (fun v i wr => ∃ k : Nat, k ≤ L.length ∧ i = .int .i64 k ∧ wr.ownsRow w.heap.size 9 1 v k (strs ((keysOf (hds L)).take k)) ∧ Below w.heap.size w wr) (fun _ i _ => L.length - (intOf i).toNat)
  case atStart => exact ⟨0, Nat.zero_le _, rfl, World.ownsRow_nil _ _ _ _, Below.refl _ _⟩
  case round =>
    obtain ⟨k, hk, rfl, hown, hbe⟩ := hrel
    have HO := hide hown
    have HB1 := hide hbe
    have hsz := hbe.size
    clear hown hbe
    by_cases hlt : k < L.length
    · obtain ⟨ad, rfl, hb, hxx⟩ := (unhide HA).2 (by omega)
      clear hxx
      have HL := hide (load_held wr (ad.add (k * 17)) L[k].1 L[k].2 (fun i v hv => (HB1.out.cell (by rw [block_of_add, block_of_add]; omega)).trans (row_cells HA.out k hlt rfl i v hv)))
      have HT : Hid (strs ((keysOf (hds L)).take (k + 1)) = strs ((keysOf (hds L)).take k) ++ [.string L[k].1.key]) := by
        have hkl2 : k < (keysOf (hds L)).length := by rw [HKL.out]; exact hlt
        show strs _ = _
        rw [List.take_succ_eq_append_getElem hkl2]
        simp [strs, keysOf, hds]
      generalize L[k].1 = h at *
      generalize L[k].2 = l at *
      have i1 : (0 : Int) ≤ (k : Int) := by omega
      have i2 : (k : Int) < (L.length : Int) := by omega
      have hz := fun W' => zero_held W'
      have hsc := cells_held_new wr h l
      have HHB : Hid (Blk (wr.alloc (.cells (hcs h l).toArray 40)) wr.heap.size 40 (hcs h l).toArray) := Blk.new _ _ _
      have HW2 : Hid (Below wr.heap.size wr (wr.alloc (.cells (hcs h l).toArray 40))) := (Below.refl _ _).alloc (Nat.le_refl _) _
      generalize wr.alloc (.cells (hcs h l).toArray 40) = W2 at *
      have q0 : W2.cell? ⟨wr.heap.size, 0, none⟩ = some (.string h.key) := HHB.out.cell 0
      have hw2 := HW2.out.size
      have HO2 : Hid ((W2.alloc (.cells #[.string h.key] 9)).ownsRow w.heap.size 9 1 u3 k (strs ((keysOf (hds L)).take k))) := own_keep HO.out (HW2.out.alloc hw2 _)
      have HR2 : Hid (Reads (W2.alloc (.cells #[.string h.key] 9)) (W2.heap.size + 1) 1 (some ⟨W2.heap.size, 0, none⟩) 1 [.string h.key]) := ⟨rfl, fun _ => ⟨_, rfl, by simp, fun j u hu => by
        rw [add_flat, cell_new, ← hu]
        simp⟩⟩
      generalize h.key = key at *
      go_wp2_with (first | (with_reducible refine wpList_load_run rfl 40 (.tmp 13) rfl HL.out rfl ?_) | (at_builtin; refine wpList_append_any _ rfl (.tmp 15) (.tmp 18) _ rfl w.heap.size 9 i0 _ 1 16 Try.underlying28 hi0 hz0 hz1 hz2 rfl (by omega) u3 k (strs ((keysOf (hds L)).take k)) rfl HO2.out (W2.heap.size + 1) (some ⟨W2.heap.size, 0, none⟩) 1 1 [.string key] rfl HR2.out (by simp [Value.oneCell']) (by simp only [maxLen]; omega) (by omega) (by simp; omega) ?_; intro v1 w1 hown1 hg1 hat1))
      have HO1 : Hid (w1.ownsRow w.heap.size 9 1 v1 (k + 1) (strs ((keysOf (hds L)).take (k + 1)))) := by rw [HT.out]; exact hown1
      have HB3 : Hid (Below w.heap.size w w1) := ((HB1.out.trans (HW2.out.mono hsz)).alloc (by omega) _).grown hg1 (by simp; omega) (fun q hq => (HO2.out.lt q hq).1)
      clear hown1 hg1 hat1
      go_roundw
      case rel => exact ⟨k + 1, by omega, by go_num, HO1.out, HB3.out⟩
      case measure => simp [intOf]; omega
    · obtain rfl : k = L.length := by omega
      have HO2 : Hid (wr.ownsRow w.heap.size 9 1 u3 (keysOf (hds L)).length (strs (keysOf (hds L)))) := by
        have := HO.out
        rw [List.take_of_length_le (by rw [HKL.out]; omega), ← HKL.out] at this
        exact this
      obtain ⟨A', c', rfl, hr⟩ := own_strs HO2.out
      rw [HKL.out] at hr
      have HR := hide hr
      clear hr
      go_wp2
      go_ret
      exact ⟨A', c', by rw [HKL.out]; rfl, HR.out, HB1.out⟩

set_option maxRecDepth 100000 in
set_option maxHeartbeats 400000 in
theorem used_any (W : World) (g b s ct cr : Nat) (vt vr : Value) (hb : Blk W g 91 (cacheC b s vt ct vr cr)) (h1 : ct ≤ 1099511627776) (h2 : cr ≤ 1099511627776) :
    Calls Try.prog 14 #[.pointer (some ⟨g, 0, none⟩)] W fun e W' => e = .returned (.int .i64 ((ct + cr : Nat) : Int)) ∧ ∃ n, W' = W.drewN n := by
  have c3 : W.cell? ⟨g, 3, none⟩ = some (.int .i64 (ct : Int)) := hb.cell 3
  have c5 : W.cell? ⟨g, 5, none⟩ = some (.int .i64 (cr : Int)) := hb.cell 5
  clear hb
  go_enter Try.func14, Try.ntmps14
  go_wp2_with fail
  go_quiet (fail)
  go_wp2
  go_ret
  exact ⟨congrArg (fun x => Ending.returned (.int .i64 x)) (by omega), nq, rfl⟩

def SegsAt (W : World) (g : Nat) (e : Ending) (W' : World) : Prop := ∃ q, e = .returned (.slice (some ⟨q, 0, none⟩) 2 2) ∧ W.heap.size ≤ q ∧ Blk W' q 92 #[.pointer (some ⟨g, 2, none⟩), .pointer (some ⟨g, 4, none⟩)] ∧ Below W.heap.size W W'
set_option maxRecDepth 100000 in
set_option maxHeartbeats 400000 in
theorem segs_any (W : World) (g : Nat) :
    Calls Try.prog 38 #[.pointer (some ⟨g, 0, none⟩)] W (SegsAt W g) := by
  unfold SegsAt
  go_enter Try.func38, Try.ntmps38
  go_wp2_with fail
  go_region
  go_wp2
  go_ret
  exact ⟨_, rfl, Nat.le_refl _, (Blk.new _ _ _).drew, ((Below.refl _ _).alloc (Nat.le_refl _) _).drew⟩

theorem CloneV_stableB (B size n : Nat) (xs : List Value) : StableV (CloneV (fun q => B ≤ q) size n xs) := fun _ _ _ ⟨A, c, e, h⟩ hk => ⟨A, c, e, h.fr (Fr.of_below hk (fun _ => False)) (fun _ _ => id)⟩
def KeysNew (W : World) (S : CS) (e : Ending) (W' : World) : Prop := ∃ A1 c1 A2 c2, e = .returned (.tuple #[.slice A1 (keysOf S.trial).length c1, .slice A2 (keysOf S.rest).length c2]) ∧
  ReadsD W' (fun q => W.heap.size ≤ q ∧ q < W'.heap.size) 1 A1 (keysOf S.trial).length (strs (keysOf S.trial)) ∧ ReadsD W' (fun q => W.heap.size ≤ q ∧ q < W'.heap.size) 1 A2 (keysOf S.rest).length (strs (keysOf S.rest)) ∧ Below W.heap.size W W'
section
variable {W W' : World} {M C : Nat → Prop} {g : Nat} {S : CS} {vt vr : Value} {Xt Xr : List (Hd × Loc)}
theorem keys_trial (H : CacheIn W M C g S vt vr Xt Xr) : Calls Try.prog 44 #[.pointer (some ⟨g, 2, none⟩)] W (StrsNew W (keysOf S.trial)) := by
  obtain ⟨A, c, e, hr⟩ := own_form H.rt
  have := keys_any Xt A g 2 c W.heap.size W (by have := H.len.1; have := H.ok.2.2.1; omega) (Nat.le_refl _) hr (by rw [← e]; exact H.blk.cell 2)
  rw [H.xt] at this
  exact this
theorem keys_rest (H : CacheIn W M C g S vt vr Xt Xr) : Calls Try.prog 44 #[.pointer (some ⟨g, 4, none⟩)] W (StrsNew W (keysOf S.rest)) := by
  obtain ⟨A, c, e, hr⟩ := own_form H.rr
  have := keys_any Xr A g 4 c W.heap.size W (by have := H.len.2; have := H.ok.2.2.1; omega) (Nat.le_refl _) hr (by rw [← e]; exact H.blk.cell 4)
  rw [H.xr] at this
  exact this
set_option maxRecDepth 100000 in
set_option maxHeartbeats 1000000 in
theorem Keys_any (H : CacheIn W M C g S vt vr Xt Xr) : Calls Try.prog 16 #[.pointer (some ⟨g, 0, none⟩)] W (KeysNew W S) := by
  have HK2 : Hid (∀ x, Below W.heap.size W x → Calls Try.prog 44 #[.pointer (some ⟨g, 2, none⟩)] x (StrsNew x (keysOf S.trial))) := fun x hx => keys_trial (H.lift hx)
  have HK4 : Hid (∀ x, Below W.heap.size W x → Calls Try.prog 44 #[.pointer (some ⟨g, 4, none⟩)] x (StrsNew x (keysOf S.rest))) := fun x hx => keys_rest (H.lift hx)
  clear H
  unfold KeysNew
  unfold StrsNew at HK2 HK4
  go_enter Try.func16, Try.ntmps16
  go_wp2_with fail
  refine wp_region_assert (listV [isV (.pointer (some ⟨g, 0, none⟩)), isV (.pointer (some ⟨g, 0, none⟩)), isV (.pointer (some ⟨g, 2, none⟩)), CloneV (fun q => W.heap.size ≤ q) 1 (keysOf S.trial).length (strs (keysOf S.trial)), isV (.pointer (some ⟨g, 0, none⟩)), isV (.pointer (some ⟨g, 0, none⟩)), isV (.pointer (some ⟨g, 4, none⟩)), CloneV (fun q => W.heap.size ≤ q) 1 (keysOf S.rest).length (strs (keysOf S.rest)), CloneV (fun q => W.heap.size ≤ q) 1 (keysOf S.trial).length (strs (keysOf S.trial)), CloneV (fun q => W.heap.size ≤ q) 1 (keysOf S.rest).length (strs (keysOf S.rest))]) (by kernel_rfl) (by kernel_rfl) (listV_stable ?_) ?_ ?_
  · exact ⟨isV_stable _, isV_stable _, isV_stable _, (CloneV_stableB _ _ _ _), isV_stable _, isV_stable _, isV_stable _, (CloneV_stableB _ _ _ _), (CloneV_stableB _ _ _ _), (CloneV_stableB _ _ _ _), trivial⟩
  refine ⟨fun vs wk hbk hd => ?_, fun vs wk hbk hd => ?_, fun vs wk hbk hd => ?_, fun vs wk hbk hd => ?_, fun vs wk hbk hd => ?_, fun vs wk hbk hd => ?_, fun vs wk hbk hd => ?_, fun vs wk hbk hd => ?_, fun vs wk hbk hd => ?_, fun vs wk hbk hd => ?_, trivial⟩
  -- 0: Op.move t0
  · clear hd
    go_wp2
    exact ⟨rfl, rfl, rfl, Below.refl _ _⟩
  -- 1: Op.nilCheck t4
  · simp only [Act.put, List.setIfInBounds_toArray, List.set_cons_zero, List.set_cons_succ]
    have e0 : vs 0 = .pointer (some ⟨g, 0, none⟩) := hd 0 (by kernel_rfl)
    clear hd
    go_wp2
    first | exact ⟨rfl, rfl, rfl, Below.refl _ _⟩ | exact ⟨rfl, rfl, e0, Below.refl _ _⟩
  -- 2: Op.fieldAddr 91 t5 2
  · simp only [Act.put, List.setIfInBounds_toArray, List.set_cons_zero, List.set_cons_succ, Nat.reduceAdd]
    have e1 : vs 1 = .pointer (some ⟨g, 0, none⟩) := hd 1 (by kernel_rfl)
    clear hd
    go_wp2
    first | exact ⟨rfl, rfl, rfl, Below.refl _ _⟩ | exact ⟨rfl, rfl, e1, Below.refl _ _⟩
  -- 3: Op.call { value (Operand.func 44), args := #[t6], argTypes := #[89] }
  · simp only [Act.put, List.setIfInBounds_toArray, List.set_cons_zero, List.set_cons_succ, Nat.reduceAdd]
    have e2 : vs 2 = .pointer (some ⟨g, 2, none⟩) := hd 2 (by kernel_rfl)
    clear hd
    go_wp2_with fail
    refine (HK2.out wk (undrew hbk)).mono ?_
    rintro e w' ⟨A, c, rfl, hr', hb'⟩
    have hsz := (undrew hbk).size
    have hr2 := hr'.weak (D' := fun q => W.heap.size ≤ q) (fun q hq => Nat.le_trans hsz hq.1)
    clear hr'
    go_wp2
    exact ⟨rfl, rfl, ⟨A, c, rfl, hr2⟩, hb'⟩
  -- 4: Op.move t0
  · simp only [Act.put, List.setIfInBounds_toArray, List.set_cons_zero, List.set_cons_succ, Nat.reduceAdd]
    clear hd
    go_wp2
    exact ⟨rfl, rfl, rfl, Below.refl _ _⟩
  -- 5: Op.nilCheck t8
  · simp only [Act.put, List.setIfInBounds_toArray, List.set_cons_zero, List.set_cons_succ, Nat.reduceAdd]
    have e4 : vs 4 = .pointer (some ⟨g, 0, none⟩) := hd 4 (by kernel_rfl)
    clear hd
    go_wp2
    first | exact ⟨rfl, rfl, rfl, Below.refl _ _⟩ | exact ⟨rfl, rfl, e4, Below.refl _ _⟩
  -- 6: Op.fieldAddr 91 t9 3
  · simp only [Act.put, List.setIfInBounds_toArray, List.set_cons_zero, List.set_cons_succ, Nat.reduceAdd]
    have e5 : vs 5 = .pointer (some ⟨g, 0, none⟩) := hd 5 (by kernel_rfl)
    clear hd
    go_wp2
    first | exact ⟨rfl, rfl, rfl, Below.refl _ _⟩ | exact ⟨rfl, rfl, e5, Below.refl _ _⟩
  -- 7: Op.call { value (Operand.func 44), args := #[t10], argTypes := #[89] }
  · simp only [Act.put, List.setIfInBounds_toArray, List.set_cons_zero, List.set_cons_succ, Nat.reduceAdd]
    have e6 : vs 6 = .pointer (some ⟨g, 4, none⟩) := hd 6 (by kernel_rfl)
    clear hd
    go_wp2_with fail
    refine (HK4.out wk (undrew hbk)).mono ?_
    rintro e w' ⟨A, c, rfl, hr', hb'⟩
    have hsz := (undrew hbk).size
    have hr2 := hr'.weak (D' := fun q => W.heap.size ≤ q) (fun q hq => Nat.le_trans hsz hq.1)
    clear hr'
    go_wp2
    exact ⟨rfl, rfl, ⟨A, c, rfl, hr2⟩, hb'⟩
  -- 8: Op.assign t7
  · simp only [Act.put, List.setIfInBounds_toArray, List.set_cons_zero, List.set_cons_succ, Nat.reduceAdd]
    obtain ⟨A3, c3, e3, r3⟩ := (show (CloneV (fun q => W.heap.size ≤ q) 1 (keysOf S.trial).length (strs (keysOf S.trial))) (vs 3) wk from hd 3 (by kernel_rfl))
    go_wp2
    exact ⟨rfl, rfl, hd 3 (by kernel_rfl), Below.refl _ _⟩
  -- 9: Op.assign t11
  · simp only [Act.put, List.setIfInBounds_toArray, List.set_cons_zero, List.set_cons_succ, Nat.reduceAdd]
    obtain ⟨A7, c7, e7, r7⟩ := (show (CloneV (fun q => W.heap.size ≤ q) 1 (keysOf S.rest).length (strs (keysOf S.rest))) (vs 7) wk from hd 7 (by kernel_rfl))
    go_wp2
    exact ⟨rfl, rfl, hd 7 (by kernel_rfl), Below.refl _ _⟩
  intro vs wk hbk hd
  simp only [putAll, Act.put, List.setIfInBounds_toArray, List.set_cons_zero, List.set_cons_succ, Nat.reduceAdd]
  obtain ⟨A8, c8, e8, r8⟩ := (show (CloneV (fun q => W.heap.size ≤ q) 1 (keysOf S.trial).length (strs (keysOf S.trial))) (vs 8) wk from hd 8 (by decide))
  obtain ⟨A9, c9, e9, r9⟩ := (show (CloneV (fun q => W.heap.size ≤ q) 1 (keysOf S.rest).length (strs (keysOf S.rest))) (vs 9) wk from hd 9 (by decide))
  clear hd
  rw [e8, e9]
  have HR8 := hide (r8.lt (by omega))
  have HR9 := hide (r9.lt (by omega))
  have HBE := hide (undrew hbk)
  clear e8 e9 r8 r9 hbk
  go_wp2
  go_ret2
  exact ⟨A8, c8, A9, c9, rfl, HR8.out, HR9.out, HBE.out⟩
end
end Go.Proofs.Ytjijdpdbkpknpaa
