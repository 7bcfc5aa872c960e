/-
  page.Sectors: octets cut into sectors of 64. Condition: the slice reads as a list of bytes.
-/
import Derived.Test.YtenhjnicadjbaaaDoorChunk
namespace Go.Proofs.YtenhjnicadjbaaaDoor
open Go Go.RowKit Go.Shelf
attribute [local go_sem] Oper.semAt_some

def secL (l : List UInt8) (k : Nat) : List UInt8 := (l.drop (64 * k)).take 64 ++ List.replicate (64 - (min 64 (l.length - 64 * k))) 0
def secs (l : List UInt8) : List (List UInt8) := (List.range ((l.length + 63) / 64)).map (secL l)
theorem secL_len (l : List UInt8) (k : Nat) : (secL l k).length = 64 := by
  simp [secL]
  omega
theorem secs_len (l : List UInt8) : (secs l).length = (l.length + 63) / 64 := by simp [secs]

/-- the value of a sector in its own block, the block -/
def SecAt (W : World) (v : Value) (s : List UInt8) : Prop := ∃ g, v = .slice (some ⟨g, 0, none⟩) 64 64 ∧ Blk W g 5 (byts s).toArray
def AllSecs (W : World) (l : List UInt8) (pre : List Nat) (xs : List Value) : Prop := xs.length = pre.length ∧ ∀ (i k : Nat), pre[i]? = some k → ∃ v, xs[i]? = some v ∧ SecAt W v (secL l k)

theorem AllSecs.keep {W W' : World} {l : List UInt8} {pre : List Nat} {xs : List Value} (h : AllSecs W l pre xs) (hk : ∀ g (cs : Array Value), Blk W g 5 cs → Blk W' g 5 cs) : AllSecs W' l pre xs :=
  ⟨h.1, fun i k hi => let ⟨v, hv, g, e, hb⟩ := h.2 i k hi; ⟨v, hv, g, e, hk g _ hb⟩⟩
theorem AllSecs.snoc {W : World} {l : List UInt8} {pre : List Nat} {xs : List Value} {k : Nat} {v : Value} (h : AllSecs W l pre xs) (hv : SecAt W v (secL l k)) : AllSecs W l (pre ++ [k]) (xs ++ [v]) := by
  refine ⟨by simp [h.1], fun i j hi => ?_⟩
  by_cases hlt : i < pre.length
  · rw [List.getElem?_append_left hlt] at hi
    obtain ⟨u, hu, hs⟩ := h.2 i j hi
    exact ⟨u, by rw [List.getElem?_append_left (by rw [h.1]; exact hlt)]; exact hu, hs⟩
  · have hil : i < (pre ++ [k]).length := (List.getElem?_eq_some_iff.1 hi).1
    rw [List.length_append, List.length_singleton] at hil
    obtain rfl : i = pre.length := by omega
    rw [List.getElem?_append_right (Nat.le_refl _)] at hi
    simp at hi
    subst hi
    exact ⟨v, by rw [List.getElem?_append_right (by rw [h.1]; exact Nat.le_refl _), h.1]; simp, hv⟩
theorem Blk.bytes {W : World} {g : Nat} {s : List UInt8} (h : Blk W g 5 (byts s).toArray) : BytesAt W W.heap.size (some ⟨g, 0, none⟩) s := by
  refine ⟨by simp [byts], fun _ => ⟨_, rfl, h.lt, fun j u hu => ?_⟩⟩
  rw [add_flat, h.cell, ← hu]
  simp
theorem AllSecs.rows {W : World} {l : List UInt8} {pre : List Nat} {xs : List Value} {A : Option Addr} {base n c : Nat} (h : AllSecs W l pre xs) (hn : n = pre.length) (ho : W.ownsRow base 23 1 (.slice A n c) n xs) : RowsAt W W.heap.size A (pre.map (secL l)) := fun hpos => by
  subst hn
  rw [List.length_map] at hpos
  obtain ⟨ad, e, hb, hc⟩ := (Reads.of_own ho).2 hpos
  refine ⟨ad, e, hb, fun i hi => ?_⟩
  rw [List.length_map] at hi
  obtain ⟨v, hv, g, rfl, hblk⟩ := h.2 i pre[i] (List.getElem?_eq_getElem hi)
  rw [List.getElem_map]
  exact ⟨some ⟨g, 0, none⟩, 64, by rw [secL_len]; exact hc i _ hv, by rw [secL_len]; exact Nat.le_refl _, hblk.bytes⟩

/-- rows of octets in blocks of their own -/
def BlkRows (W : World) (A : Option Addr) (ls : List (List UInt8)) : Prop := 0 < ls.length → ∃ gr cur, A = some ⟨gr, 0, none⟩ ∧ Blk W gr 23 cur ∧
  ∀ (i : Nat) (hi : i < ls.length), ∃ gi ci cu, cur[i]? = some (.slice (some ⟨gi, 0, none⟩) ls[i].length ci) ∧ ls[i].length ≤ ci ∧ Blk W gi 5 cu ∧ cu.toList.take ls[i].length = byts ls[i]
theorem BlkRows.rows {W : World} {A : Option Addr} {ls : List (List UInt8)} (h : BlkRows W A ls) : RowsAt W W.heap.size A ls := fun hp => by
  obtain ⟨gr, cur, rfl, hb, hc⟩ := h hp
  refine ⟨_, rfl, hb.lt, fun i hi => ?_⟩
  obtain ⟨gi, ci, cu, h1, h2, h3, h4⟩ := hc i hi
  refine ⟨_, ci, by rw [add_flat, Nat.zero_add, hb.cell]; exact h1, h2, by simp [byts], fun _ => ⟨_, rfl, h3.lt, fun j u hu => ?_⟩⟩
  have hj : j < ls[i].length := by
    have := (List.getElem?_eq_some_iff.1 hu).1
    simpa [byts] using this
  rw [add_flat, Nat.zero_add, h3.cell, ← Array.getElem?_toList, ← hu, ← h4, List.getElem?_take_of_lt hj]
theorem AllSecs.blks {W : World} {l : List UInt8} {pre : List Nat} {xs : List Value} {A : Option Addr} {base n c : Nat} (h : AllSecs W l pre xs) (hn : n = pre.length) (ho : W.ownsRow base 23 1 (.slice A n c) n xs) : BlkRows W A (pre.map (secL l)) := fun hpos => by
  subst hn
  rw [List.length_map] at hpos
  rcases ho.2 with ⟨_, h0⟩ | ⟨g, cap, cur, hv, _, hg, hcc, _, _, hcut⟩
  · omega
  · injection hv with h1
    refine ⟨g, cur, h1, hg, fun i hi => ?_⟩
    rw [List.length_map] at hi
    obtain ⟨v, hv, gi, rfl, hblk⟩ := h.2 i pre[i] (List.getElem?_eq_getElem hi)
    rw [List.getElem_map, secL_len]
    refine ⟨gi, 64, _, ?_, Nat.le_refl _, hblk, ?_⟩
    · rw [← hcut, List.getElem?_take_of_lt (by omega), Array.getElem?_toList] at hv
      exact hv
    · exact List.take_of_length_le (by simp [byts, secL_len])

/-- what a round keeps: all blocks below n₁ but B -/
def KpC (n₀ n₁ B : Nat) (W W' : World) : Prop := Below n₀ W W' ∧ ∀ q, q < n₁ → q ≠ B → W'.heap[q]? = W.heap[q]?
theorem KpC.t {n₀ n₁ B : Nat} {X Y Z : World} (h : KpC n₀ n₁ B X Y) (k : KpC n₀ n₁ B Y Z) : KpC n₀ n₁ B X Z := ⟨h.1.trans k.1, fun q hq hne => (k.2 q hq hne).trans (h.2 q hq hne)⟩
theorem cell_heap {X Y : World} {b : Nat} (h : Y.heap[b]? = X.heap[b]?) (v : Value) (hv : X.cell? ⟨b, 0, none⟩ = some v) : Y.cell? ⟨b, 0, none⟩ = some v := (World.cell?_of_block h).trans hv

theorem info_rows : (Tryd.prog.info? 23).map (fun i => (i.zero, i.size, i.bytes)) = some (some (.slice none 0 0), 1, 24) := by kernel_rfl
theorem infoSize_u8 : (Tryd.prog.info? 5).map (·.size) = some 1 := by kernel_rfl

/-- make, then copy a piece: a sector's block -/
theorem copy_piece (W : World) (A : Option Addr) (l : List UInt8) (k m : Nat) (ty : TypeId) (hm : m = l.length) (hA : BytesAt W W.heap.size A l) :
    (Builtin.copy_ #[23, 23] ty #[.slice (some ⟨W.heap.size, 0, none⟩) 64 64, pieceV A m k]).run Tryd.prog (W.alloc (.cells (madeCells #[.int .u8 0] 64) 5)) =
      .ok (goInt ((min 64 (m - 64 * k) : Nat) : Int)) (W.alloc (.cells (byts (secL l k)).toArray 5)) := by
  subst hm
  unfold pieceV
  rcases Nat.eq_zero_or_pos (min 64 (l.length - 64 * k)) with h0 | h0
  · rw [h0, run_copy_none _ _ _ _ 5 _ _ _ _ _ _ Tryd.underlying23 infoSize_u8 (by simp)]
    have : secL l k = List.replicate 64 0 := by
      unfold secL
      rw [h0, List.drop_of_length_le (by omega)]
      simp
    rw [this, zeros_cells]
    rfl
  · have hin : 64 * k < l.length := by omega
    obtain ⟨ad, rfl, had, hc⟩ := hA.2 (by omega)
    have hcs : ((byts l).drop (64 * k)).take 64 = byts ((l.drop (64 * k)).take 64) := by simp [byts]
    have hlen : (byts ((l.drop (64 * k)).take 64)).length = min 64 (l.length - 64 * k) := by simp [byts]
    rw [Option.map_some, run_copy_row (cs := byts ((l.drop (64 * k)).take 64)) (elem := 5) (cur := madeCells #[.int .u8 0] 64) (t := 5) (hu := Tryd.underlying23) (hs := infoSize_u8) (hg := heap_alloc_new W _) (hn := by rw [hlen]; show min 64 _ = min (min 64 _) 64; omega) (hfit := by rw [hlen, size_madeCells]; omega) (h1 := byts_one)]
    · rw [World.setRow_alloc_new, hlen]
      congr 3
      rw [toList_madeCells_one]
      simp only [List.take_zero, List.nil_append, Nat.zero_add, List.drop_replicate]
      unfold secL
      rw [byts_append]
      simp [byts]
    · intro j v hj
      rw [← hcs] at hj
      have hj64 : j < 64 := by
        rcases Nat.lt_or_ge j 64 with h | h
        · exact h
        · rw [List.getElem?_eq_none (by simp; omega)] at hj
          cases hj
      rw [List.getElem?_take_of_lt hj64, List.getElem?_drop] at hj
      rw [add_of_add]
      exact (World.cell?_alloc_lt _ _ _ (by rw [block_of_add]; exact had)).trans (hc _ _ hj)

set_option maxRecDepth 100000 in
set_option maxHeartbeats 2000000 in
theorem sectors_blk (l : List UInt8) (A : Option Addr) (m c : Nat) (w : World) (hm : m = l.length) (hl : l.length ≤ 1099511627776) (hc : l.length ≤ c) (hA : BytesAt w w.heap.size A l) :
    Calls Tryd.prog 22 #[.slice A m c] w fun e w' => ∃ A' c', e = .returned (.slice A' (secs l).length c') ∧ BlkRows w' A' (secs l) ∧ Below w.heap.size w w' := by
  subst hm
  refine (callsIn_wide (n := 3)).1 ?_
  obtain ⟨i0, hi, hz0, hz1, hz2⟩ := info_parts info_rows
  refine callsIn_of_wp_marks Tryd.func22 rfl trivial ?_ rfl
  simp only [Tryd.ntmps22, List.size_toArray, List.length_cons, List.length_nil, Nat.reduceAdd, Nat.reduceSub, Array.replicate_succ, Array.replicate_zero, List.push_toArray, List.append_toArray, List.nil_append, List.cons_append]
  gi_wp2_with (refine ⟨trivial, ?_⟩; gi_at_call 47; refine (chunk_in Fence.wide 2 trivial rfl A l.length c _).mono ?_; rintro e w' ⟨rfl, rfl⟩)
  have bO := Boxed.new w 22 (.slice none 0 0)
  have bS := Boxed.new (w.alloc (.cells #[.slice none 0 0] 22)) 23 (.slice A l.length c)
  have bN := Boxed.new ((w.alloc (.cells #[.slice none 0 0] 22)).alloc (.cells #[.slice A l.length c] 23)) 3 (.int .i64 64)
  rw [World.size_alloc] at bS bN
  rw [World.size_alloc] at bN
  have hB0 : Below w.heap.size w (((w.alloc (.cells #[.slice none 0 0] 22)).alloc (.cells #[.slice A l.length c] 23)).alloc (.cells #[.int .i64 64] 3)) := (((Below.refl _ w).alloc (Nat.le_refl _) _).alloc (by simp) _).alloc (by simp; omega) _
  have hsz : (((w.alloc (.cells #[.slice none 0 0] 22)).alloc (.cells #[.slice A l.length c] 23)).alloc (.cells #[.int .i64 64] 3)).heap.size = w.heap.size + 3 := by simp
  have bO2 := (bO.alloc (.cells #[.slice A l.length c] 23)).alloc (.cells #[.int .i64 64] 3)
  have bS2 := (bS.alloc (.cells #[.int .i64 64] 3)).cell
  have bN2 := bN.cell
  generalize ((w.alloc (.cells #[.slice none 0 0] 22)).alloc (.cells #[.slice A l.length c] 23)).alloc (.cells #[.int .i64 64] 3) = W0 at *
  clear bO bS bN
  refine wpIn_rangeFunc_ownF (Kp := KpC w.heap.size (w.heap.size + 3) w.heap.size) rfl (by omega) (gf := 61) (lb := #[.pointer (some ⟨w.heap.size + 1, 0, none⟩), .pointer (some ⟨w.heap.size + 1 + 1, 0, none⟩)]) rfl trivial (enters_of Tryd.func61 (by kernel_rfl) rfl)
    (chunk_stops 2 (by omega) (w.heap.size + 1) (w.heap.size + 1 + 1) l.length c A _ W0 hl hc (fun X Y hk v => ⟨cell_heap (hk.2 _ (by omega) (by omega)) v, cell_heap (hk.2 _ (by omega) (by omega)) v⟩) bS2 bN2)
    (fun h k => h.t k) ?hKb (Below.refl _ _) (fun _ => rfl)
    (fun pre W => w.heap.size + 3 ≤ W.heap.size ∧ (∃ v xs, Boxed W w.heap.size 22 v ∧ W.ownsRow (w.heap.size + 3) 23 1 v pre.length xs ∧ AllSecs W l pre xs) ∧ Below w.heap.size w W)
    (fun _ _ _ => False)
    ?hI (fun _ _ _ _ _ hs _ _ => hs)
    ⟨by omega, ⟨_, [], bO2, World.ownsRow_nil _ _ _ _, rfl, fun i k h => by simp at h⟩, hB0⟩
    (fun x => { tmps := #[.slice A l.length c, undef, .slice none 0 0, .pointer (some ⟨w.heap.size, 0, none⟩), pieceV A l.length x, undef, .slice A l.length c, .func (.func 61) #[] #[.pointer (some ⟨w.heap.size + 1, 0, none⟩), .pointer (some ⟨w.heap.size + 1 + 1, 0, none⟩)], pieceV A l.length x, undef, undef, undef, undef, undef, undef, undef, undef, undef], defers := [] }) ?assign ?body ?done ?stop
  case hKb =>
    intro W q o o' hq hqo hc hw
    refine ⟨?_, ?_⟩
    · exact belowK_b (w := w) (Nat.le_refl _) W q o o' (by omega) hqo hc hw
    · intro q' h1 h2
      exact (grownBy_putObj' W q o').block q' (by have := (Array.getElem?_eq_some_iff.1 hqo).1; omega) (by simp; omega)
  case hI =>
    refine OwnFrom.and (fun _ _ _ _ hs hg _ => Nat.le_trans hs hg.size) (OwnFrom.and (Own.from ?_ _) (ownFrom_below (Nat.le_refl _) (by omega)))
    rintro s X Y row ⟨v, xs, hv, hr, ha⟩ hg hrow
    refine ⟨v, xs, hv.kept hg (fun e' => ?_), hr.kept hg ?_, ha.keep fun g cs hb => ?_⟩
    · obtain ⟨o, ho, hc⟩ := hrow _ e'.symm
      rw [show X.heap[w.heap.size]? = _ from hv] at ho
      cases ho
      cases hc
    · rcases hr.2 with ⟨rfl, _⟩ | ⟨g, cap, cur, rfl, _, hgb, _⟩
      · exact .inl rfl
      · refine .inr fun e' => ?_
        obtain ⟨o, ho, hc⟩ := hrow g (by simpa [Value.ownBlock] using e'.symm)
        rw [hgb] at ho
        cases ho
        cases hc
    · refine hb.grown hg fun e' => ?_
      obtain ⟨o, ho, hc⟩ := hrow g e'.symm
      rw [show X.heap[g]? = _ from hb] at ho
      cases ho
      cases hc
  case assign =>
    intro l x W K hK
    gi_wp2
    exact hK
  case body =>
    rintro lp pre x W ⟨hW3, ⟨v, xs, hv, hrow, hall⟩, hB⟩ hlt
    have hbw : BytesAt W W.heap.size A l := hA.lift hB hB.size
    have hcp := fun ty => copy_piece W A l x l.length ty rfl hbw
    have hmk : ∀ W', (Instr.makeSlice 23 (.int .i64 64) (.int .i64 64)).run Tryd.prog W' = .ok (.slice (some ⟨W'.heap.size, 0, none⟩) 64 64) (W'.alloc (.cells (madeCells #[.int .u8 0] 64) 5)) := make8 64 (by omega)
    have hKl : pre.length + 1 ≤ 1099511627776 := by omega
    have hv2 := hv.alloc (.cells (byts (secL l x)).toArray 5)
    have hrow2 := hrow.alloc (.cells (byts (secL l x)).toArray 5)
    have hsec := Blk.new W 5 (byts (secL l x)).toArray
    have hall2 := hall.keep (fun g cs hb => hb.alloc (.cells (byts (secL l x)).toArray 5))
    have hko : KeepsOthers W (W.alloc (.cells (byts (secL l x)).toArray 5)) := KeepsOthers.alloc _ _
    have hkp : ∀ q, q < W.heap.size → (W.alloc (.cells (byts (secL l x)).toArray 5)).heap[q]? = W.heap[q]? := fun q hq => Below.heap_alloc _ _ _ hq
    have hbw2 : Below w.heap.size W (W.alloc (.cells (byts (secL l x)).toArray 5)) := (Below.refl _ _).alloc hB.size _
    have hsz2 : (W.alloc (.cells (byts (secL l x)).toArray 5)).heap.size = W.heap.size + 1 := by simp
    have hszW : w.heap.size + 3 ≤ W.heap.size := hW3
    generalize W.alloc (.cells (byts (secL l x)).toArray 5) = W2 at *
    have HALL := hide hall2
    have HSZ2 := hide hsz2
    have HBB := hide hB
    have HBW := hide hbw2
    have HSEC := hide hsec
    have HKO := hide hko
    have HKP := hide hkp
    have hcl := hv2.cell
    have hbase2 : w.heap.size ≤ W2.heap.size := by omega
    have hbase3 : w.heap.size + 3 ≤ W2.heap.size := by omega
    clear hall hlt bS2 bN2 bO2 hbw hsec hko hkp hbw2 hall2 hv hrow hsz2
    gi_wp2_with (gi_at_builtin; refine wpListIn_append_own _ rfl _ _ 22 rfl (w.heap.size + 3) 23 i0 (.slice none 0 0) 1 24 Tryd.underlying22 hi hz0 hz1 hz2 rfl (by decide) _ _ _ rfl (hrow2.alloc _) ⟨W2.heap.size, 0, none⟩ 1 1 [.slice (some ⟨W.heap.size, 0, none⟩) 64 64] rfl rfl (cell_one_new _ _ _) (by simp [Value.oneCell']) (by simp only [maxLen]; omega) (by omega) (by rw [World.size_alloc]; omega) ?_; intro v' w1 hown' hgrow _; obtain ⟨g', cap', rfl⟩ := ownsRow_succ hown'; obtain ⟨hv1, hv3, hr3, hk3, hb3⟩ := hv2.appended (n₀ := w.heap.size) (by decide) (own_base hrow2 (by omega)) (by omega) (Nat.le_refl _) (own_base hown' (by omega)) hgrow; have hc1 := hv1.cell; have hf1 := hv1.frozen)
    have hch : ∀ g (cs : Array Value), Blk W2 g 5 cs → Blk (w1.setCell ⟨w.heap.size, 0, none⟩ (.slice (some ⟨g', 0, none⟩) (pre.length + 1) cap')) g 5 cs := fun g cs hb =>
      ((hb.alloc _).grown hgrow (own_blk_ne hrow2 hb (by decide)).symm).far (fun e => Blk.ne_ hb (show Blk W2 g 22 #[v] from by rw [e]; exact hv2) (by decide) rfl) _
    have hsz2 := HSZ2.out
    refine ⟨HKO.out.trans hk3, ⟨HBW.out.trans hb3, fun q hq hne => ?_⟩, ?_, ⟨_, xs ++ [.slice (some ⟨W.heap.size, 0, none⟩) 64 64], hv3, ?_, ?_⟩, HBB.out.trans (HBW.out.trans hb3)⟩
    · refine (Below.heap_setCell _ _ _ q hne).trans ((hgrow.block q (by simp; omega) (fun e => by have := (World.ownsRow.lt hrow2 q e.symm).1; omega)).trans ((Below.heap_alloc _ _ _ (by omega)).trans (HKP.out q (by omega))))
    · have h1 := hgrow.size
      rw [World.size_alloc] at h1
      simp only [World.size_setCell]
      omega
    · rw [List.length_append, List.length_singleton]
      exact hown'.kept (grownBy_setCell' w1 _ _) (.inr (hv1.not_row (by decide) hown').symm)
    · exact (HALL.out.keep hch).snoc ⟨W.heap.size, rfl, hch _ _ HSEC.out⟩
  case done =>
    rintro D ys W hD rfl ⟨_, ⟨v, xs, hv, hrow, hall⟩, hB⟩ hK
    have hc := hv.cell
    obtain ⟨A', c', rfl⟩ : ∃ A' c', v = .slice A' (List.range ((l.length + 63) / 64)).length c' := by
      rcases hrow.2 with ⟨rfl, h0⟩ | ⟨g, cap, cur, rfl, _⟩
      · exact ⟨none, 0, by rw [h0]⟩
      · exact ⟨_, _, rfl⟩
    rw [List.length_range] at *
    gi_wp2
    refine ⟨by simp, .inl ⟨_, _, rfl, run_takeDeferred hK, ?_⟩⟩
    refine ⟨_, results_tmp rfl _ _ _, A', c', by rw [secs_len]; rfl, ?_, hB.trans (belowK_b (w := w) (Nat.le_refl _) W D _ _ (by omega) hK rfl rfl)⟩
    refine AllSecs.blks (base := w.heap.size + 3) (n := (l.length + 63) / 64) (c := c') (xs := xs) (hall.keep fun g cs hb => hb.grown (grownBy_putObj' W D _) (fun e' => ?_)) (by simp) (ownsRow_putObj hrow _ hK rfl)
    cases e'
    rw [show W.heap[D]? = _ from hb] at hK
    cases hK
  case stop =>
    rintro D c pre W _ _ h _
    exact h.elim
theorem sectors_any (l : List UInt8) (A : Option Addr) (m c : Nat) (w : World) (hm : m = l.length) (hl : l.length ≤ 1099511627776) (hc : l.length ≤ c) (hA : BytesAt w w.heap.size A l) :
    Calls Tryd.prog 22 #[.slice A m c] w fun e w' => ∃ A' c', e = .returned (.slice A' (secs l).length c') ∧ RowsAt w' w'.heap.size A' (secs l) ∧ Below w.heap.size w w' :=
  (sectors_blk l A m c w hm hl hc hA).mono fun _ _ ⟨A', c', e, h, hb⟩ => ⟨A', c', e, h.rows, hb⟩
end Go.Proofs.YtenhjnicadjbaaaDoor
