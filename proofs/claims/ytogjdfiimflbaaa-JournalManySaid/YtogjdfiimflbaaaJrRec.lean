/-
  The walk of journal's record. Condition: the puts lie so.
-/
import Derived.Test.YtogjdfiimflbaaaJrSecs
import Derived.Test.YtogjdfiimflbaaaTailV
namespace Go.Proofs.Ytogjdfiimflbaaa
open Go Go.RowKit

def putC (p : PutL) (u : Value) : Array Value := #[.int .i64 (p.1 : Int), u]
theorem info_put : (Try.prog.info? 37).map (fun i => (i.zero, i.size, i.bytes)) = some (some (.agg #[.int .i64 0, .slice none 0 0]), 2, 32) := by kernel_rfl
def putZ : Array Value := #[.int .i64 0, .slice none 0 0]
theorem put_info : (Try.prog.info? 37).map (·.size) = some 2 := by kernel_rfl
theorem put_desc : ∃ fs, Try.prog.underlying 37 = some (.struct fs) := ⟨_, Try.underlying37⟩
theorem put_zero : (Try.prog.info? 37).map (fun i => (i.zero, i.size)) = some (some (.agg putZ), 2) := by kernel_rfl
set_option maxRecDepth 100000 in
theorem zero_put (W : World) : (zeroValue 37).run Try.prog W = .ok (.agg putZ) W := by
  obtain ⟨i, hi, he⟩ := Option.map_eq_some_iff.1 put_zero
  injection he with h1 h2
  simp [zeroValue, typeInfo, hi, h1]
theorem load_put (W : World) (g o : Nat) (p : PutL) (u : Value) (h0 : W.cell? ⟨g, o, none⟩ = some (.int .i64 (p.1 : Int))) (h1 : W.cell? ⟨g, o + 1, none⟩ = some u) : (Instr.loadAt 37 (.pointer (some ⟨g, o, none⟩))).run Try.prog W = .ok (.agg (putC p u)) W := by
  obtain ⟨fs, he⟩ := put_desc
  exact run_loadAt_ad W ⟨g, o, none⟩ _ [.int .i64 (p.1 : Int), u] _ (fun j v hv => by
    rw [add_flat]
    match j, hv with
    | 0, hv => exact h0.trans hv
    | 1, hv => exact h1.trans hv
    | j + 2, hv => simp at hv) he rfl (by rw [put_info]; rfl)
theorem cells_put_new (W : World) (p : PutL) (u : Value) (hu : u.oneCell' = true) : (storeCells ⟨W.heap.size, 0, none⟩ (putC p u).toList).run Try.prog (W.alloc (.cells putZ 37)) = .ok () (W.alloc (.cells (putC p u) 37)) :=
  run_storeCells_new (P := Try.prog) W 37 putZ (putC p u) (by rw [put_info]; rfl) rfl (by unfold putC; exact all_oneCell_toArray (cs := [.int .i64 (p.1 : Int), u]) (fun x hx => by
    simp only [List.mem_cons, List.not_mem_nil, or_false] at hx
    rcases hx with rfl | rfl
    · rfl
    · exact hu))
theorem own_ne {W : World} {base base' s s' n n' : Nat} {e e' : TypeId} {v v' : Value} {xs xs' : List Value} (h : W.ownsRow base e s v n xs) (h' : W.ownsRow base' e' s' v' n' xs') (hne : e ≠ e') : ∀ q, v.ownBlock = some q → v'.ownBlock ≠ some q := fun q hq hq' => by
  rcases h.2 with ⟨rfl, _⟩ | ⟨g, cap, cur, rfl, _, hg, _⟩
  · cases hq
  · rcases h'.2 with ⟨rfl, _⟩ | ⟨g', cap', cur', rfl, _, hg', _⟩
    · cases hq'
    · injection hq with k1
      injection hq' with k2
      have k1 : g = q := k1
      have k2 : g' = q := k2
      subst k1
      subst k2
      rw [hg] at hg'
      injection hg' with hg'
      injection hg' with _ hg' _
      exact hne hg'
theorem SecV.own {W W' : World} {D : Nat → Prop} {u v : Value} {b : List UInt8} {base s n : Nat} {e : TypeId} {xs : List Value} (h : SecV W D u b) (ho : W.ownsRow base e s v n xs) (he : e ≠ 5) (hg : W.grownBy W' v.ownBlock) : SecV W' D u b := by
  obtain ⟨gi, ci, cu, h1, h2, h3, h4, h5⟩ := h
  exact ⟨gi, ci, cu, h1, h2, (Fr.of_grown hg).blk h3 (fun e' => own_blk_ne ho h3 he e'), h4, h5⟩
theorem SecVs.own {W W' : World} {D : Nat → Prop} {v : Value} {base s n : Nat} {e : TypeId} {xs vs : List Value} {ls : List (List UInt8)} (h : SecVs W D vs ls) (ho : W.ownsRow base e s v n xs) (he : e ≠ 5) (hg : W.grownBy W' v.ownBlock) : SecVs W' D vs ls :=
  ⟨h.1, fun i u b h1 h2 => (h.2 i u b h1 h2).own ho he hg⟩
theorem byts_set0 (l : List UInt8) : (byts l).set 0 (.int .u8 0) = byts (l.set 0 0) := by
  cases l <;> rfl
section
variable {P : Program} {ops : Array Oper} {Q : Exit → Act → World → Prop} {S : World → Prop} {m : Nat}
/-- two may come up -/
theorem twoU (i j : Nat) {oi oj : Oper} {n : Nat} {L : Array Bool} {a : Act} {w : World} (hi : ops[i]? = some oi) (hj : ops[j]? = some oj) (hr : Region.ready .any ops L = [i, j]) (hwi : Region.wanted oi (yielded ops a.tmps) = true) (hwj : Region.wanted oj (yielded ops a.tmps) = true)
    (h1 : oi.wp P a w (fun b x => (i ≠ m → S x) ∧ wpAnyU P ops Q S m n (L.setIfInBounds i true) b x) Q) (h2 : oj.wp P a w (fun b x => (j ≠ m → S x) ∧ wpAnyU P ops Q S m n (L.setIfInBounds j true) b x) Q) : wpAnyU P ops Q S m (n + 1) L a w :=
  ⟨fun h0 => absurd h0 (by rw [hr]; simp), fun k hk => by
    rw [hr] at hk
    rcases List.mem_cons.1 hk with rfl | hk
    · exact wpOp_of hi hwi h1
    · obtain rfl : k = j := by simpa using hk
      exact wpOp_of hj hwj h2⟩
end
theorem own_cap {W : World} {base s n c : Nat} {e : TypeId} {v : Value} {A : Option Addr} {xs : List Value} (h : W.ownsRow base e s v n xs) (hv : v = .slice A n c) : n ≤ c := by
  subst hv
  rcases h.2 with ⟨h1, h0⟩ | ⟨g, cap, cur, h1, _, _, h3, _⟩
  · omega
  · injection h1 with _ _ h1
    omega
theorem info_rows : (Try.prog.info? 22).map (fun i => (i.zero, i.size, i.bytes)) = some (some (.slice none 0 0), 1, 24) := by kernel_rfl

set_option maxRecDepth 100000 in
set_option maxHeartbeats 2000000 in
theorem record_any (n : Nat) (ps : List PutL) (A : Option Addr) (c : Nat) (W : World) (hn : n < 72057594037927936) (h1 : 1 ≤ ps.length) (h10 : ps.length ≤ 10) (hok : ∀ p ∈ ps, PutOk p) (hA : PutsAt W A ps) :
    Calls Try.prog 28 #[.int .i64 (n : Int), .slice A ps.length c] W fun e W' => ∃ A' c', e = .returned (.slice A' (ps.length + 2) c') ∧ RowsBlk W' A' (recL n ps) ∧ Below W.heap.size W W' ∧ ps.length + 2 ≤ c' := by
  obtain ⟨i0, hi0, hz0, hz1, hz2⟩ := info_parts info_cbyt
  have HOK := hide hok
  have HA := hide hA
  have HO1 : Hid ((W.alloc (.cells #[.int .u8 72] 5)).ownsRow W.heap.size 5 1 (.slice (some ⟨W.heap.size, 0, none⟩) 1 1) 1 (byts [72])) := World.ownsRow_lit W #[.int .u8 72] 1 (Nat.le_refl _) (by decide) rfl
  have HB1 : Hid (Below W.heap.size W (W.alloc (.cells #[.int .u8 72] 5))) := (Below.refl _ _).alloc (Nat.le_refl _) _
  obtain ⟨w1, hw1⟩ : ∃ w1, W.alloc (.cells #[.int .u8 72] 5) = w1 := ⟨_, rfl⟩
  rw [hw1] at HO1 HB1
  have HN1 := hide (number_any [72] _ n 8 W.heap.size w1 (by omega) hn (by simp) HB1.out.size HO1.out)
  clear hok hA
  go_enter Try.func28, Try.ntmps28
  go_wp2_with fail
  refine (unhide HN1).mono ?_
  rintro e u1 ⟨v1, rfl, ho1, _, hf1⟩
  have HB2 : Hid (Below W.heap.size W u1) := HB1.out.trans (hf1.below HB1.out.size (fun q e => (HO1.out.lt q e).1))
  clear HB1 HN1
  clear hw1 HO1
  have hk8 : (UInt8.ofNat ps.length).toNat = ps.length := by
    rw [UInt8.toNat_ofNat']
    omega
  have hz1' := HB2.out.size
  have HO2 : Hid ((u1.alloc (.cells #[.int .u8 (ps.length : Int)] 5)).ownsRow W.heap.size 5 1 v1 9 (byts ([72] ++ beL n 8))) := own_keep ho1 ((Below.refl _ _).alloc (Nat.le_refl _) _)
  have HR2 : Hid (Reads (u1.alloc (.cells #[.int .u8 (ps.length : Int)] 5)) (u1.heap.size + 1) 1 (some ⟨u1.heap.size, 0, none⟩) 1 [.int .u8 (ps.length : Int)]) := ⟨rfl, fun _ => ⟨_, rfl, by simp, fun j u hu => by
    rw [add_flat, cell_new, ← hu]
    simp⟩⟩
  clear ho1 hf1
  go_wp2_with (at_builtin; refine wpList_append_any _ rfl (.tmp 12) (.tmp 16) _ rfl W.heap.size 5 i0 _ 1 1 Try.underlying22 hi0 hz0 hz1 hz2 rfl (by omega) v1 9 (byts ([72] ++ beL n 8)) rfl HO2.out (u1.heap.size + 1) (some ⟨u1.heap.size, 0, none⟩) 1 1 [.int .u8 (ps.length : Int)] rfl HR2.out (by simp [Value.oneCell']) (by simp only [maxLen]; omega) (by omega) (by simp; omega) ?_; intro v2 u2 hown2 hg2 hat2)
  have HB3 : Hid (Below W.heap.size W u2) := (HB2.out.alloc hz1' _).grown hg2 (by simp; omega) (fun q hq => (HO2.out.lt q hq).1)
  have HO3 : Hid (u2.ownsRow W.heap.size 5 1 v2 (headP n ps.length (ps.take 0)).length (byts (headP n ps.length (ps.take 0)))) := by
    rw [headP_len, show byts (headP n ps.length (ps.take 0)) = byts ([72] ++ beL n 8) ++ [.int .u8 (ps.length : Int)] by unfold headP; simp [byts]; omega]
    exact hown2
  clear hown2 hg2 hat2 HO2 HR2 HB2
  have hz2' := HB3.out.size
  have HOL : Hid ((u2.alloc (.cells #[.slice none 0 0] 22)).ownsRow W.heap.size 22 1 (.slice (some ⟨u2.heap.size, 0, none⟩) 1 1) (0 + 1) ([.slice none 0 0] ++ [])) := World.ownsRow_lit u2 #[.slice none 0 0] 1 hz2' (by decide) rfl
  have HO4 := hide (own_keep HO3.out ((Below.refl u2.heap.size u2).alloc (Nat.le_refl _) (.cells #[.slice none 0 0] 22)))
  have HB4 : Hid (Below W.heap.size W (u2.alloc (.cells #[.slice none 0 0] 22))) := HB3.out.alloc hz2' _
  generalize u2.alloc (.cells #[.slice none 0 0] 22) = u3 at *
  clear HB3 HO3
  obtain ⟨ir, hir, hr0, hr1, hr2⟩ := info_parts info_rows
  have HIR := hide hir
  go_wp2_with fail
  go_loopw [5, 6, 21] (fun vh vl i wr => ∃ k : Nat, k ≤ ps.length ∧ i = .int .i64 k ∧ wr.ownsRow W.heap.size 5 1 vh (headP n ps.length (ps.take k)).length (byts (headP n ps.length (ps.take k))) ∧ (∃ vs, wr.ownsRow W.heap.size 22 1 vl (k + 1) ([.slice none 0 0] ++ vs) ∧ SecVs wr (fun q => vh.ownBlock ≠ some q) vs ((ps.take k).map bodyL)) ∧ Below W.heap.size W wr) (fun _ _ i _ => ps.length - (intOf i).toNat)
  case atStart => exact ⟨0, Nat.zero_le _, rfl, HO4.out, ⟨[], HOL.out, .nil⟩, HB4.out⟩
  case round =>
    clear HO4 HOL HB4
    obtain ⟨k, hk, rfl, hoh, ⟨vs, hol, hsv⟩, hbe⟩ := hrel
    have HOH := hide hoh
    have HOL := hide hol
    have HSV := hide hsv
    have HBE := hide hbe
    have hszr := hbe.size
    clear hoh hol hsv hbe
    by_cases hlt : k < ps.length
    · obtain ⟨gr, cur, rfl, hpb0, hpc⟩ := HA.out (by omega)
      obtain ⟨u, c0, c1, hsu⟩ := hpc k ps[k] (List.getElem?_eq_getElem hlt)
      obtain ⟨gb, cb, cub, rfl, hcb, hbb0, htk, _⟩ := hsu
      have hpb := hpb0.below HBE.out hpb0.lt
      have hbb := hbb0.below HBE.out hbb0.lt
      have HGB : Hid (gb < W.heap.size) := hbb0.lt
      clear hpb0 hbb0
      have HT := hide (show ps.take (k + 1) = ps.take k ++ [ps[k]] from List.take_succ_eq_append_getElem hlt)
      have HPOK : Hid (PutOk ps[k]) := HOK.out _ (List.getElem_mem hlt)
      generalize ps[k] = p at *
      have hp64 := HPOK.out.2
      have hp16 := HPOK.out.1
      rw [hp64] at c1 htk hcb
      have r0 : wr.cell? ⟨gr, k * 2, none⟩ = some (.int .i64 (p.1 : Int)) := by rw [hpb.cell, Nat.mul_comm]; exact c0
      have r1 : wr.cell? ⟨gr, k * 2 + 1, none⟩ = some (.slice (some ⟨gb, 0, none⟩) 64 cb) := by rw [hpb.cell, Nat.mul_comm]; exact c1
      have hzp : ∀ W', (zeroValue 37).run Try.prog W' = .ok (.agg #[.int .i64 0, .slice none 0 0]) W' := fun W' => zero_put W'
      have HBP : Hid (Blk (wr.alloc (.cells (putC p (.slice (some ⟨gb, 0, none⟩) 64 cb)) 37)) wr.heap.size 37 (putC p (.slice (some ⟨gb, 0, none⟩) 64 cb))) := Blk.new _ _ _
      have HLO : Hid (Below wr.heap.size wr (wr.alloc (.cells (putC p (.slice (some ⟨gb, 0, none⟩) 64 cb)) 37))) := (Below.refl _ _).alloc (Nat.le_refl _) _
      have HBB := hide hbb
      have i1 : (0 : Int) ≤ (k : Int) := by omega
      have i2 : (k : Int) < (ps.length : Int) := by omega
      clear c0 c1 hpb hpc hbb
      have hh0 : cub[0]? = some (.int .u8 ((p.2.headD 0).toNat : Int)) := by
        rw [← Array.getElem?_toList, ← List.getElem?_take_of_lt (l := cub.toList) (j := 64) (by omega), htk]
        match p.2, hp64 with
        | x :: r, _ => rfl
      have HTK := hide htk
      clear htk
      obtain ⟨b0, hb0⟩ : ∃ b0, p.2.headD 0 = b0 := ⟨_, rfl⟩
      rw [hb0] at hh0
      have HSN : Hid (headP n ps.length (ps.take (k + 1)) = headP n ps.length (ps.take k) ++ beL p.1 4 ++ [b0]) := by
        rw [HT.out, headP_snoc, hb0]
        exact rfl
      have HHL : Hid ((headP n ps.length (ps.take k)).length = 10 + 5 * k) := by
        show _ = _
        rw [headP_len, List.length_take]
        omega
      obtain ⟨hb, hhb⟩ : ∃ hb, headP n ps.length (ps.take k) = hb := ⟨_, rfl⟩
      rw [hhb] at HOH HSN HHL
      clear hhb hb0
      obtain ⟨w5, hw5⟩ : ∃ w5, wr.alloc (.cells (putC p (.slice (some ⟨gb, 0, none⟩) 64 cb)) 37) = w5 := ⟨_, rfl⟩
      rw [hw5] at HBP HLO
      unfold putC at hw5
      go_wp2_with fail
      clear hw5 hzp r0 r1
      have HOH5 := hide (own_keep HOH.out HLO.out)
      have HQO : Hid (∀ q, u5.ownBlock = some q → q < wr.heap.size ∧ W.heap.size ≤ q) := fun q e => ⟨(HOH.out.lt q e).2, (HOH.out.lt q e).1⟩
      have HB5 : Hid (Below W.heap.size W w5) := HBE.out.trans (HLO.out.mono hszr)
      have HSX : Hid (∀ x, Fr (fun q => u5.ownBlock = some q) w5 x → x.cell? ⟨wr.heap.size, 0, none⟩ = some (.int .i64 (p.1 : Int)) ∧ x.cell? ⟨wr.heap.size, 1, none⟩ = some (.slice (some ⟨gb, 0, none⟩) 64 cb) ∧ x.cell? ⟨gb, 0, none⟩ = some (.int .u8 (b0.toNat : Int))) := fun x hx => by
        have hb := hx.blk HBP.out (fun (e : u5.ownBlock = some wr.heap.size) => absurd (HQO.out wr.heap.size e).1 (Nat.lt_irrefl _))
        have hb2 := hx.blk (HBB.out.below HLO.out HBB.out.lt) (fun (e : u5.ownBlock = some gb) => absurd (HQO.out gb e).2 (Nat.not_le_of_lt HGB.out))
        exact ⟨hb.cell 0, hb.cell 1, (hb2.cell 0).trans hh0⟩
      clear hh0
      refine region_U (fun x => x.cell? ⟨wr.heap.size, 0, none⟩ = some (.int .i64 (p.1 : Int)) ∧ x.cell? ⟨wr.heap.size, 1, none⟩ = some (.slice (some ⟨gb, 0, none⟩) 64 cb) ∧ x.cell? ⟨gb, 0, none⟩ = some (.int .u8 (b0.toNat : Int))) 10 (by kernel_rfl) ?_
      intro Y hY
      have HFY : Hid (Fr (fun q => u5.ownBlock = some q) w5 Y) := by rw [hY]; exact Fr.of_below (Below.refl _ _).drew _
      have HOYX := hide (own_keep HOH5.out (show Below w5.heap.size w5 Y by rw [hY]; exact (Below.refl _ _).drew))
      have HSY := hide (HSX.out Y HFY.out)
      clear hY
      refine takeV 12 0 (u5) rfl (by kernel_rfl) (fun _ _ _ h => h) (by rfl) (fun x hS => by
        obtain ⟨s1, s2, s3⟩ := hS
        go_simp) HSY.out ?_
      simp only [Act.put, List.getElem_toArray, List.getElem_cons_succ, List.getElem_cons_zero, List.setIfInBounds_toArray, List.set_cons_zero, List.set_cons_succ]
      refine takeV 12 1 (.pointer (some ⟨wr.heap.size, 0, none⟩)) rfl (by kernel_rfl) (fun _ _ _ h => h) (by rfl) (fun x hS => by
        obtain ⟨s1, s2, s3⟩ := hS
        go_simp) HSY.out ?_
      simp only [Act.put, List.getElem_toArray, List.getElem_cons_succ, List.getElem_cons_zero, List.setIfInBounds_toArray, List.set_cons_zero, List.set_cons_succ]
      refine takeV 12 2 (.int .i64 (p.1 : Int)) rfl (by kernel_rfl) (fun _ _ _ h => h) (by rfl) (fun x hS => by
        obtain ⟨s1, s2, s3⟩ := hS
        go_simp) HSY.out ?_
      simp only [Act.put, List.getElem_toArray, List.getElem_cons_succ, List.getElem_cons_zero, List.setIfInBounds_toArray, List.set_cons_zero, List.set_cons_succ]
      refine takeV 12 4 (.pointer (some ⟨wr.heap.size, 1, none⟩)) rfl (by kernel_rfl) (fun _ _ _ h => h) (by rfl) (fun x hS => by
        obtain ⟨s1, s2, s3⟩ := hS
        go_simp) HSY.out ?_
      simp only [Act.put, List.getElem_toArray, List.getElem_cons_succ, List.getElem_cons_zero, List.setIfInBounds_toArray, List.set_cons_zero, List.set_cons_succ]
      refine takeV 12 5 (.slice (some ⟨gb, 0, none⟩) 64 cb) rfl (by kernel_rfl) (fun _ _ _ h => h) (by rfl) (fun x hS => by
        obtain ⟨s1, s2, s3⟩ := hS
        go_simp) HSY.out ?_
      simp only [Act.put, List.getElem_toArray, List.getElem_cons_succ, List.getElem_cons_zero, List.setIfInBounds_toArray, List.set_cons_zero, List.set_cons_succ]
      refine takeV 12 6 (.pointer (some ⟨gb, 0, none⟩)) rfl (by kernel_rfl) (fun _ _ _ h => h) (by rfl) (fun x hS => by
        obtain ⟨s1, s2, s3⟩ := hS
        go_simp) HSY.out ?_
      simp only [Act.put, List.getElem_toArray, List.getElem_cons_succ, List.getElem_cons_zero, List.setIfInBounds_toArray, List.set_cons_zero, List.set_cons_succ]
      refine takeV 12 7 (.int .u8 (b0.toNat : Int)) rfl (by kernel_rfl) (fun _ _ _ h => h) (by rfl) (fun x hS => by
        obtain ⟨s1, s2, s3⟩ := hS
        go_simp) HSY.out ?_
      simp only [Act.put, List.getElem_toArray, List.getElem_cons_succ, List.getElem_cons_zero, List.setIfInBounds_toArray, List.set_cons_zero, List.set_cons_succ]
      have HOY : Hid (Y.ownsRow W.heap.size 5 1 u5 hb.length (byts hb)) := HOYX.out
      have hszY : W.heap.size ≤ Y.heap.size := Nat.le_trans HB5.out.size HFY.out.size
      have hhl := HHL.out
      refine twoU 3 8 rfl rfl (by kernel_rfl) (by rfl) (by rfl) ?_ ?_
      · go_wp2_with fail
        refine (number_any hb u5 p.1 4 W.heap.size Y (by omega) (by omega) (by omega) hszY HOY.out).mono ?_
        rintro e y4 ⟨v4, rfl, ho4, ha4, hf4⟩
        have HF4 : Hid (Fr (fun q => u5.ownBlock = some q) w5 y4) := HFY.out.trans hf4 (fun _ _ e => e)
        have HO4 : Hid ((y4.alloc (.cells #[.int .u8 (b0.toNat : Int)] 5)).ownsRow W.heap.size 5 1 v4 (hb.length + 4) (byts (hb ++ beL p.1 4))) := own_keep ho4 ((Below.refl _ _).alloc (Nat.le_refl _) _)
        have HA4 : Hid (v4.ownBlock = u5.ownBlock ∨ ∃ q, v4.ownBlock = some q ∧ w5.heap.size ≤ q) := by
          rcases ha4 with h | ⟨q, h, h2⟩
          · exact .inl h
          · exact .inr ⟨q, h, Nat.le_trans HFY.out.size h2⟩
        have HFA : Hid (Fr (fun q => u5.ownBlock = some q) w5 (y4.alloc (.cells #[.int .u8 (b0.toNat : Int)] 5))) := HF4.out.trans (O' := fun q => u5.ownBlock = some q) (Fr.of_below ((Below.refl _ _).alloc (Nat.le_refl _) _) _) (fun _ _ e => e)
        have HSY4 := hide (HSX.out y4 HF4.out)
        have HSYA := hide (HSX.out _ HFA.out)
        have HR4 : Hid (Reads (y4.alloc (.cells #[.int .u8 (b0.toNat : Int)] 5)) (y4.heap.size + 1) 1 (some ⟨y4.heap.size, 0, none⟩) 1 [.int .u8 (b0.toNat : Int)]) := ⟨rfl, fun _ => ⟨_, rfl, by simp, fun j u hu => by
          rw [add_flat, cell_new, ← hu]
          simp⟩⟩
        have hszA : W.heap.size ≤ (y4.alloc (.cells #[.int .u8 (b0.toNat : Int)] 5)).heap.size := Nat.le_trans HB5.out.size HFA.out.size
        clear ho4 ha4 hf4 HSY HOY
        refine ⟨(by first | exact fun _ => HSY4.out | exact HSY4.out), ?_⟩
        try simp only [Act.put, List.getElem_toArray, List.getElem_cons_succ, List.getElem_cons_zero, List.setIfInBounds_toArray, List.set_cons_zero, List.set_cons_succ]
        refine oneU 8 rfl (by kernel_rfl) (by rfl) ?_
        go_wp2_with fail
        refine ⟨(by first | exact fun _ => HSYA.out | exact HSYA.out), ?_⟩
        try simp only [Act.put, List.getElem_toArray, List.getElem_cons_succ, List.getElem_cons_zero, List.setIfInBounds_toArray, List.set_cons_zero, List.set_cons_succ]
        obtain ⟨yA, hyA⟩ : ∃ yA, y4.alloc (.cells #[.int .u8 (b0.toNat : Int)] 5) = yA := ⟨_, rfl⟩
        rw [hyA] at HO4 HFA HR4 hszA ⊢
        clear hyA HSY4 HSYA
        refine oneU 9 rfl (by kernel_rfl) (by rfl) (wp_append_any _ (.tmp 28) (.tmp 33) 22 (by rfl) W.heap.size 5 i0 _ 1 1 Try.underlying22 hi0 hz0 hz1 hz2 rfl (by omega) v4 (hb.length + 4) (byts (hb ++ beL p.1 4)) (by rfl) HO4.out (y4.heap.size + 1) (some ⟨y4.heap.size, 0, none⟩) 1 1 [.int .u8 (b0.toNat : Int)] (by rfl) HR4.out (by simp [Value.oneCell']) (by simp only [maxLen]; omega) (by omega) hszA ?_)
        intro v6 W6 hown6 hg6 hat6
        have HO6 : Hid (W6.ownsRow W.heap.size 5 1 v6 (headP n ps.length (ps.take (k + 1))).length (byts (headP n ps.length (ps.take (k + 1))))) := by
          rw [HSN.out, show (hb ++ beL p.1 4 ++ [b0]).length = hb.length + 4 + 1 by rw [List.length_append, List.length_append, beL_len]; rfl, show byts (hb ++ beL p.1 4 ++ [b0]) = byts (hb ++ beL p.1 4) ++ [.int .u8 (b0.toNat : Int)] by simp [byts]]
          exact hown6
        have HF6 : Hid (Fr (fun q => u5.ownBlock = some q) w5 W6) := HFA.out.trans (Fr.of_grown hg6) (fun q hq e => by
          rcases HA4.out with h | ⟨q', h, h2⟩
          · exact h.symm.trans e
          · rw [h] at e; injection e with e; omega)
        have HA6 : Hid (v6.ownBlock = u5.ownBlock ∨ ∃ q, v6.ownBlock = some q ∧ w5.heap.size ≤ q) := by
          rcases hat6 with h | h
          · rw [h]; exact HA4.out
          · exact .inr ⟨_, h, HFA.out.size⟩
        have HS6 := hide (HSX.out W6 HF6.out)
        clear hown6 hg6 hat6 HO4 HFA HR4 HA4 HF4
        refine ⟨(by first | exact fun _ => HS6.out | exact HS6.out), ?_⟩
        try simp only [Act.put, List.getElem_toArray, List.getElem_cons_succ, List.getElem_cons_zero, List.setIfInBounds_toArray, List.set_cons_zero, List.set_cons_succ]
        refine oneU 10 rfl (by kernel_rfl) (by rfl) ?_
        go_wp2_with fail
        refine doneU (by kernel_rfl) ?_ _
        obtain ⟨s1, s2, s3⟩ := HS6.out
        have HB6 : Hid (Blk W6 gb 5 cub) := HF6.out.blk (HBB.out.below HLO.out HBB.out.lt) (fun (e : u5.ownBlock = some gb) => absurd (HQO.out gb e).2 (Nat.not_le_of_lt HGB.out))
        have HCL := hide (clone_some p.2 ⟨gb, 0, none⟩ 64 cb W6.heap.size W6 hp64.symm (by omega) (Nat.le_refl _) (bytes_blk HB6.out (by rw [hp64]; exact HTK.out)))
        have HNE : Hid (∀ q, u5.ownBlock = some q → u6.ownBlock ≠ some q) := own_ne HOH.out HOL.out (by decide)
        have HW6 : Hid (W.heap.size ≤ W6.heap.size) := Nat.le_trans HB5.out.size HF6.out.size
        have HOL6 : Hid (W6.ownsRow W.heap.size 22 1 u6 (k + 1) ([.slice none 0 0] ++ vs)) := HF6.out.own (own_keep HOL.out HLO.out) (fun q h e => HNE.out q e h)
        have HSV6 : Hid (SecVs W6 (fun q => v6.ownBlock ≠ some q) vs ((ps.take k).map bodyL)) := ((HSV.out.weak (D' := fun q => q < w5.heap.size ∧ u5.ownBlock ≠ some q) (fun q hq h => ⟨Nat.lt_of_lt_of_le hq HLO.out.size, h⟩)).below HLO.out |>.fr HF6.out (fun q _ h => h.2)).weak (fun q _ h e => by
          rcases HA6.out with k1 | ⟨q', k1, k2⟩
          · exact h.2 (k1 ▸ e)
          · rw [k1] at e; injection e with e; have := h.1; omega)
        have HBE6 : Hid (Below W.heap.size W W6) := HB5.out.trans (HF6.out.below HB5.out.size (fun q e => (HQO.out q e).2))
        go_wp2_with fail
        clear s1 s2 s3
        refine (unhide HCL).mono ?_
        rintro e w7 ⟨v7, rfl, ho7, hb7⟩
        rw [hp64] at ho7
        obtain ⟨g7, c7, rfl, hg7a, hg7b⟩ := ho7.form (by omega)
        have x0 := ho7.cellAt 0 (by omega)
        obtain ⟨z0, hz0'⟩ : ∃ z, (byts p.2)[0]? = some z := ⟨_, List.getElem?_eq_getElem (by rw [byts_length]; omega)⟩
        rw [hz0'] at x0
        have x1 := ho7.frozenAt 0
        obtain ⟨ho8, hg8⟩ := ho7.stored 0 (.int .u8 0)
        have hbl : (bodyL p).length = 64 := by unfold bodyL; rw [List.length_set]; exact hp64
        have HSC : Hid (SecV (w7.setCell ⟨g7, 0, none⟩ (.int .u8 0)) (fun q => v6.ownBlock ≠ some q) (.slice (some ⟨g7, 0, none⟩) 64 c7) (bodyL p)) := by
          rw [byts_set0] at ho8
          have h8 : (w7.setCell ⟨g7, 0, none⟩ (.int .u8 0)).ownsRow W6.heap.size 5 1 (.slice (some ⟨g7, 0, none⟩) 64 c7) (bodyL p).length (byts (bodyL p)) := by rw [hbl]; exact ho8
          refine (SecV.of_own h8 (by omega)).weak (fun q _ h e => ?_)
          have := (HO6.out.lt q e).2
          have := h.1
          omega
        have HF8 : Hid (Fr (fun _ => False) W6 (w7.setCell ⟨g7, 0, none⟩ (.int .u8 0))) := (Fr.of_below hb7 (fun _ => False)).trans (O' := fun q => some g7 = some q) (Fr.of_grown hg8) (fun q hq e => by injection e with e; omega)
        have HO68 := hide (HF8.out.own HO6.out (fun _ _ e => e))
        have HOL8 := hide (HF8.out.own HOL6.out (fun _ _ e => e))
        have HSV8 := hide (HSV6.out.fr HF8.out (fun _ _ _ e => e))
        have HBE8 : Hid (Below W.heap.size W (w7.setCell ⟨g7, 0, none⟩ (.int .u8 0))) := HBE6.out.trans (HF8.out.below HW6.out (fun _ e => e.elim))
        have i7 : (0 : Int) < 64 := by omega
        clear ho7 hb7 ho8 hg8 hz0' HCL HB6
        obtain ⟨W8, hW8⟩ : ∃ W8, w7.setCell ⟨g7, 0, none⟩ (.int .u8 0) = W8 := ⟨_, rfl⟩
        rw [hW8] at HSC HF8 HO68 HOL8 HSV8 HBE8
        have HAL : Hid (Below W8.heap.size W8 (W8.alloc (.cells #[.slice (some ⟨g7, 0, none⟩) 64 c7] 22))) := (Below.refl _ _).alloc (Nat.le_refl _) _
        have HOL9 := hide (own_keep HOL8.out HAL.out)
        have HR9 : Hid (Reads (W8.alloc (.cells #[.slice (some ⟨g7, 0, none⟩) 64 c7] 22)) (W8.heap.size + 1) 1 (some ⟨W8.heap.size, 0, none⟩) 1 [.slice (some ⟨g7, 0, none⟩) 64 c7]) := ⟨rfl, fun _ => ⟨_, rfl, by simp, fun j u hu => by
          rw [add_flat, cell_new, ← hu]
          simp⟩⟩
        go_wp2_with (at_builtin; refine wpList_append_any _ rfl (.tmp 40) (.tmp 42) _ rfl W.heap.size 22 ir _ 1 24 Try.underlying43 HIR.out hr0 hr1 hr2 rfl (by omega) u6 (k + 1) ([.slice none 0 0] ++ vs) rfl HOL9.out (W8.heap.size + 1) (some ⟨W8.heap.size, 0, none⟩) 1 1 [.slice (some ⟨g7, 0, none⟩) 64 c7] rfl HR9.out (by simp [Value.oneCell']) (by simp only [maxLen]; omega) (by omega) (by have := HBE8.out.size; simp; omega) ?_; intro v9 W9 hown9 hg9 hat9)
        have HSV9 : Hid (SecVs W9 (fun q => v6.ownBlock ≠ some q) (vs ++ [.slice (some ⟨g7, 0, none⟩) 64 c7]) ((ps.take (k + 1)).map bodyL)) := by
          show SecVs _ _ _ _
          rw [HT.out, List.map_append]
          exact ((HSV8.out.below HAL.out).own HOL9.out (by decide) hg9).snoc ((HSC.out.below HAL.out).own HOL9.out (by decide) hg9)
        have HO69 : Hid (W9.ownsRow W.heap.size 5 1 v6 (headP n ps.length (ps.take (k + 1))).length (byts (headP n ps.length (ps.take (k + 1))))) := (Fr.of_grown hg9).own (own_keep HO68.out HAL.out) (own_ne HO68.out HOL8.out (by decide))
        have HBE9 : Hid (Below W.heap.size W W9) := (HBE8.out.trans (HAL.out.mono HBE8.out.size)).trans ((Fr.of_grown hg9).below (Nat.le_trans HBE8.out.size HAL.out.size) (fun q e => (HOL9.out.lt q e).1))
        go_roundw
        case rel => exact ⟨k + 1, by omega, by go_num, HO69.out, ⟨_, by rw [← List.append_assoc]; exact hown9, HSV9.out⟩, HBE9.out⟩
        case measure => simp [intOf]; omega
      · go_wp2_with fail
        have HFB : Hid (Fr (fun q => u5.ownBlock = some q) w5 (Y.alloc (.cells #[.int .u8 (b0.toNat : Int)] 5))) := HFY.out.trans (O' := fun q => u5.ownBlock = some q) (Fr.of_below ((Below.refl _ _).alloc (Nat.le_refl _) _) _) (fun _ _ e => e)
        have HSYB := hide (HSX.out _ HFB.out)
        have HOB : Hid ((Y.alloc (.cells #[.int .u8 (b0.toNat : Int)] 5)).ownsRow W.heap.size 5 1 u5 hb.length (byts hb)) := own_keep HOY.out ((Below.refl _ _).alloc (Nat.le_refl _) _)
        have HBN : Hid (Blk (Y.alloc (.cells #[.int .u8 (b0.toNat : Int)] 5)) Y.heap.size 5 #[.int .u8 (b0.toNat : Int)]) := Blk.new _ _ _
        have hszB : W.heap.size ≤ (Y.alloc (.cells #[.int .u8 (b0.toNat : Int)] 5)).heap.size := Nat.le_trans HB5.out.size HFB.out.size
        refine ⟨(by first | exact fun _ => HSYB.out | exact HSYB.out), ?_⟩
        try simp only [Act.put, List.getElem_toArray, List.getElem_cons_succ, List.getElem_cons_zero, List.setIfInBounds_toArray, List.set_cons_zero, List.set_cons_succ]
        have HNB : Hid (∀ q, u5.ownBlock = some q → q ≠ Y.heap.size) := fun q e => Nat.ne_of_lt (HOY.out.lt q e).2
        have hYw : w5.heap.size ≤ Y.heap.size := HFY.out.size
        clear HSY HOY HSYB
        obtain ⟨yB, hyB⟩ : ∃ yB, Y.alloc (.cells #[.int .u8 (b0.toNat : Int)] 5) = yB := ⟨_, rfl⟩
        have hszYB : yB.heap.size = Y.heap.size + 1 := by rw [← hyB]; simp
        rw [hyB] at HFB HOB HBN hszB ⊢
        clear hyB
        refine oneU 3 rfl (by kernel_rfl) (by rfl) ?_
        go_wp2_with fail
        refine (number_any hb u5 p.1 4 W.heap.size yB (by omega) (by omega) (by omega) hszB HOB.out).mono ?_
        rintro e y4 ⟨v4, rfl, ho4, ha4, hf4⟩
        have HF4 : Hid (Fr (fun q => u5.ownBlock = some q) w5 y4) := HFB.out.trans hf4 (fun _ _ e => e)
        have HO4 := hide ho4
        have HA4 : Hid (v4.ownBlock = u5.ownBlock ∨ ∃ q, v4.ownBlock = some q ∧ w5.heap.size ≤ q) := by
          rcases ha4 with h | ⟨q, h, h2⟩
          · exact .inl h
          · exact .inr ⟨q, h, Nat.le_trans HFB.out.size h2⟩
        have HBN4 : Hid (Blk y4 Y.heap.size 5 #[.int .u8 (b0.toNat : Int)]) := hf4.blk HBN.out (fun e => HNB.out _ e rfl)
        have HSY4 := hide (HSX.out y4 HF4.out)
        have HR4 : Hid (Reads y4 y4.heap.size 1 (some ⟨Y.heap.size, 0, none⟩) 1 [.int .u8 (b0.toNat : Int)]) := reads_of_blk HBN4.out
        have hsz4 : W.heap.size ≤ y4.heap.size := Nat.le_trans hszB hf4.size
        clear ho4 ha4 hf4
        refine ⟨(by first | exact fun _ => HSY4.out | exact HSY4.out), ?_⟩
        try simp only [Act.put, List.getElem_toArray, List.getElem_cons_succ, List.getElem_cons_zero, List.setIfInBounds_toArray, List.set_cons_zero, List.set_cons_succ]
        refine oneU 9 rfl (by kernel_rfl) (by rfl) (wp_append_any _ (.tmp 28) (.tmp 33) 22 (by rfl) W.heap.size 5 i0 _ 1 1 Try.underlying22 hi0 hz0 hz1 hz2 rfl (by omega) v4 (hb.length + 4) (byts (hb ++ beL p.1 4)) (by rfl) HO4.out y4.heap.size (some ⟨Y.heap.size, 0, none⟩) 1 1 [.int .u8 (b0.toNat : Int)] (by rfl) HR4.out (by simp [Value.oneCell']) (by simp only [maxLen]; omega) (by omega) hsz4 ?_)
        intro v6 W6 hown6 hg6 hat6
        have HO6 : Hid (W6.ownsRow W.heap.size 5 1 v6 (headP n ps.length (ps.take (k + 1))).length (byts (headP n ps.length (ps.take (k + 1))))) := by
          rw [HSN.out, show (hb ++ beL p.1 4 ++ [b0]).length = hb.length + 4 + 1 by rw [List.length_append, List.length_append, beL_len]; rfl, show byts (hb ++ beL p.1 4 ++ [b0]) = byts (hb ++ beL p.1 4) ++ [.int .u8 (b0.toNat : Int)] by simp [byts]]
          exact hown6
        have HF6 : Hid (Fr (fun q => u5.ownBlock = some q) w5 W6) := HF4.out.trans (Fr.of_grown hg6) (fun q hq e => by
          rcases HA4.out with h | ⟨q', h, h2⟩
          · exact h.symm.trans e
          · rw [h] at e; injection e with e; omega)
        have HA6 : Hid (v6.ownBlock = u5.ownBlock ∨ ∃ q, v6.ownBlock = some q ∧ w5.heap.size ≤ q) := by
          rcases hat6 with h | h
          · rw [h]; exact HA4.out
          · exact .inr ⟨_, h, HF4.out.size⟩
        have HS6 := hide (HSX.out W6 HF6.out)
        clear hown6 hg6 hat6 HO4 HFB HR4 HA4 HF4 HBN4 HBN HOB HNB HSY4
        refine ⟨(by first | exact fun _ => HS6.out | exact HS6.out), ?_⟩
        try simp only [Act.put, List.getElem_toArray, List.getElem_cons_succ, List.getElem_cons_zero, List.setIfInBounds_toArray, List.set_cons_zero, List.set_cons_succ]
        refine oneU 10 rfl (by kernel_rfl) (by rfl) ?_
        go_wp2_with fail
        refine doneU (by kernel_rfl) ?_ _
        obtain ⟨s1, s2, s3⟩ := HS6.out
        have HB6 : Hid (Blk W6 gb 5 cub) := HF6.out.blk (HBB.out.below HLO.out HBB.out.lt) (fun (e : u5.ownBlock = some gb) => absurd (HQO.out gb e).2 (Nat.not_le_of_lt HGB.out))
        have HCL := hide (clone_some p.2 ⟨gb, 0, none⟩ 64 cb W6.heap.size W6 hp64.symm (by omega) (Nat.le_refl _) (bytes_blk HB6.out (by rw [hp64]; exact HTK.out)))
        have HNE : Hid (∀ q, u5.ownBlock = some q → u6.ownBlock ≠ some q) := own_ne HOH.out HOL.out (by decide)
        have HW6 : Hid (W.heap.size ≤ W6.heap.size) := Nat.le_trans HB5.out.size HF6.out.size
        have HOL6 : Hid (W6.ownsRow W.heap.size 22 1 u6 (k + 1) ([.slice none 0 0] ++ vs)) := HF6.out.own (own_keep HOL.out HLO.out) (fun q h e => HNE.out q e h)
        have HSV6 : Hid (SecVs W6 (fun q => v6.ownBlock ≠ some q) vs ((ps.take k).map bodyL)) := ((HSV.out.weak (D' := fun q => q < w5.heap.size ∧ u5.ownBlock ≠ some q) (fun q hq h => ⟨Nat.lt_of_lt_of_le hq HLO.out.size, h⟩)).below HLO.out |>.fr HF6.out (fun q _ h => h.2)).weak (fun q _ h e => by
          rcases HA6.out with k1 | ⟨q', k1, k2⟩
          · exact h.2 (k1 ▸ e)
          · rw [k1] at e; injection e with e; have := h.1; omega)
        have HBE6 : Hid (Below W.heap.size W W6) := HB5.out.trans (HF6.out.below HB5.out.size (fun q e => (HQO.out q e).2))
        go_wp2_with fail
        clear s1 s2 s3
        refine (unhide HCL).mono ?_
        rintro e w7 ⟨v7, rfl, ho7, hb7⟩
        rw [hp64] at ho7
        obtain ⟨g7, c7, rfl, hg7a, hg7b⟩ := ho7.form (by omega)
        have x0 := ho7.cellAt 0 (by omega)
        obtain ⟨z0, hz0'⟩ : ∃ z, (byts p.2)[0]? = some z := ⟨_, List.getElem?_eq_getElem (by rw [byts_length]; omega)⟩
        rw [hz0'] at x0
        have x1 := ho7.frozenAt 0
        obtain ⟨ho8, hg8⟩ := ho7.stored 0 (.int .u8 0)
        have hbl : (bodyL p).length = 64 := by unfold bodyL; rw [List.length_set]; exact hp64
        have HSC : Hid (SecV (w7.setCell ⟨g7, 0, none⟩ (.int .u8 0)) (fun q => v6.ownBlock ≠ some q) (.slice (some ⟨g7, 0, none⟩) 64 c7) (bodyL p)) := by
          rw [byts_set0] at ho8
          have h8 : (w7.setCell ⟨g7, 0, none⟩ (.int .u8 0)).ownsRow W6.heap.size 5 1 (.slice (some ⟨g7, 0, none⟩) 64 c7) (bodyL p).length (byts (bodyL p)) := by rw [hbl]; exact ho8
          refine (SecV.of_own h8 (by omega)).weak (fun q _ h e => ?_)
          have := (HO6.out.lt q e).2
          have := h.1
          omega
        have HF8 : Hid (Fr (fun _ => False) W6 (w7.setCell ⟨g7, 0, none⟩ (.int .u8 0))) := (Fr.of_below hb7 (fun _ => False)).trans (O' := fun q => some g7 = some q) (Fr.of_grown hg8) (fun q hq e => by injection e with e; omega)
        have HO68 := hide (HF8.out.own HO6.out (fun _ _ e => e))
        have HOL8 := hide (HF8.out.own HOL6.out (fun _ _ e => e))
        have HSV8 := hide (HSV6.out.fr HF8.out (fun _ _ _ e => e))
        have HBE8 : Hid (Below W.heap.size W (w7.setCell ⟨g7, 0, none⟩ (.int .u8 0))) := HBE6.out.trans (HF8.out.below HW6.out (fun _ e => e.elim))
        have i7 : (0 : Int) < 64 := by omega
        clear ho7 hb7 ho8 hg8 hz0' HCL HB6
        obtain ⟨W8, hW8⟩ : ∃ W8, w7.setCell ⟨g7, 0, none⟩ (.int .u8 0) = W8 := ⟨_, rfl⟩
        rw [hW8] at HSC HF8 HO68 HOL8 HSV8 HBE8
        have HAL : Hid (Below W8.heap.size W8 (W8.alloc (.cells #[.slice (some ⟨g7, 0, none⟩) 64 c7] 22))) := (Below.refl _ _).alloc (Nat.le_refl _) _
        have HOL9 := hide (own_keep HOL8.out HAL.out)
        have HR9 : Hid (Reads (W8.alloc (.cells #[.slice (some ⟨g7, 0, none⟩) 64 c7] 22)) (W8.heap.size + 1) 1 (some ⟨W8.heap.size, 0, none⟩) 1 [.slice (some ⟨g7, 0, none⟩) 64 c7]) := ⟨rfl, fun _ => ⟨_, rfl, by simp, fun j u hu => by
          rw [add_flat, cell_new, ← hu]
          simp⟩⟩
        go_wp2_with (at_builtin; refine wpList_append_any _ rfl (.tmp 40) (.tmp 42) _ rfl W.heap.size 22 ir _ 1 24 Try.underlying43 HIR.out hr0 hr1 hr2 rfl (by omega) u6 (k + 1) ([.slice none 0 0] ++ vs) rfl HOL9.out (W8.heap.size + 1) (some ⟨W8.heap.size, 0, none⟩) 1 1 [.slice (some ⟨g7, 0, none⟩) 64 c7] rfl HR9.out (by simp [Value.oneCell']) (by simp only [maxLen]; omega) (by omega) (by have := HBE8.out.size; simp; omega) ?_; intro v9 W9 hown9 hg9 hat9)
        have HSV9 : Hid (SecVs W9 (fun q => v6.ownBlock ≠ some q) (vs ++ [.slice (some ⟨g7, 0, none⟩) 64 c7]) ((ps.take (k + 1)).map bodyL)) := by
          show SecVs _ _ _ _
          rw [HT.out, List.map_append]
          exact ((HSV8.out.below HAL.out).own HOL9.out (by decide) hg9).snoc ((HSC.out.below HAL.out).own HOL9.out (by decide) hg9)
        have HO69 : Hid (W9.ownsRow W.heap.size 5 1 v6 (headP n ps.length (ps.take (k + 1))).length (byts (headP n ps.length (ps.take (k + 1))))) := (Fr.of_grown hg9).own (own_keep HO68.out HAL.out) (own_ne HO68.out HOL8.out (by decide))
        have HBE9 : Hid (Below W.heap.size W W9) := (HBE8.out.trans (HAL.out.mono HBE8.out.size)).trans ((Fr.of_grown hg9).below (Nat.le_trans HBE8.out.size HAL.out.size) (fun q e => (HOL9.out.lt q e).1))
        go_roundw
        case rel => exact ⟨k + 1, by omega, by go_num, HO69.out, ⟨_, by rw [← List.append_assoc]; exact hown9, HSV9.out⟩, HBE9.out⟩
        case measure => simp [intOf]; omega
    · obtain rfl : k = ps.length := by omega
      rw [List.take_length] at HOH HSV
      have hhl : (headP n ps.length ps).length = 10 + 5 * ps.length := headP_len _ _ _
      have HP1 := hide (padded_any (headP n ps.length ps) u5 _ W.heap.size wr rfl (by omega) hszr HOH.out)
      have HNE := hide (own_ne HOH.out HOL.out (by decide))
      go_wp2_with fail
      refine (unhide HP1).mono ?_
      rintro e x1 ⟨vp, rfl, hop, hap, hfp⟩
      obtain ⟨gp, cp, evp, _, _⟩ := hop.form (by omega)
      subst evp
      have HOL1 := hide (hfp.own HOL.out (fun q h e => HNE.out q e h))
      have HSV1 := hide (HSV.out.fr hfp (fun q _ h e => h e))
      have HBE1 : Hid (Below W.heap.size W x1) := HBE.out.trans (hfp.below hszr (fun q e => (HOH.out.lt q e).1))
      obtain ⟨g6, c6, e6, _, _⟩ := HOL1.out.form (by omega)
      subst e6
      have x0 := HOL1.out.cellAt 0 (by omega)
      have xf := HOL1.out.frozenAt 0
      obtain ⟨ho2, hg2⟩ := HOL1.out.stored 0 (.slice (some ⟨gp, 0, none⟩) 64 cp)
      have HSP : Hid (SecV x1 (fun _ => True) (.slice (some ⟨gp, 0, none⟩) 64 cp) (headL n ps)) := by
        have h8 : x1.ownsRow W.heap.size 5 1 (.slice (some ⟨gp, 0, none⟩) 64 cp) (headL n ps).length (byts (headL n ps)) := by rw [headL_len n h10]; exact hop
        exact (SecV.of_own h8 (by rw [headL_len n h10]; omega)).weak (fun _ _ _ => trivial)
      have hszx : W.heap.size ≤ x1.heap.size := HBE1.out.size
      have HBE2 : Hid (Below W.heap.size W (x1.setCell ⟨g6, 0, none⟩ (.slice (some ⟨gp, 0, none⟩) 64 cp))) := HBE1.out.trans ((Fr.of_grown hg2).below hszx (fun q e => by injection e with e; have := (HOL1.out.lt q (by exact congrArg some e)).1; omega))
      have HSV2 : Hid (SecVs (x1.setCell ⟨g6, 0, none⟩ (.slice (some ⟨gp, 0, none⟩) 64 cp)) (fun _ => True) (.slice (some ⟨gp, 0, none⟩) 64 cp :: vs) (headL n ps :: ps.map bodyL)) := ((HSV1.out.weak (fun _ _ _ => trivial)).cons HSP.out).own HOL1.out (by decide) hg2
      have HOL2 : Hid ((x1.setCell ⟨g6, 0, none⟩ (.slice (some ⟨gp, 0, none⟩) 64 cp)).ownsRow W.heap.size 22 1 (.slice (some ⟨g6, 0, none⟩) (ps.length + 1) c6) (ps.length + 1) (.slice (some ⟨gp, 0, none⟩) 64 cp :: vs)) := ho2
      have ip : (0 : Int) < (ps.length : Int) + 1 := by omega
      simp only [List.cons_append, List.nil_append, List.getElem?_cons_zero] at x0
      clear hop hap hfp ho2 hg2 HP1 HNE HSP
      obtain ⟨X2, hX2⟩ : ∃ X2, x1.setCell ⟨g6, 0, none⟩ (.slice (some ⟨gp, 0, none⟩) 64 cp) = X2 := ⟨_, rfl⟩
      rw [hX2] at HBE2 HSV2 HOL2
      have HA3 : Hid (Below X2.heap.size X2 (X2.alloc (.cells #[.int .u8 67] 5))) := (Below.refl _ _).alloc (Nat.le_refl _) _
      have HO3 : Hid ((X2.alloc (.cells #[.int .u8 67] 5)).ownsRow X2.heap.size 5 1 (.slice (some ⟨X2.heap.size, 0, none⟩) 1 1) 1 (byts [67])) := World.ownsRow_lit X2 #[.int .u8 67] 1 (Nat.le_refl _) (by decide) rfl
      have HN3 := hide (number_any [67] _ n 8 X2.heap.size _ (by omega) hn (by simp) HA3.out.size HO3.out)
      go_wp2_with fail
      refine (unhide HN3).mono ?_
      rintro e x3 ⟨v3, rfl, ho3, _, hf3⟩
      have HB23 : Hid (Below X2.heap.size X2 x3) := HA3.out.trans (hf3.below HA3.out.size (fun q e => (HO3.out.lt q e).1))
      have HP4 := hide (padded_any ([67] ++ beL n 8) v3 9 X2.heap.size x3 (by rw [List.length_append, beL_len]; rfl) (by rw [List.length_append, beL_len]; decide) HB23.out.size ho3)
      have HO3' := hide ho3
      clear ho3 hf3 HN3 HO3 HA3 hX2 x0 xf
      go_wp2_with fail
      refine (unhide HP4).mono ?_
      rintro e x4 ⟨vq, rfl, hoq, _, hfq⟩
      obtain ⟨gq, cq, evq, _, _⟩ := hoq.form (by omega)
      subst evq
      have HB24 : Hid (Below X2.heap.size X2 x4) := HB23.out.trans (hfq.below HB23.out.size (fun q e => (HO3'.out.lt q e).1))
      have HSQ : Hid (SecV x4 (fun _ => True) (.slice (some ⟨gq, 0, none⟩) 64 cq) (footL n)) := by
        have h8 : x4.ownsRow X2.heap.size 5 1 (.slice (some ⟨gq, 0, none⟩) 64 cq) (footL n).length (byts (footL n)) := by rw [footL_len n]; exact hoq
        exact (SecV.of_own h8 (by rw [footL_len n]; omega)).weak (fun _ _ _ => trivial)
      have HAL : Hid (Below x4.heap.size x4 (x4.alloc (.cells #[.slice (some ⟨gq, 0, none⟩) 64 cq] 22))) := (Below.refl _ _).alloc (Nat.le_refl _) _
      have HB25 : Hid (Below X2.heap.size X2 (x4.alloc (.cells #[.slice (some ⟨gq, 0, none⟩) 64 cq] 22))) := HB24.out.trans (HAL.out.mono HB24.out.size)
      have HOL9 := hide (own_keep HOL2.out HB25.out)
      have HSV9 := hide (HSV2.out.below HB25.out)
      have HSQ9 := hide (HSQ.out.below HAL.out)
      have HR9 : Hid (Reads (x4.alloc (.cells #[.slice (some ⟨gq, 0, none⟩) 64 cq] 22)) (x4.heap.size + 1) 1 (some ⟨x4.heap.size, 0, none⟩) 1 [.slice (some ⟨gq, 0, none⟩) 64 cq]) := ⟨rfl, fun _ => ⟨_, rfl, by simp, fun j u hu => by
        rw [add_flat, cell_new, ← hu]
        simp⟩⟩
      clear hoq hfq HP4 HO3'
      go_wp2_with (at_builtin; refine wpList_append_any _ rfl (.tmp 49) (.tmp 54) _ rfl W.heap.size 22 ir _ 1 24 Try.underlying43 HIR.out hr0 hr1 hr2 rfl (by omega) (.slice (some ⟨g6, 0, none⟩) (ps.length + 1) c6) (ps.length + 1) (.slice (some ⟨gp, 0, none⟩) 64 cp :: vs) rfl HOL9.out (x4.heap.size + 1) (some ⟨x4.heap.size, 0, none⟩) 1 1 [.slice (some ⟨gq, 0, none⟩) 64 cq] rfl HR9.out (by simp [Value.oneCell']) (by simp only [maxLen]; omega) (by omega) (by have := HBE2.out.size; have := HB24.out.size; simp; omega) ?_; intro v9 W9 hown9 hg9 hat9)
      have HSF := hide ((HSV9.out.own HOL9.out (by decide) hg9).snoc (HSQ9.out.own HOL9.out (by decide) hg9))
      obtain ⟨A9, c9, e9, hrb⟩ := rows_of_own hown9 HSF.out
      have HBF : Hid (Below W.heap.size W W9) := (HBE2.out.trans (HB25.out.mono HBE2.out.size)).trans ((Fr.of_grown hg9).below (Nat.le_trans HBE2.out.size HB25.out.size) (fun q e => (HOL9.out.lt q e).1))
      have HRB := hide hrb
      have hcp := own_cap hown9 e9
      clear hown9 hg9 hat9 hrb
      go_ret
      subst e9
      exact ⟨A9, c9, rfl, HRB.out, HBF.out, hcp⟩
end Go.Proofs.Ytogjdfiimflbaaa
