/-
  The reference device's Crash. Conditions: it lies as its state says; the list of what is kept reads as bools, through whatever the reference device does.
-/
import Derived.Test.YtenhjnicadjbaaaDoorRefFlush
import Derived.Test.YtenhjnicadjbaaaDoorDevCrash
import Derived.Deep.DeepCutAuto
namespace Go.Proofs.YtenhjnicadjbaaaDoor
open Go Go.RowKit

def crashR (R : RS) (keep : List Bool) (torn P : Int) : RS := ⟨0, [], crashK (clip P) torn keep 0 R.safe R.wait, []⟩
theorem rcells_new (W : World) (t : TypeId) (ht : t = 98) (a b : Value) : Blk (W.alloc (.cells #[a, b] t)) W.heap.size 98 #[a, b] := by
  subst ht
  exact Blk.new _ _ _

/-- four stores at a crash's end -/
theorem RefIn.reset {W : World} {B r : Nat} {sv wv bv : Value} {R : RS} (h : RefIn W B r sv wv bv R) (X : World)
    (hX : X = (((W.setCell ⟨r, 1, none⟩ (.slice none 0 0)).setCell ⟨r, 2, none⟩ (.int .i64 0)).setCell ⟨r, 3, none⟩ (.slice none 0 0)).setCell ⟨r, 4, none⟩ (.int .i64 (-1))) :
    RefIn X B r sv (.slice none 0 0) (.slice none 0 0) ⟨0, [], R.safe, []⟩ ∧ TKeep (· == 95) B W X := by
  obtain ⟨hS1, hS2, hS3, hS4, hS5, hS6, hS7⟩ := h.ok
  have hb : Below B W X := by
    rw [hX]
    exact ((((Below.refl B W).setCell (p := ⟨r, 1, none⟩) h.br _).setCell (p := ⟨r, 2, none⟩) h.br _).setCell (p := ⟨r, 3, none⟩) h.br _).setCell (p := ⟨r, 4, none⟩) h.br _
  have hdv : Blk X r 95 (refCells ⟨0, [], R.safe, []⟩ sv (.slice none 0 0) (.slice none 0 0)) := by
    rw [hX]
    exact (((h.dev.set_ 1 _).set_ 2 _).set_ 3 _).set_ 4 _
  have hk : TKeep (· == 95) B W X := ⟨hb, fun q cs t hq hn => by
    have hne : q ≠ r := fun e => Blk.ne_ hq h.dev (fun e' => by rw [e'] at hn; simp at hn) e
    rw [hX]
    exact (((hq.far (p := ⟨r, 1, none⟩) hne _).far (p := ⟨r, 2, none⟩) hne _).far (p := ⟨r, 3, none⟩) hne _).far (p := ⟨r, 4, none⟩) hne _⟩
  exact ⟨⟨⟨hS1, fun e he => absurd he List.not_mem_nil, hS3, Nat.zero_le _, Nat.zero_le _, by show (0 : Int) ≤ 0; omega, by show (0 : Int) ≤ 1048576; omega⟩, h.br, hdv, h.safe.keep hk rfl rfl, ⟨[], World.ownsRow_nil _ _ _ _, fun i hi => absurd hi (by simp)⟩, ⟨none, 0, rfl, Reads.none_⟩⟩, hk⟩

set_option maxRecDepth 100000 in
set_option maxHeartbeats 4000000 in
theorem rcrash_any (W : World) (B r : Nat) (R : RS) (h : RefAt W B r R) (keep : List Bool) (torn P : Int) (A : Option Addr) (n c : Nat) (hn : n = keep.length) (hkl : keep.length ≤ 1099511627776) (hK : ∀ W', RKeep B W W' → Reads W' W'.heap.size 1 A n (bools keep)) :
    Calls Tryd.prog 42 #[.pointer (some ⟨r, 0, none⟩), .agg #[.slice A n c, .int .i64 torn, .int .i64 P]] W fun e W' => e = .returned (.tuple #[]) ∧ RefAt W' B r (crashR R keep torn P) ∧ RKeep B W W' := by
  subst hn
  obtain ⟨sv, wv, bv, h⟩ := h
  have hs5 := h.ok.2.2.1
  have hq5 := h.ok.2.2.2.1
  obtain ⟨Aw, cw, rfl, _⟩ := h.wait.form
  obtain ⟨As, cs, rfl, _⟩ := h.safe.form
  have hp64 : clip P ≤ 64 := by unfold clip; omega
  have HPC := hide (show (if P < 0 then (0 : Int) else P) = max P 0 ∧ (if max P 0 > 64 then (64 : Int) else max P 0) = (clip P : Int) by unfold clip; constructor <;> split <;> omega)
  have HKB := hide (fun W' (hk : RKeep B W W') => hK W' hk)
  have HIN := hide h
  have HCR : Hid (crashR R keep torn P = ⟨0, [], crashK (clip P) torn keep 0 R.safe R.wait, []⟩) := rfl
  have HB1 : Hid (Blk (W.alloc (.cells #[.slice A keep.length c, .int .i64 torn, .int .i64 P] 63)) W.heap.size 63 #[.slice A keep.length c, .int .i64 torn, .int .i64 P]) := Blk.new _ _ _
  have HW1 : Hid (Below W.heap.size W (W.alloc (.cells #[.slice A keep.length c, .int .i64 torn, .int .i64 P] 63))) := (Below.refl _ _).alloc (Nat.le_refl _) _
  have HGC : Hid (B ≤ W.heap.size) := Nat.le_trans h.br (Nat.le_of_lt h.dev.lt)
  clear h hK
  go_enter Tryd.func42, Tryd.ntmps42
  go_upto_if 11 with (fail)
  go_cut [4] (fun s4 wx => s4 = .int .i64 (max P 0) ∧ wx = W.alloc (.cells #[.slice A keep.length c, .int .i64 torn, .int .i64 P] 63))
  case first =>
    have hp := HPC.out.1
    by_cases h0 : P < 0
    · rw [if_pos h0] at hp
      have HP := hide hp
      clear hp
      go_wp2
      go_meet
      exact ⟨by rw [← HP.out], rfl⟩
    · rw [if_neg h0] at hp
      have HP := hide hp
      clear hp
      go_wp2
      go_meet
      exact ⟨by rw [← HP.out], rfl⟩
  case rest =>
    obtain ⟨rfl, rfl⟩ := hcut
    have hp := HPC.out.2
    have HQ0 : Hid (∀ z : Int, z = max P 0 → (if z > 64 then (64 : Int) else z) = (clip P : Int)) := fun z hz => by rw [hz]; exact hp
    clear hp
    generalize hz : max P 0 = z at *
    have HZ := hide hz
    clear hz
    go_upto_if 13 with (fail)
    go_cut [4] (fun s4 wx => s4 = .int .i64 (clip P : Int) ∧ wx = W.alloc (.cells #[.slice A keep.length c, .int .i64 torn, .int .i64 P] 63))
    case first =>
      have hp := HQ0.out z rfl
      by_cases h0 : z > 64
      · rw [if_pos h0] at hp
        have HP := hide hp
        clear hp
        go_wp2
        go_meet
        exact ⟨by rw [← HP.out], rfl⟩
      · rw [if_neg h0] at hp
        have HP := hide hp
        clear hp
        go_wp2
        go_meet
        exact ⟨by rw [← HP.out], rfl⟩
    case rest =>
      obtain ⟨rfl, rfl⟩ := hcut
      clear HQ0 HPC HZ
      have HIN1 := hide (HIN.out.lift HW1.out)
      generalize clip P = part at *
      go_wp2_with fail
      go_loopw [5] (fun v wr => ∃ j : Nat, j ≤ R.wait.length ∧ v = .int .i64 j ∧ RefIn wr B r (.slice As R.safe.length cs) (.slice Aw R.wait.length cw) bv { R with safe := crashK part torn keep 0 R.safe (R.wait.take j) } ∧ RKeep B W wr ∧ Blk wr W.heap.size 63 #[.slice A keep.length c, .int .i64 torn, .int .i64 P]) (fun v _ => R.wait.length - (intOf v).toNat)
      case atStart => exact ⟨0, Nat.zero_le _, rfl, HIN1.out, TKeep.of_below HW1.out HGC.out, HB1.out⟩
      case round =>
        obtain ⟨j, hj, rfl, hd, hk, hbc⟩ := hrel
        have HKJ := hide hk
        have HBC := hide hbc
        have c1 := hd.cells.2.1
        by_cases hlt : j < R.wait.length
        · obtain ⟨A', c', e', hrw⟩ := hd.wait.form
          obtain ⟨gw, gi, ci, cu, ea, q1, q2, q3, q4, q5⟩ := hrw j hlt
          obtain rfl : Aw = some ⟨gw, 0, none⟩ := by
            injection e' with h1
            rw [h1, ea]
          obtain ⟨ha, hs64⟩ := hd.ok.2.1 R.wait[j] (List.getElem_mem hlt)
          rw [show ({ R with safe := crashK part torn keep 0 R.safe (R.wait.take j) } : RS).safe.length = R.safe.length from crashK_len _ _ _ _ _ _] at ha
          obtain ⟨gs, rfl, hgs, hzz⟩ := hd.safe.own_at (by
            show 0 < (crashK _ _ _ _ _ _).length
            rw [crashK_len]
            omega)
          clear hzz
          have HINJ := hide hd
          have HTK := hide (show crashK part torn keep 0 R.safe (R.wait.take (j + 1)) = crashStep part torn keep j (crashK part torn keep 0 R.safe (R.wait.take j)) R.wait[j] by
            rw [List.take_succ_eq_append_getElem hlt, crashK_snoc, List.length_take, Nat.min_eq_left hj, Nat.zero_add])
          have HQ := hide (And.intro q3 (And.intro q4 q5))
          rw [Nat.mul_comm 2 j] at q1 q2
          have i1 : (0 : Int) ≤ (j : Int) := by omega
          have i2 : (j : Int) < (R.wait.length : Int) := by omega
          have k1 : wr.cell? ⟨gw, j * 2, none⟩ = some (.int .i64 (R.wait[j].1 : Int)) := q1
          have k2 : wr.cell? ⟨gw, j * 2 + 1, none⟩ = some (.slice (some ⟨gi, 0, none⟩) 64 ci) := q2
          have hg : R.wait[j].1 < R.safe.length := ha
          clear hd hk hrw e' ea q1 q2 q3 q4 q5 ha hbc
          generalize R.wait[j] = e at *
          have HKL := hide (show (crashK part torn keep 0 R.safe (R.wait.take j)).length = R.safe.length from crashK_len _ _ _ _ _ _)
          generalize crashK part torn keep 0 R.safe (R.wait.take j) = K at *
          have HB2 : Hid (Blk (wr.alloc (.cells #[.int .i64 (e.1 : Int), .slice (some ⟨gi, 0, none⟩) 64 ci] 98)) wr.heap.size 98 #[.int .i64 (e.1 : Int), .slice (some ⟨gi, 0, none⟩) 64 ci]) := Blk.new _ _ _
          have HW2 : Hid (Below wr.heap.size wr (wr.alloc (.cells #[.int .i64 (e.1 : Int), .slice (some ⟨gi, 0, none⟩) 64 ci] 98))) := (Below.refl _ _).alloc (Nat.le_refl _) _
          have hc1 : (wr.alloc (.cells #[.int .i64 (e.1 : Int), .slice (some ⟨gi, 0, none⟩) 64 ci] 98)).cell? ⟨W.heap.size, 1, none⟩ = some (.int .i64 torn) := (HBC.out.alloc _).cell 1
          have HBC2 := hide (HBC.out.below HW2.out HBC.out.lt)
          have HQ2 := hide (HQ.out.2.1.below HW2.out HQ.out.2.1.lt)
          have HIN2 := hide (HINJ.out.lift HW2.out)
          have HK2 : Hid (RKeep B W (wr.alloc (.cells #[.int .i64 (e.1 : Int), .slice (some ⟨gi, 0, none⟩) 64 ci] 98))) := HKJ.out.trans (TKeep.of_below HW2.out (Nat.le_trans HINJ.out.br (Nat.le_of_lt HINJ.out.dev.lt)))
          have HWS : Hid ((wr.alloc (.cells #[.int .i64 (e.1 : Int), .slice (some ⟨gi, 0, none⟩) 64 ci] 98)).heap.size = wr.heap.size + 1) := (show _ = _ by rw [World.size_alloc])
          obtain ⟨old, hold⟩ : ∃ old, K[e.1]? = some old := ⟨_, List.getElem?_eq_getElem (by rw [HKL.out]; exact hg)⟩
          have HOLD := hide hold
          have HGD := hide (show K.getD e.1 [] = old by rw [List.getD_eq_getElem?_getD, hold]; rfl)
          have HK64 := hide (show All64 K from HIN2.out.ok.1)
          clear hold HIN HIN1 HB1 HW1
          by_cases htn : (j : Int) = torn
          · have tb : ((j : Int) == torn) = true := by simpa using htn
            have HCS := hide (show crashStep part torn keep j K e = K.set e.1 (e.2.take part ++ old.drop part) by unfold crashStep; rw [if_pos htn, HGD.out])
            rw [HCS.out] at HTK
            clear htn
            go_upto_if 33 with (fail)
            generalize wr.alloc (.cells #[.int .i64 (e.1 : Int), .slice (some ⟨gi, 0, none⟩) 64 ci] 98) = W2 at *
            have w0 : W2.cell? ⟨wr.heap.size, 0, none⟩ = some (.int .i64 (e.1 : Int)) := HB2.out.cell 0
            have w1 : W2.cell? ⟨wr.heap.size, 1, none⟩ = some (.slice (some ⟨gi, 0, none⟩) 64 ci) := HB2.out.cell 1
            have w1a := cellO (o := .cells #[] 5) w1
            have hcf := fun X => cut_front8 (some ⟨gi, 0, none⟩) 64 ci part (by have := HQ.out.1; omega) X
            obtain ⟨i0, hi0, hz0, hz1, hz2⟩ := info_parts info_u8
            have HBT := hide (show BytesAt W2 W2.heap.size (some ⟨gi, 0, none⟩) (e.2.take part) from (bytes_blk (s := e.2) HQ2.out (by rw [hs64]; exact HQ.out.2.2)).take part)
            have HTL := hide (show (e.2.take part).length = part by rw [List.length_take]; omega)
            clear hc1 k1 k2 c1
            go_wp2_with (at_builtin; refine wpList_append_any _ rfl (.tmp 34) (.tmp 38) _ rfl W2.heap.size 5 i0 _ 1 1 Tryd.underlying23 hi0 hz0 hz1 hz2 rfl (by omega) (.slice (some ⟨W2.heap.size, 0, none⟩) 0 0) 0 [] rfl (World.ownsRow_made W2 #[] 0 (Nat.le_refl _) (by simp only [maxLen]; omega) rfl) W2.heap.size (some ⟨gi, 0, none⟩) part ci (byts (e.2.take part)) rfl (by have := HBT.out; unfold BytesAt at this; rw [HTL.out] at this; exact Reads.alloc this (Nat.le_refl _) _) byts_one (by simp only [maxLen]; omega) (by omega) (by simp) ?_; intro v3 W3 hown3 hg3 hat3)
            rw [Nat.zero_add, List.nil_append] at hown3
            have HB3 : Hid (Below W2.heap.size W2 W3) := ((Below.refl _ _).alloc (Nat.le_refl _) _).grown hg3 (by simp) (fun k hk => by simp [Value.ownBlock] at hk; omega)
            have HIN3 := hide (HIN2.out.lift HB3.out)
            have HK3 : Hid (RKeep B W W3) := HK2.out.trans (TKeep.of_below HB3.out (Nat.le_trans HIN2.out.br (Nat.le_of_lt HIN2.out.dev.lt)))
            have HBC3 := hide (HBC2.out.below HB3.out HBC2.out.lt)
            have HBW3 := hide (HB2.out.below HB3.out HB2.out.lt)
            have HOW3 := hide hown3
            obtain ⟨go, co, cuo, hgc, hco, hgo, hto⟩ : ∃ go co cuo, W2.cell? ⟨gs, e.1, none⟩ = some (.slice (some ⟨go, 0, none⟩) 64 co) ∧ 64 ≤ co ∧ Blk W2 go 5 cuo ∧ cuo.toList.take 64 = byts old := by
              obtain ⟨A2, c2, e2, hr2⟩ := HIN2.out.safe.form
              have hk0 : e.1 < K.length := by rw [HKL.out]; exact hg
              obtain ⟨gr, cur, e3, hb, hc⟩ := hr2 (show 0 < K.length by omega)
              obtain ⟨go, co, cuo, h1, h2, h3, h4⟩ := hc e.1 hk0
              have hold := HOLD.out
              rw [List.getElem?_eq_getElem hk0] at hold
              have hol : K[e.1] = old := Option.some.inj hold
              have h64 : old.length = 64 := by rw [← hol]; exact HK64.out _ (List.getElem_mem hk0)
              have hol' : ({ R with safe := K } : RS).safe[e.1] = old := hol
              rw [hol', h64] at h1 h2 h4
              injection e2 with h5
              rw [e3] at h5
              injection h5 with h5
              injection h5 with h5
              subst h5
              exact ⟨go, co, cuo, (hb.cell e.1).trans h1, h2, h3, h4⟩
            have HCS2 := hide (fun X (hX : Below W2.heap.size W2 X) => (show X.cell? ⟨r, 0, none⟩ = some (.slice (some ⟨gs, 0, none⟩) R.safe.length cs) ∧ X.cell? ⟨wr.heap.size, 0, none⟩ = some (.int .i64 (e.1 : Int)) ∧ X.cell? ⟨gs, e.1, none⟩ = some (.slice (some ⟨go, 0, none⟩) 64 co) from
              ⟨(HIN2.out.lift hX).cells.1, (HB2.out.below hX HB2.out.lt).cell 0, (hX.cell (p := ⟨gs, e.1, none⟩) (World.block_lt_of_cell? W2 _ hgc)).trans hgc⟩))
            have HS3Y := hide (HCS2.out W3.drew HB3.out.drew)
            have h64o : old.length = 64 := HK64.out old (List.mem_of_getElem? HOLD.out)
            have HBO := hide (BytesAt.cut (k := part) (c := co) (bytes_blk (s := old) (hgo.below HB3.out hgo.lt) (by rw [h64o]; exact hto)) (by omega) (by omega))
            have hcb := fun X => cut_back8 (some ⟨go, 0, none⟩) 64 co part (by omega) X
            generalize hA5 : (if co = part then some (⟨go, 0, none⟩ : Addr) else (some (⟨go, 0, none⟩ : Addr)).map (·.add part)) = A5 at *
            clear hA5 w0 w1 w1a hcf hgc hco hgo hto hown3 hg3 hat3
            have z1 : (0 : Int) ≤ (e.1 : Int) := by omega
            have z2 : (e.1 : Int) < (R.safe.length : Int) := by omega
            go_wp2_with fail
            refine region_U (fun x => x.cell? ⟨r, 0, none⟩ = some (.slice (some ⟨gs, 0, none⟩) R.safe.length cs) ∧ x.cell? ⟨wr.heap.size, 0, none⟩ = some (.int .i64 (e.1 : Int)) ∧ x.cell? ⟨gs, e.1, none⟩ = some (.slice (some ⟨go, 0, none⟩) 64 co)) 19 (by kernel_rfl) ?_
            intro Y hY
            subst hY
            have HSY := hide HS3Y.out
            refine takeU 0 (.pointer (some ⟨r, 0, none⟩)) rfl (by kernel_rfl) (fun _ _ _ h => h) (by rfl) (fun x hS => by
              obtain ⟨s1, s2, s3⟩ := hS
              go_simp) HSY.out ?_
            simp only [Act.put, List.getElem_toArray, List.getElem_cons_succ, List.getElem_cons_zero, List.setIfInBounds_toArray, List.set_cons_zero, List.set_cons_succ]
            refine takeU 1 (.pointer (some ⟨r, 0, none⟩)) rfl (by kernel_rfl) (fun _ _ _ h => h) (by rfl) (fun x hS => by
              obtain ⟨s1, s2, s3⟩ := hS
              go_simp) HSY.out ?_
            simp only [Act.put, List.getElem_toArray, List.getElem_cons_succ, List.getElem_cons_zero, List.setIfInBounds_toArray, List.set_cons_zero, List.set_cons_succ]
            refine takeU 2 (.pointer (some ⟨r, 0, none⟩)) rfl (by kernel_rfl) (fun _ _ _ h => h) (by rfl) (fun x hS => by
              obtain ⟨s1, s2, s3⟩ := hS
              go_simp) HSY.out ?_
            simp only [Act.put, List.getElem_toArray, List.getElem_cons_succ, List.getElem_cons_zero, List.setIfInBounds_toArray, List.set_cons_zero, List.set_cons_succ]
            refine takeU 3 (.slice (some ⟨gs, 0, none⟩) R.safe.length cs) rfl (by kernel_rfl) (fun _ _ _ h => h) (by rfl) (fun x hS => by
              obtain ⟨s1, s2, s3⟩ := hS
              go_simp) HSY.out ?_
            simp only [Act.put, List.getElem_toArray, List.getElem_cons_succ, List.getElem_cons_zero, List.setIfInBounds_toArray, List.set_cons_zero, List.set_cons_succ]
            refine takeU 4 (.pointer (some ⟨wr.heap.size, 0, none⟩)) rfl (by kernel_rfl) (fun _ _ _ h => h) (by rfl) (fun x hS => by
              obtain ⟨s1, s2, s3⟩ := hS
              go_simp) HSY.out ?_
            simp only [Act.put, List.getElem_toArray, List.getElem_cons_succ, List.getElem_cons_zero, List.setIfInBounds_toArray, List.set_cons_zero, List.set_cons_succ]
            refine takeU 5 (.int .i64 (e.1 : Int)) rfl (by kernel_rfl) (fun _ _ _ h => h) (by rfl) (fun x hS => by
              obtain ⟨s1, s2, s3⟩ := hS
              go_simp) HSY.out ?_
            simp only [Act.put, List.getElem_toArray, List.getElem_cons_succ, List.getElem_cons_zero, List.setIfInBounds_toArray, List.set_cons_zero, List.set_cons_succ]
            refine takeU 6 (v3) rfl (by kernel_rfl) (fun _ _ _ h => h) (by rfl) (fun x hS => by
              obtain ⟨s1, s2, s3⟩ := hS
              go_simp) HSY.out ?_
            simp only [Act.put, List.getElem_toArray, List.getElem_cons_succ, List.getElem_cons_zero, List.setIfInBounds_toArray, List.set_cons_zero, List.set_cons_succ]
            refine takeU 7 (.pointer (some ⟨r, 0, none⟩)) rfl (by kernel_rfl) (fun _ _ _ h => h) (by rfl) (fun x hS => by
              obtain ⟨s1, s2, s3⟩ := hS
              go_simp) HSY.out ?_
            simp only [Act.put, List.getElem_toArray, List.getElem_cons_succ, List.getElem_cons_zero, List.setIfInBounds_toArray, List.set_cons_zero, List.set_cons_succ]
            refine takeU 8 (.pointer (some ⟨r, 0, none⟩)) rfl (by kernel_rfl) (fun _ _ _ h => h) (by rfl) (fun x hS => by
              obtain ⟨s1, s2, s3⟩ := hS
              go_simp) HSY.out ?_
            simp only [Act.put, List.getElem_toArray, List.getElem_cons_succ, List.getElem_cons_zero, List.setIfInBounds_toArray, List.set_cons_zero, List.set_cons_succ]
            refine takeU 9 (.pointer (some ⟨r, 0, none⟩)) rfl (by kernel_rfl) (fun _ _ _ h => h) (by rfl) (fun x hS => by
              obtain ⟨s1, s2, s3⟩ := hS
              go_simp) HSY.out ?_
            simp only [Act.put, List.getElem_toArray, List.getElem_cons_succ, List.getElem_cons_zero, List.setIfInBounds_toArray, List.set_cons_zero, List.set_cons_succ]
            refine takeU 10 (.slice (some ⟨gs, 0, none⟩) R.safe.length cs) rfl (by kernel_rfl) (fun _ _ _ h => h) (by rfl) (fun x hS => by
              obtain ⟨s1, s2, s3⟩ := hS
              go_simp) HSY.out ?_
            simp only [Act.put, List.getElem_toArray, List.getElem_cons_succ, List.getElem_cons_zero, List.setIfInBounds_toArray, List.set_cons_zero, List.set_cons_succ]
            refine takeU 11 (.pointer (some ⟨wr.heap.size, 0, none⟩)) rfl (by kernel_rfl) (fun _ _ _ h => h) (by rfl) (fun x hS => by
              obtain ⟨s1, s2, s3⟩ := hS
              go_simp) HSY.out ?_
            simp only [Act.put, List.getElem_toArray, List.getElem_cons_succ, List.getElem_cons_zero, List.setIfInBounds_toArray, List.set_cons_zero, List.set_cons_succ]
            refine takeU 12 (.int .i64 (e.1 : Int)) rfl (by kernel_rfl) (fun _ _ _ h => h) (by rfl) (fun x hS => by
              obtain ⟨s1, s2, s3⟩ := hS
              go_simp) HSY.out ?_
            simp only [Act.put, List.getElem_toArray, List.getElem_cons_succ, List.getElem_cons_zero, List.setIfInBounds_toArray, List.set_cons_zero, List.set_cons_succ]
            refine takeU 13 (.pointer (some ⟨gs, e.1, none⟩)) rfl (by kernel_rfl) (fun _ _ _ h => h) (by rfl) (fun x hS => by
              obtain ⟨s1, s2, s3⟩ := hS
              go_simp) HSY.out ?_
            simp only [Act.put, List.getElem_toArray, List.getElem_cons_succ, List.getElem_cons_zero, List.setIfInBounds_toArray, List.set_cons_zero, List.set_cons_succ]
            refine takeU 14 (.slice (some ⟨go, 0, none⟩) 64 co) rfl (by kernel_rfl) (fun _ _ _ h => h) (by rfl) (fun x hS => by
              obtain ⟨s1, s2, s3⟩ := hS
              go_simp) HSY.out ?_
            simp only [Act.put, List.getElem_toArray, List.getElem_cons_succ, List.getElem_cons_zero, List.setIfInBounds_toArray, List.set_cons_zero, List.set_cons_succ]
            refine takeU 15 (.int .i64 (part : Int)) rfl (by kernel_rfl) (fun _ _ _ h => h) (by rfl) (fun x hS => by
              obtain ⟨s1, s2, s3⟩ := hS
              go_simp) HSY.out ?_
            simp only [Act.put, List.getElem_toArray, List.getElem_cons_succ, List.getElem_cons_zero, List.setIfInBounds_toArray, List.set_cons_zero, List.set_cons_succ]
            refine takeU 16 (.slice A5 (64 - part) (co - part)) rfl (by kernel_rfl) (fun _ _ _ h => h) (by rfl) (fun x hS => by
              obtain ⟨s1, s2, s3⟩ := hS
              go_simp) HSY.out ?_
            simp only [Act.put, List.getElem_toArray, List.getElem_cons_succ, List.getElem_cons_zero, List.setIfInBounds_toArray, List.set_cons_zero, List.set_cons_succ]
            have HDL : Hid ((old.drop part).length = 64 - part) := (show _ = _ by rw [List.length_drop, h64o])
            have HBO2 : Hid (Reads W3.drew W3.heap.size 1 A5 (64 - part) (byts (old.drop part))) := by
              have := HBO.out
              unfold BytesAt at this
              rw [HDL.out] at this
              exact this
            have HOW3D : Hid (W3.drew.ownsRow W2.heap.size 5 1 v3 part (byts (e.2.take part))) := HOW3.out
            refine oneU 17 rfl (by kernel_rfl) (by rfl) (wp_append_any _ (.tmp 46) (.tmp 56) 23 (by rfl) W2.heap.size 5 i0 _ 1 1 Tryd.underlying23 hi0 hz0 hz1 hz2 rfl (by omega) v3 part (byts (e.2.take part)) (by rfl) HOW3D.out W3.heap.size A5 (64 - part) (co - part) (byts (old.drop part)) (by rfl) HBO2.out byts_one (by simp only [maxLen]; omega) (by omega) HB3.out.size ?_)
            intro v4 W4 hown4 hg4 hat4
            have HB4 : Hid (Below W2.heap.size W2 W4) := (HB3.out.drew).grown hg4 HB3.out.size (fun k hk => (World.ownsRow.lt HOW3.out k hk).1)
            rw [show part + (64 - part) = 64 by omega, ← byts_append] at hown4
            have HS4 := hide (HCS2.out W4 HB4.out)
            have HIN4 := hide (HIN2.out.lift HB4.out)
            have HK4 : Hid (RKeep B W W4) := HK2.out.trans (TKeep.of_below HB4.out (Nat.le_trans HIN2.out.br (Nat.le_of_lt HIN2.out.dev.lt)))
            have HBC4 := hide (HBC2.out.below HB4.out HBC2.out.lt)
            obtain ⟨g4, c4, cu4, rfl, hc4, hb4, ht4⟩ : ∃ g c cu, v4 = .slice (some ⟨g, 0, none⟩) 64 c ∧ 64 ≤ c ∧ Blk W4 g 5 cu ∧ cu.toList.take 64 = byts (e.2.take part ++ old.drop part) := by
              rcases hown4.2 with ⟨_, h0⟩ | ⟨g, cap, cur, hv, _, hgb, hcc, _, _, hcut⟩
              · omega
              · exact ⟨g, cap, cur, hv, hcc, hgb, by rw [← hcut]⟩
            have hl4 : (e.2.take part ++ old.drop part).length = 64 := by rw [List.length_append, HTL.out, HDL.out]; omega
            have HST := hide (HIN4.out.setSafe (i := e.1) (s := e.2.take part ++ old.drop part) (show e.1 < K.length by rw [HKL.out]; exact hg) hl4 hc4 hb4 ht4 hgs HKL.out.symm)
            have HBC5 := hide (HST.out.2.2 _ _ _ HBC4.out rfl)
            have s3 := HS4.out.2.2
            have fz : W4.frozen? ⟨gs, e.1, none⟩ = false := by
              obtain ⟨xs, ho, _⟩ := HIN4.out.safe
              rcases ho.2 with ⟨e, _⟩ | ⟨g', cap, cur, hv, hb, hg, _⟩
              · cases e
              · injection hv with h1
                injection h1 with h1
                injection h1 with h1
                subst h1
                exact (show Blk W4 gs 23 cur from hg).frozen _
            refine ⟨fun _ => HS4.out, ?_⟩
            simp only [Act.put, List.getElem_toArray, List.getElem_cons_succ, List.getElem_cons_zero, List.setIfInBounds_toArray, List.set_cons_zero, List.set_cons_succ]
            refine takeU 18 (.pointer (some ⟨gs, e.1, none⟩)) rfl (by kernel_rfl) (fun _ _ _ h => h) (by rfl) (fun x hS => by go_simp) HS4.out ?_
            simp only [Act.put, List.getElem_toArray, List.getElem_cons_succ, List.getElem_cons_zero, List.setIfInBounds_toArray, List.set_cons_zero, List.set_cons_succ]
            clear hown4 hg4 hat4 hb4 ht4
            refine oneU 19 rfl (by kernel_rfl) (by rfl) ?_
            go_wp2_with fail
            refine doneU (by kernel_rfl) ?_ _
            have HST1 := hide HST.out.1
            have HST2 : Hid (RKeep B W _) := HK4.out.trans (RKeep.of23 HST.out.2)
            clear HST s3 fz
            go_wp2
            go_roundw
            case rel => exact ⟨j + 1, by omega, by go_num, by rw [HTK.out]; exact HST1.out, HST2.out, HBC5.out⟩
            case measure => simp [intOf]; omega
          · have tb : ((j : Int) == torn) = false := by simpa using htn
            have HTN := hide htn
            clear htn
            go_upto_if 33 with (fail)
            generalize wr.alloc (.cells #[.int .i64 (e.1 : Int), .slice (some ⟨gi, 0, none⟩) 64 ci] 98) = W2 at *
            have hbc0 : W2.cell? ⟨W.heap.size, 0, none⟩ = some (.slice A keep.length c) := HBC2.out.cell 0
            have HRD := hide (HKB.out W2 HK2.out)
            clear hc1 k1 k2 c1
            by_cases hjk : j < keep.length
            · obtain ⟨ad, u, rfl, hp, hu, q1⟩ := Reads.at_ HRD.out hjk
              rw [bools, List.getElem?_map, List.getElem?_eq_getElem hjk] at hu
              have hgd : keep.getD j false = keep[j] := by rw [List.getD_eq_getElem?_getD, List.getElem?_eq_getElem hjk]; rfl
              cases hu
              have i3 : (j : Int) < (keep.length : Int) := by omega
              have i4 : decide (j < keep.length) = true := decide_eq_true hjk
              generalize keep[j] = kb at *
              cases kb with
              | true =>
                have HCS := hide (show crashStep part torn keep j K e = K.set e.1 e.2 by unfold crashStep; rw [if_neg HTN.out, if_pos hgd])
                rw [HCS.out] at HTK
                clear hgd hp hjk
                go_wp2_with fail
                refine region_tail 9 (by kernel_rfl) (by kernel_rfl) ?_
                intro Y hY
                have HBY : Hid (Below W2.heap.size W2 Y) := by
                  rw [hY]
                  exact (Below.refl _ _).drew
                have HIN6 := hide (HIN2.out.lift HBY.out)
                have HK6 : Hid (RKeep B W Y) := HK2.out.trans (TKeep.of_below HBY.out (Nat.le_trans HIN2.out.br (Nat.le_of_lt HIN2.out.dev.lt)))
                have HQY := hide (HQ2.out.below HBY.out HQ2.out.lt)
                have HBC6 := hide (HBC2.out.below HBY.out HBC2.out.lt)
                have HBW6 := hide (HB2.out.below HBY.out HB2.out.lt)
                have d0 : Y.cell? ⟨r, 0, none⟩ = some (.slice (some ⟨gs, 0, none⟩) R.safe.length cs) := HIN6.out.cells.1
                have b1 : Y.cell? ⟨wr.heap.size, 0, none⟩ = some (.int .i64 (e.1 : Int)) := HBW6.out.cell 0
                have b2 : Y.cell? ⟨wr.heap.size, 1, none⟩ = some (.slice (some ⟨gi, 0, none⟩) 64 ci) := HBW6.out.cell 1
                have HST := hide (HIN6.out.setSafe (i := e.1) (s := e.2) (show e.1 < K.length by rw [HKL.out]; exact hg) hs64 HQ.out.1 HQY.out HQ.out.2.2 hgs HKL.out.symm)
                have HBC7 := hide (HST.out.2.2 _ _ _ HBC6.out rfl)
                have z1 : (0 : Int) ≤ (e.1 : Int) := by omega
                have z2 : (e.1 : Int) < (R.safe.length : Int) := by omega
                obtain ⟨ov, cz, fz⟩ := HIN6.out.safe.cell_at (i := e.1) (show e.1 < K.length by rw [HKL.out]; exact hg)
                clear hY
                simp only [List.take_succ_cons, List.take_zero, List.drop_succ_cons, List.drop_zero]
                still_step
                still_step
                still_step
                still_step
                still_step
                still_step
                still_step
                still_step
                still_step
                refine wpStill_nil ?_
                have HST2 := hide (HK6.out.trans (RKeep.of23 HST.out.2))
                have HST1 := hide HST.out.1
                clear HST HK6 HQY
                go_wp2_with fail
                go_roundw
                case rel => exact ⟨j + 1, by omega, by go_num, by rw [HTK.out]; exact HST1.out, HST2.out, HBC7.out⟩
                case measure => simp [intOf]; omega
              | false =>
                have HCS := hide (show crashStep part torn keep j K e = K by unfold crashStep; rw [if_neg HTN.out, if_neg (by rw [hgd]; decide)])
                rw [HCS.out] at HTK
                clear hgd hp hjk
                go_wp2_with fail
                go_roundw
                case rel => exact ⟨j + 1, by omega, by go_num, by rw [HTK.out]; exact HIN2.out, HK2.out, HBC2.out⟩
                case measure => simp [intOf]; omega
            · have i4 : decide (j < keep.length) = false := decide_eq_false hjk
              have HCS := hide (show crashStep part torn keep j K e = K by unfold crashStep; rw [if_neg HTN.out, if_neg (by rw [List.getD_eq_getElem?_getD, List.getElem?_eq_none (by omega)]; decide)])
              rw [HCS.out] at HTK
              clear hjk
              go_wp2_with fail
              go_roundw
              case rel => exact ⟨j + 1, by omega, by go_num, by rw [HTK.out]; exact HIN2.out, HK2.out, HBC2.out⟩
              case measure => simp [intOf]; omega
        · obtain rfl : j = R.wait.length := by omega
          rw [List.take_length] at hd
          have f1 := hd.dev.frozen 1
          have f2 := hd.dev.frozen 2
          have f3 := hd.dev.frozen 3
          have f4 := hd.dev.frozen 4
          have d2 := hd.cells.2.2.1
          have d3 := hd.cells.2.2.2.1
          have d4 := hd.cells.2.2.2.2
          have HRS := hide (hd.reset _ rfl)
          clear hd hk hbc
          go_wp2
          go_end0
          rw [HCR.out]
          exact ⟨rfl, ⟨_, _, _, HRS.out.1⟩, HKJ.out.trans (RKeep.of_dev95 HRS.out.2)⟩
end Go.Proofs.YtenhjnicadjbaaaDoor
