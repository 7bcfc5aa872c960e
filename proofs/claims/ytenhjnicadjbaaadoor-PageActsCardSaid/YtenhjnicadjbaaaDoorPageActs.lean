/-
  The walk of icehouselaw14.PageActs. Conditions: the arguments read as an integer and a slice of acts; the table half reads as the text lays it.
-/
import Derived.Test.YtenhjnicadjbaaaDoorActsRel
import Derived.Test.YtenhjnicadjbaaaDoorRefCrash
import Derived.Test.YtenhjnicadjbaaaDoorRefFlush
import Derived.Deep.Slices
namespace Go.Proofs.YtenhjnicadjbaaaDoor
open Go Go.RowKit

set_option maxRecDepth 100000 in
set_option maxHeartbeats 4000000 in
theorem pageActs_yes (x : Int) (vs : List AV) (A : Option Addr) (n c : Nat) (W : World) (hn : n = vs.length) (hlen : vs.length ≤ 40) (hA : ActsAt W W.heap.size A vs) (hh : HalfAt W) :
    Calls Tryd.prog 11 #[.int .i64 x, .slice A n c] W fun e w' => e = .returned (.bool true) ∧ Below W.heap.size W w' := by
  subst hn
  have HAW := hide (awake14 W hh)
  have HH := hide hh
  have HA := hide hA
  obtain ⟨k, hk40, ek⟩ := mod_pos x 40 (by omega) (by omega)
  change (wrap64 (x.tmod 40 + 40)).tmod 40 = (k : Int) at ek
  have t40 : decide ((40 : Int) < (vs.length : Int)) = false := decide_eq_false (by omega)
  have hW0 : Hid (0 < W.heap.size) := hh.1
  clear hA hh
  go_enter Tryd.func11, Tryd.ntmps11
  go_wp2_with fail
  refine (unhide HAW).mono ?_
  rintro e w1 ⟨rfl, hbe⟩
  have HB1 := hide hbe
  clear hbe HAW
  have HN := hide (new_any w1 (k + 1) (by omega) (by omega))
  rw [show ((k + 1 : Nat) : Int) = 1 + (k : Int) by omega] at HN
  go_wp2_with fail
  refine (unhide HN).mono ?_
  rintro e w2 ⟨g, rfl, hd, hb⟩
  have HD2 := hide hd
  have HB2 := hide hb
  have HWB : Hid (W.heap.size ≤ w1.heap.size) := HB1.out.size
  clear hd hb HN
  have HRN := hide (rnew_any w2 (k + 1) (by omega))
  rw [show ((k + 1 : Nat) : Int) = 1 + (k : Int) by omega] at HRN
  go_wp2_with fail
  refine (unhide HRN).mono ?_
  rintro e w3 ⟨rfl, hr, hb⟩
  have HB3 : Hid (Below w1.heap.size w1 w3) := HB2.out.trans (hb.mono HB2.out.size)
  have HI : Hid (ActRel w3 w1.heap.size g w2.heap.size 0) := ⟨_, _, HD2.out.lift hb, hr.low HB2.out.size rfl, sim_new _, Int.le_refl _, Int.le_refl _, Nat.zero_le _⟩
  have HWI : Hid (Below W.heap.size W w3) := HB1.out.trans (HB3.out.mono HWB.out)
  generalize hB : w1.heap.size = B at *
  clear hr hb HD2 HB2 HB1 HB3 hB HRN
  generalize w2.heap.size = r at *
  go_wp2_with fail
  go_loopw [9] (fun v wr => ∃ i : Nat, i ≤ vs.length ∧ v = .int .i64 i ∧ ActRel wr B g r i ∧ Below W.heap.size W wr) (fun v _ => vs.length - (intOf v).toNat)
  case atStart => exact ⟨0, Nat.zero_le _, rfl, HI.out, HWI.out⟩
  case round =>
    obtain ⟨i, hi, rfl, hrel, hbw⟩ := hrel
    have HR := hide hrel
    have HBW := hide hbw
    clear hrel hbw
    by_cases hlt : i < vs.length
    · have i1 : (0 : Int) ≤ (i : Int) := by omega
      have i2 : (i : Int) < (vs.length : Int) := by omega
      obtain ⟨ad, rfl, had, hcs⟩ := (HA.out.below HBW.out) (by omega)
      obtain ⟨hc9, hv⟩ := hcs i hlt
      have HV := hide hv
      have HLD := hide (load_act wr (ad.add (i * 9)) vs[i] fun k hk => by rw [Go.Deep.add_add]; exact hc9 k hk)
      clear hcs hc9 hv
      generalize vs[i] = v at *
      have HST := hide (fun (Z : Array Value) (hZ : Z.size = 9) => store_act wr v Z hZ)
      obtain ⟨S, R, hd, hr, hs, h0, hn, hq⟩ := HR.out
      have hXB : Below wr.heap.size wr (wr.alloc (.cells v.cells.toArray 65)) := (Below.refl _ _).alloc (Nat.le_refl _) _
      have HBg : Hid (B ≤ wr.heap.size) := by
        obtain ⟨gk, gn, bv, qv, h⟩ := hd
        exact Nat.le_trans h.bg (Nat.le_of_lt h.dev.lt)
      have HBX : Hid (Below W.heap.size W (wr.alloc (.cells v.cells.toArray 65))) := HBW.out.trans (hXB.mono HBW.out.size)
      have HD := hide (hd.lift hXB)
      have HRF := hide (hr.lift hXB)
      have HS := hide hs
      have HN := hide (And.intro h0 (And.intro hn hq))
      have HNS : Hid (S.n < 1048576 ∧ -1 ≤ S.left ∧ R.n < 1048576) := ⟨by rw [hs.n]; omega, by rw [hs.left]; decide, by omega⟩
      have HVX := hide (HV.out.below (hXB.mono (Nat.le_trans HWB.out HBg.out)))
      have HQ : Hid (ActBlk (wr.alloc (.cells v.cells.toArray 65)) wr.heap.size v) := Blk.new _ _ _
      have HBX2 : Hid (B ≤ (wr.alloc (.cells v.cells.toArray 65)).heap.size) := by
        have := HBg.out
        show B ≤ (wr.heap.push _).size
        simp
        omega
      clear hd hr hs h0 hn hq hXB
      have c0 : v.cells[0]? = some (.int .i64 v.dv) := rfl
      have c1 : v.cells[1]? = some (.int .i64 v.at_) := rfl
      have c2 : v.cells[2]? = some (.int .i64 v.kind) := rfl
      have c3 : v.cells[3]? = some (.slice v.Ab v.body.length v.cb) := rfl
      have c4 : v.cells[4]? = some (.int .u8 (v.x.toNat : Int)) := rfl
      have c5 : v.cells[5]? = some (.slice v.Ac v.calls.length v.cc) := rfl
      have c6 : v.cells[6]? = some (.slice v.Ak v.keep.length v.ck) := rfl
      have c7 : v.cells[7]? = some (.int .i64 v.torn) := rfl
      have c8 : v.cells[8]? = some (.int .i64 v.part) := rfl
      by_cases b1 : v.body.length ≤ 700
      · have t1 : decide ((700 : Int) < (v.body.length : Int)) = false := decide_eq_false (by omega)
        by_cases b2 : v.calls.length ≤ 20
        · have t2 : decide ((20 : Int) < (v.calls.length : Int)) = false := decide_eq_false (by omega)
          by_cases b3 : v.keep.length ≤ 300
          · have t3 : decide ((300 : Int) < (v.keep.length : Int)) = false := decide_eq_false (by omega)
            rcases (by omega : v.dv = 0 ∨ v.dv = 1 ∨ v.dv = 2 ∨ v.dv = 3 ∨ v.dv = 4 ∨ v.dv = 5 ∨ (v.dv < 0 ∨ 5 < v.dv)) with hdv | hdv | hdv | hdv | hdv | hdv | hdv
            · go_wp2_with (first | with_reducible refine wpList_load_run (X := .pointer (some (ad.add (i * 9)))) rfl 65 (.tmp 57) rfl rfl HLD.out ?_ | with_reducible refine wpList_store_run (X := .pointer (some ⟨wr.heap.size, 0, none⟩)) (Y := .agg v.cells.toArray) rfl 65 (.tmp 10) (.tmp 58) rfl rfl rfl (HST.out _ rfl) ?_)
              clear HST HLD HBg
              generalize wr.heap.size = q at *
              generalize wr.alloc (.cells v.cells.toArray 65) = X at *
              refine (refPack_post v.kind v.body v.Ab v.body.length v.cb X.heap.size X rfl (by omega) (Nat.le_refl _) (HVX.out.body.lift (Below.refl _ _) HBX.out.size)).mono ?_
              rintro e u1 ⟨A1, n1, c1, code, rfl, hbe, hp⟩
              have HD1 := hide (HD.out.lift hbe)
              have HR1 := hide (HRF.out.lift hbe)
              have HB1 := hide (HBX.out.trans (hbe.mono HBX.out.size))
              have HV1 := hide (HVX.out.below (hbe.mono HBX.out.size))
              have HQ1 : Hid (ActBlk u1 q v) := Blk.below HQ.out hbe (Blk.lt HQ.out)
              have HBU := hide (HD1.out.bound)
              clear hbe HD HRF
              rcases hp with ⟨hp, rfl, rfl, hc1, hb1⟩ | ⟨hp, rfl, rfl, rfl, hcode⟩
              · have hpp := hp
                unfold packs at hpp
                simp only [Bool.and_eq_true, decide_eq_true_eq] at hpp
                have HPL := hide (pageL_len v.kind.toNat hpp.2.2)
                have HPC : Hid (∀ S : DS, pwCode S v.at_ v.kind v.body = writeCode S v.at_ (secs (pageL v.kind.toNat v.body)) ∧ pwTo S v.at_ v.kind v.body = writeTo S v.at_ (secs (pageL v.kind.toNat v.body))) := fun S => by
                  unfold pwCode pwTo
                  rw [hp]
                  exact ⟨rfl, rfl⟩
                have HPB := hide hb1
                have HC1 := hide hc1
                clear hp hpp hb1 hc1
                generalize pageL v.kind.toNat v.body = pg at *
                have HSL := hide (show (secs pg).length = 8 by rw [secs_len, HPL.out])
                have HPH : Hid (PhB 5 u1 (Both B g r S (writeToR R v.at_ (secs pg)) u1) (fun _ => False) u1.drew) := ⟨fun _ => (Below.refl _ _).drew, False.elim⟩
                go_wp2_with fail
                refine wp_region_phase (TKeep kT B) (PhB 5 u1 (Both B g r S (writeToR R v.at_ (secs pg)) u1)) (listV [isV (.pointer (some ⟨r, 0, none⟩)), isV (.pointer (some ⟨q, 1, none⟩)), isV (.int .i64 v.at_), isV (.slice A1 pg.length c1), PgSecs pg, isV (.int .i64 (writeCodeR R v.at_ (secs pg))), isV (.int .i64 (writeCodeR R v.at_ (secs pg)))]) (by kernel_rfl) (by kernel_rfl) (pre_tkeep kT B) (listV_stableP ?_) HPH.out ?_ ?_
                · exact ⟨isV_stableP _ _, isV_stableP _ _, isV_stableP _ _, isV_stableP _ _, (PgSecs_stable _), isV_stableP _ _, isV_stableP _ _, trivial⟩
                refine ⟨fun vs wk L hbk hi hL hcl hd => ?_, fun vs wk L hbk hi hL hcl hd => ?_, fun vs wk L hbk hi hL hcl hd => ?_, fun vs wk L hbk hi hL hcl hd => ?_, fun vs wk L hbk hi hL hcl hd => ?_, fun vs wk L hbk hi hL hcl hd => ?_, fun vs wk L hbk hi hL hcl hd => ?_, trivial⟩
                -- 0: Op.move t8
                · clear hd
                  go_wp2
                  exact ⟨rfl, rfl, rfl, TKeep.refl _ _ _, hi.stay Both.lift (by decide) (Below.refl _ _)⟩
                -- 1: Op.fieldAddr 65 t10 1
                · simp only [Act.put, List.setIfInBounds_toArray, List.set_cons_zero, List.set_cons_succ]
                  clear hd
                  go_wp2
                  exact ⟨rfl, rfl, rfl, TKeep.refl _ _ _, hi.stay Both.lift (by decide) (Below.refl _ _)⟩
                -- 2: Op.load 3 t91
                · simp only [Act.put, List.setIfInBounds_toArray, List.set_cons_zero, List.set_cons_succ, Nat.reduceAdd]
                  have e1 : vs 1 = .pointer (some ⟨q, 1, none⟩) := (hd 1 (by kernel_rfl)).2
                  obtain ⟨-, r1, -, -, -, -, -, -, -⟩ := (ActBlk.tkeep (no := kT) (B := B) HQ1.out (undrewK hbk) rfl).all
                  clear hd
                  go_wp2
                  first | exact ⟨rfl, rfl, rfl, TKeep.refl _ _ _, hi.stay Both.lift (by decide) (Below.refl _ _)⟩ | exact ⟨rfl, rfl, e1, TKeep.refl _ _ _, hi.stay Both.lift (by decide) (Below.refl _ _)⟩
                -- 3: Op.move t11
                · simp only [Act.put, List.setIfInBounds_toArray, List.set_cons_zero, List.set_cons_succ, Nat.reduceAdd]
                  clear hd
                  go_wp2
                  exact ⟨rfl, rfl, rfl, TKeep.refl _ _ _, hi.stay Both.lift (by decide) (Below.refl _ _)⟩
                -- 4: Op.call { value (Operand.func 25), args := #[t93], argTypes := #[23] }
                · simp only [Act.put, List.setIfInBounds_toArray, List.set_cons_zero, List.set_cons_succ, Nat.reduceAdd]
                  have e3 : vs 3 = .slice A1 pg.length c1 := (hd 3 (by kernel_rfl)).2
                  clear hd
                  have hb5 := hi.1 fun h5 => hL (hcl 5 _ rfl h5 4 (by kernel_rfl))
                  go_wp2_with fail
                  refine (refSectors_blk pg A1 pg.length c1 wk rfl (by have := HPL.out; omega) HC1.out ((unhide HPB).lift hb5 hb5.size)).mono ?_
                  rintro e w' ⟨A', c', rfl, hr', hbe'⟩
                  have hk' : TKeep kT B wk w' := TKeep.of_below hbe' (Nat.le_trans HBU.out hb5.size)
                  have hi' := hi.stay (k := 4) Both.lift (by decide) hbe'
                  clear hi hbe' hb5
                  go_wp2
                  exact ⟨rfl, rfl, ⟨A', c', rfl, hr'⟩, hk', hi'⟩
                -- 5: Op.call { value (Operand.func 32), args := #[t90, t92, t94], argTypes 
                · simp only [Act.put, List.setIfInBounds_toArray, List.set_cons_zero, List.set_cons_succ, Nat.reduceAdd]
                  have e0 : vs 0 = .pointer (some ⟨r, 0, none⟩) := (hd 0 (by kernel_rfl)).2
                  have e2 : vs 2 = .int .i64 v.at_ := (hd 2 (by kernel_rfl)).2
                  obtain ⟨A4, c4, e4, hs4⟩ := (show (PgSecs pg) (vs 4) wk from (hd 4 (by kernel_rfl)).2)
                  clear hd
                  have hb5 := hi.1 hL
                  have hd5 := HD1.out.lift hb5
                  have hkk := undrewK hbk
                  go_wp2_with fail
                  refine (rwrite_keep wk B r R (HR1.out.lift hb5) HNS.out.2.2 v.at_ (secs pg) A4 (secs pg).length c4 rfl (by have := HN.out.2.2; have := HSL.out; omega) (secs_all64 pg) hs4).mono ?_
                  rintro e w' ⟨rfl, hr', hk'⟩
                  have hi' : PhB 5 u1 (Both B g r S (writeToR R v.at_ (secs pg)) u1) (fun j => j = 5 ∨ L j) w' := PhB.last ⟨hd5.ref (RKeep.ofW hk'), hr', TKeep.trans hkk (kT_w hk')⟩
                  have hk2 := kT_w hk'
                  clear hi hb5 hd5 hr' hk' hkk hs4
                  go_wp2
                  exact ⟨rfl, rfl, rfl, hk2, hi'⟩
                -- 6: Op.assign t95
                · simp only [Act.put, List.setIfInBounds_toArray, List.set_cons_zero, List.set_cons_succ, Nat.reduceAdd]
                  have e5 : vs 5 = .int .i64 (writeCodeR R v.at_ (secs pg)) := (hd 5 (by kernel_rfl)).2
                  clear hd
                  go_wp2
                  first | exact ⟨rfl, rfl, rfl, TKeep.refl _ _ _, hi.stay Both.lift (by decide) (Below.refl _ _)⟩ | exact ⟨rfl, rfl, e5, TKeep.refl _ _ _, hi.stay Both.lift (by decide) (Below.refl _ _)⟩
                intro vs wk L hbk hL hi hd
                simp only [putAll, Act.put, List.setIfInBounds_toArray, List.set_cons_zero, List.set_cons_succ, Nat.reduceAdd]
                have e6 : vs 6 = .int .i64 (writeCodeR R v.at_ (secs pg)) := hd 6 (by decide)
                clear hd
                simp only [e6]
                clear e6
                have HBO := hide (hi.2 (hL 5 (by decide)))
                clear hi hL hbk
                obtain ⟨-, z1, z2, z3, -, -, -, -, -⟩ := (ActBlk.tkeep HQ1.out HBO.out.2.2 rfl).all
                have HB5 := hide (HB1.out.trans (HBO.out.2.2.1.mono HWB.out))
                have HV5 := hide (HV1.out.below (HBO.out.2.2.1.mono HWB.out))
                have EQ := (sim_write HS.out v.at_ (secs pg)).1
                have HPW := hide (fun (Y : World) (hY : DevAt Y B g S) (hYh : HalfAt Y) (AY : Option Addr) (hA : RowsAt Y Y.heap.size AY [v.body]) => pwrite_one Y B g S hY hYh HNS.out.1 HNS.out.2.1 v.at_ v.kind v.body AY (by omega) (by rw [HS.out.q]; have := HN.out.2.2; omega) hA)
                rw [(HPC.out S).1, (HPC.out S).2, EQ] at HPW
                have HWT := hide (rfl : writeToR R v.at_ (secs pg) = writeToR R v.at_ (secs pg))
                clear EQ HPC HWT
                generalize writeCodeR R v.at_ (secs pg) = cd at *
                have hcd : (cd != cd) = false := by simp
                go_wp2_with fail
                have HAL := hide (Below.alloc (Below.refl wk.heap.size wk) (Nat.le_refl _) (.cells #[.slice v.Ab v.body.length v.cb] 23))
                have HAR := hide ((RowsAt.one (t := 23) (f := (0, 0)) rfl rfl (HV5.out.body.more HB5.out.size) HV5.out.bodyc).lift (Below.refl _ _) (show wk.heap.size + 1 ≤ (wk.alloc (.cells #[.slice v.Ab v.body.length v.cb] 23)).heap.size by simp))
                have HB6 := hide (HB5.out.trans (HAL.out.mono HB5.out.size))
                have HR6 := hide (HBO.out.2.1.lift HAL.out)
                refine (HPW.out _ (HBO.out.1.lift HAL.out) (HH.out.low hW0.out HB6.out) _ HAR.out).mono ?_
                rintro e u6 ⟨rfl, hd, hk⟩
                have HD7 := hide hd
                have HR7 := hide (HR6.out.dev hk)
                have HB7 := hide (HB6.out.trans (hk.1.mono HWB.out))
                clear hd hk HAR HAL HR6 HB6 HPW
                go_wp2
                go_roundw
                case rel => exact ⟨i + 1, by omega, by go_num, rel_write HS.out HN.out.1 HN.out.2.1 HN.out.2.2 v.at_ (secs pg) (by have := HSL.out; omega) HD7.out HR7.out, HB7.out⟩
                case measure => simp [intOf]; omega
              · obtain ⟨ec, hc0⟩ := packCode_bad hp hcode
                have hce : (code == 0) = false := by rw [beq_eq_false_iff_ne]; exact hc0
                have hcd : (code != code) = false := by simp
                have EC : pwCode S v.at_ v.kind v.body = code ∧ pwTo S v.at_ v.kind v.body = S := by
                  unfold pwCode pwTo
                  rw [hp]
                  exact ⟨ec, rfl⟩
                have HPW := hide (fun (Y : World) (hY : DevAt Y B g S) (hYh : HalfAt Y) (AY : Option Addr) (hA : RowsAt Y Y.heap.size AY [v.body]) => pwrite_one Y B g S hY hYh HNS.out.1 HNS.out.2.1 v.at_ v.kind v.body AY (by omega) (by rw [HS.out.q]; have := HN.out.2.2; omega) hA)
                rw [EC.1, EC.2] at HPW
                obtain ⟨-, z1, z2, z3, -, -, -, -, -⟩ := HQ1.out.all
                clear hcode hp ec hc0 EC
                go_wp2_with fail
                have HAL := hide (Below.alloc (Below.refl u1.heap.size u1) (Nat.le_refl _) (.cells #[.slice v.Ab v.body.length v.cb] 23))
                have HAR := hide ((RowsAt.one (t := 23) (f := (0, 0)) rfl rfl (HV1.out.body.more HB1.out.size) HV1.out.bodyc).lift (Below.refl _ _) (show u1.heap.size + 1 ≤ (u1.alloc (.cells #[.slice v.Ab v.body.length v.cb] 23)).heap.size by simp))
                have HB6 := hide (HB1.out.trans (HAL.out.mono HB1.out.size))
                have HR6 := hide (HR1.out.lift HAL.out)
                refine (HPW.out _ (HD1.out.lift HAL.out) (HH.out.low hW0.out HB6.out) _ HAR.out).mono ?_
                rintro e u6 ⟨rfl, hd, hk⟩
                have HD7 := hide hd
                have HR7 := hide (HR6.out.dev hk)
                have HB7 := hide (HB6.out.trans (hk.1.mono HWB.out))
                clear hd hk HAR HAL HR6 HB6 HPW
                go_wp2
                go_roundw
                case rel => exact ⟨i + 1, by omega, by go_num, rel_same HS.out HN.out.1 HN.out.2.1 HN.out.2.2 HD7.out HR7.out, HB7.out⟩
                case measure => simp [intOf]; omega
            · go_wp2_with (first | with_reducible refine wpList_load_run (X := .pointer (some (ad.add (i * 9)))) rfl 65 (.tmp 57) rfl rfl HLD.out ?_ | with_reducible refine wpList_store_run (X := .pointer (some ⟨wr.heap.size, 0, none⟩)) (Y := .agg v.cells.toArray) rfl 65 (.tmp 10) (.tmp 58) rfl rfl rfl (HST.out _ rfl) ?_)
              clear HST HLD HBg
              generalize wr.heap.size = q at *
              generalize wr.alloc (.cells v.cells.toArray 65) = X at *
              have HPR := hide (pread_any X B g S HD.out (HH.out.low hW0.out HBX.out) (Nat.lt_of_lt_of_le hW0.out HWB.out) HNS.out.1 HNS.out.2.1 HBX2.out v.at_)
              have H64 : Hid (All64 (nowR R)) := HS.out.now ▸ now_64 HD.out
              have HRR := hide (fun (Y : World) (hY : RefAt Y B r R) => rread_any Y B r R hY HNS.out.2.2 v.at_ 8 (by omega) H64.out)
              have HFL := hide (And.intro (readL_8 S v.at_) (flat_64 _ (readL_64 (now_64 HD.out) v.at_ 8)))
              have HAN := hide (pr_cases S v.at_)
              have HREL := hide (fun (Y : World) (hd : DevAt Y B g (readS S v.at_ 8)) (hr : RefAt Y B r (readRS R v.at_ 8)) => rel_read (i := i) HS.out HN.out.1 HN.out.2.1 HN.out.2.2 v.at_ 8 hd hr)
              obtain ⟨ec, el, -⟩ := sim_read HS.out v.at_ 8
              rw [← ec, ← el] at HRR
              have HX64 := hide (readL_64 (now_64 HD.out) v.at_ 8)
              clear ec el HD HN HNS HS H64
              generalize readCodeR R v.at_ 8 = cd' at *
              generalize readCode S v.at_ 8 = cd at *
              generalize readL S v.at_ 8 = rows at *
              generalize readS S v.at_ 8 = S' at *
              generalize readRS R v.at_ 8 = R' at *
              generalize prKind S v.at_ = pk at *
              generalize prBody S v.at_ = pb at *
              generalize prCode S v.at_ = pc at *
              refine (unhide HPR).mono ?_
              rintro e u1 ⟨A1, c1', rfl, hc1, ho1, hd, hk⟩
              have HD1 := hide hd
              have HR1 := hide (HRF.out.dev hk)
              have HB1 := hide (HBX.out.trans (hk.1.mono HWB.out))
              have HO1 := hide ho1
              obtain ⟨-, z1, -, -, -, -, -, -, -⟩ := (HQ.out.tkeep (aT_dev hk) rfl).all
              clear hd hk ho1 hc1 HPR HRF
              go_wp2_with fail
              refine (HRR.out u1 HR1.out).mono ?_
              rintro e u2 ⟨A2, c2', rfl, hrw, hr, hk⟩
              have HD2 := hide (HD1.out.ref hk)
              have HR2 := hide hr
              have HB2 := hide (HB1.out.trans (hk.1.mono HWB.out))
              have HO2 := hide (own_tkeep HO1.out hk rfl)
              have HRW := hide (BlkRows.rows hrw)
              clear hr hk hrw HD1 HR1 HB1 HO1 HRR z1
              obtain ⟨i0, hi0, hz0, hz1, hz2⟩ := info_parts info_u8
              go_wp2_with fail
              go_loopw [18, 19] (fun a j wl => ∃ m : Nat, m ≤ rows.length ∧ j = .int .i64 m ∧ (rows.take m).flatten.length ≤ m * 64 ∧ wl.ownsRow u2.heap.size 5 1 a (rows.take m).flatten.length (byts (rows.take m).flatten) ∧ Below u2.heap.size u2 wl) (fun _ j _ => rows.length - (intOf j).toNat)
              case atStart => exact ⟨0, Nat.zero_le _, rfl, by simp, ⟨by simp [byts], .inl ⟨rfl, rfl⟩⟩, Below.refl _ _⟩
              case round =>
                obtain ⟨m, hm, rfl, htk, hown, hbe⟩ := hrel
                by_cases hmlt : m < rows.length
                · obtain ⟨ad2, rfl, hb, hc⟩ := HRW.out (by omega)
                  obtain ⟨Ai, ci, hci, hlen', hbs⟩ := hc m hmlt
                  clear hc
                  have hlk := HX64.out rows[m] (List.getElem_mem hmlt)
                  have HF := Lib.hid (flat_take rows m hmlt)
                  have hci' := (hbe.cell (by rw [block_of_add]; exact hb)).trans hci
                  have HB := hide (hbs.lift hbe (Nat.le_refl _))
                  have HO := hide hown
                  have HLK := hide hlk
                  have HMR := hide (And.intro HFL.out.1 hmlt)
                  have hm8 : m < 8 := by have := HFL.out.1; omega
                  have m1 : (0 : Int) ≤ (m : Int) := by omega
                  have m2 : (m : Int) < (rows.length : Int) := by omega
                  clear hci hbs hown hlk
                  generalize rows[m] = l at *
                  generalize (List.take m rows).flatten = z at *
                  go_wp2_with (at_builtin; refine wpList_append_any _ rfl (.tmp 130) (.tmp 134) _ rfl u2.heap.size 5 i0 _ 1 1 Tryd.underlying23 hi0 hz0 hz1 hz2 rfl (by omega) u18 z.length (byts z) rfl (unhide HO) u2.heap.size Ai l.length ci (byts l) rfl (unhide HB) byts_one (by have := HLK.out; have := HMR.out; simp only [maxLen]; omega) (by have := HLK.out; have := HMR.out; omega) hbe.size ?_; intro v1 w1' hown1 hg1 hat1)
                  have HO1 : Hid (w1'.ownsRow u2.heap.size 5 1 v1 (z ++ l).length (byts (z ++ l))) := by rw [byts_append, List.length_append]; exact hown1
                  go_roundw
                  case rel => exact ⟨m + 1, by omega, by go_num, by rw [HF.out, List.length_append]; have := HLK.out; omega, by rw [HF.out]; exact HO1.out, hbe.grown hg1 hbe.size (fun g hg => (World.ownsRow.lt (unhide HO) g hg).1)⟩
                  case measure => simp [intOf]; omega
                · rw [List.take_of_length_le (by omega)] at hown
                  obtain ⟨A3, c3', rfl, hc3, hb3⟩ := own_slice hown
                  have m2 : decide ((m : Int) < (rows.length : Int)) = false := decide_eq_false (by omega)
                  have HD3 := hide (HD2.out.lift hbe)
                  have HR3 := hide (HR2.out.lift hbe)
                  have HB3 := hide (HB2.out.trans (hbe.mono HB2.out.size))
                  have HO3 := hide (own_keep HO2.out hbe)
                  have HC3 := hide hc3
                  have HBB := hide hb3
                  clear htk hown hbe hc3 hb3 HD2 HR2 HB2 HO2 HRW HX64
                  generalize rows.flatten = fl at *
                  go_wp2_with fail
                  refine (refUnpack_any fl A3 fl.length c3' _ rfl HC3.out HBB.out).mono ?_
                  rintro e u4 ⟨A4, n4, c4', k4, is4, rfl, hbe4, h4⟩
                  have HD4 := hide (HD3.out.lift hbe4)
                  have HR4 := hide (HR3.out.lift hbe4)
                  have HB4 := hide (HB3.out.trans (hbe4.mono HB3.out.size))
                  have s1 := conv_str pb.length c1' rfl (Reads.of_own (own_keep HO3.out hbe4))
                  have han := HAN.out
                  clear hbe4 HAN HO3 HD3 HR3 HB3 HC3 HBB
                  rcases han with ⟨rfl, hp, rfl, rfl, rfl⟩ | ⟨rfl, hp, rfl, rfl, rfl⟩ | ⟨hcd, hp, rfl, rfl, rfl⟩
                  · rcases h4 with ⟨_, rfl, rfl, rfl, _, hb4⟩ | ⟨hp', _⟩
                    · have s2 := conv_str _ c4' rfl hb4
                      have q1 : ((bodyK fl : Int) != (bodyK fl : Int)) = false := by simp
                      have q2 : ((strOf (bodyL fl)).toList != (strOf (bodyL fl)).toList) = false := by simp
                      have q3 : ((strOf (bodyL fl)).toList == (strOf (bodyL fl)).toList) = true := by simp
                      clear hb4 hp
                      generalize bodyL fl = bl at *
                      generalize bodyK fl = bk at *
                      go_wp2
                      go_roundw
                      case rel => exact ⟨i + 1, by omega, by go_num, HREL.out _ HD4.out HR4.out, HB4.out⟩
                      case measure => simp [intOf]; omega
                    · rw [hp] at hp'
                      cases hp'
                  · rcases h4 with ⟨hp', _⟩ | ⟨_, rfl, rfl, rfl, rfl, rfl⟩
                    · rw [hp] at hp'
                      cases hp'
                    · rw [List.length_nil] at s1
                      have s2 := conv_str 0 0 rfl (BytesAt.nil u4 u4.heap.size none)
                      have q2 : ((strOf []).toList != (strOf []).toList) = false := by simp
                      have q3 : ((strOf []).toList == (strOf []).toList) = true := by simp
                      clear hp
                      go_wp2
                      go_roundw
                      case rel => exact ⟨i + 1, by omega, by go_num, HREL.out _ HD4.out HR4.out, HB4.out⟩
                      case measure => simp [intOf]; omega
                  · rcases h4 with ⟨hp', _⟩ | ⟨_, rfl, rfl, rfl, rfl, rfl⟩
                    · rw [hp] at hp'
                      cases hp'
                    · rw [List.length_nil] at s1
                      have s2 := conv_str 0 0 rfl (BytesAt.nil u4 u4.heap.size none)
                      have q1 : (pc == 0) = false := by rw [beq_eq_false_iff_ne]; exact hcd
                      have q2 : ((strOf []).toList != (strOf []).toList) = false := by simp
                      have q3 : ((strOf []).toList == (strOf []).toList) = true := by simp
                      have q4 : (pc != pc) = false := by simp
                      clear hp hcd
                      go_wp2
                      go_roundw
                      case rel => exact ⟨i + 1, by omega, by go_num, HREL.out _ HD4.out HR4.out, HB4.out⟩
                      case measure => simp [intOf]; omega
            · go_upto_region 35 with (first | with_reducible refine wpList_load_run (X := .pointer (some (ad.add (i * 9)))) rfl 65 (.tmp 57) rfl rfl HLD.out ?_ | with_reducible refine wpList_store_run (X := .pointer (some ⟨wr.heap.size, 0, none⟩)) (Y := .agg v.cells.toArray) rfl 65 (.tmp 10) (.tmp 58) rfl rfl rfl (HST.out _ rfl) ?_)
              clear HST HLD HBg
              generalize wr.heap.size = q at *
              generalize wr.alloc (.cells v.cells.toArray 65) = X at *
              have hmk : ∀ W', (Instr.makeSlice 23 (.int .i64 64) (.int .i64 64)).run Tryd.prog W' = .ok (.slice (some ⟨W'.heap.size, 0, none⟩) 64 64) (W'.alloc (.cells (madeCells #[.int .u8 0] 64) 5)) := make8 64 (by omega)
              have HZ := hide (show madeCells #[.int .u8 0] 64 = (byts zero64).toArray from zeros_cells 64)
              have HBK0 : Hid (Blk (X.alloc (.cells (madeCells #[.int .u8 0] 64) 5)) X.heap.size 5 (byts zero64).toArray) := by
                rw [← HZ.out]
                exact Blk.new _ _ _
              have r2 := HBK0.out.frozen 5
              have r3 : (X.alloc (.cells (madeCells #[.int .u8 0] 64) 5)).cell? ⟨X.heap.size, 5, none⟩ = some (.int .u8 0) := (HBK0.out.cell 5).trans rfl
              obtain ⟨-, z1, -, -, z4, -, -, -, -⟩ := ActBlk.all (W := X.alloc (.cells (madeCells #[.int .u8 0] 64) 5)) (Blk.alloc HQ.out _)
              have HZB : Hid (Below X.heap.size X (X.alloc (.cells ((madeCells #[.int .u8 0] 64).setIfInBounds 5 (.int .u8 (v.x.toNat : Int))) 5))) := Below.alloc (Below.refl _ _) (Nat.le_refl _) _
              have HBK : Hid (Blk (X.alloc (.cells ((madeCells #[.int .u8 0] 64).setIfInBounds 5 (.int .u8 (v.x.toNat : Int))) 5)) X.heap.size 5 (byts (zero64.set 5 v.x)).toArray) := by
                have := Blk.new X 5 ((madeCells #[.int .u8 0] 64).setIfInBounds 5 (.int .u8 (v.x.toNat : Int)))
                have e : (madeCells #[.int .u8 0] 64).setIfInBounds 5 (.int .u8 (v.x.toNat : Int)) = (byts (zero64.set 5 v.x)).toArray := by rw [HZ.out, byts_sets]
                show Blk _ _ _ _
                rw [← e]
                exact this
              go_upto_region 37 with fail
              have HS64 := hide (show (zero64.set 5 v.x).length = 64 by rw [List.length_set]; rfl)
              clear r2 r3 z1 z4 hmk HZ HBK0
              generalize zero64.set 5 v.x = sec at *
              generalize hY : X.alloc (.cells ((madeCells #[.int .u8 0] 64).setIfInBounds 5 (.int .u8 (v.x.toNat : Int))) 5) = Y at *
              have HD1 := hide (HD.out.lift HZB.out)
              have HR1 := hide (HRF.out.lift HZB.out)
              have HB1 := hide (HBX.out.trans (HZB.out.mono HBX.out.size))
              have HQ1 : Hid (ActBlk Y q v) := Blk.below HQ.out HZB.out (Blk.lt HQ.out)
              have HBY := hide (Nat.le_trans HBX2.out HZB.out.size)
              clear hY HD HRF
              generalize X.heap.size = gs at *
              have HA64 : Hid (All64 [sec]) := fun s hs => by rw [List.mem_singleton.1 hs]; exact HS64.out
              have HPH : Hid (Ph 5 11 B g r S (writeTo S v.at_ [sec]) R (writeToR R v.at_ [sec]) (fun _ => False) Y.drew) := ⟨False.elim, fun _ => HD1.out.lift (Below.refl _ _).drew, False.elim, fun _ => HR1.out.lift (Below.refl _ _).drew⟩
              have HCC : Hid ((writeCode S v.at_ [sec] != writeCodeR R v.at_ [sec]) = false) := by
                show _ = _
                rw [(sim_write HS.out v.at_ [sec]).1]
                simp
              go_wp2_with fail
              refine wp_region_phase (TKeep kT B) (Ph 5 11 B g r S (writeTo S v.at_ [sec]) R (writeToR R v.at_ [sec])) (listV [isV (.pointer (some ⟨g, 0, none⟩)), isV (.pointer (some ⟨q, 1, none⟩)), isV (.int .i64 v.at_), isV (.slice (some ⟨gs, 0, none⟩) 64 64), OneB gs, isV (.int .i64 (writeCode S v.at_ [sec])), isV (.pointer (some ⟨r, 0, none⟩)), isV (.pointer (some ⟨q, 1, none⟩)), isV (.int .i64 v.at_), isV (.slice (some ⟨gs, 0, none⟩) 64 64), OneB gs, isV (.int .i64 (writeCodeR R v.at_ [sec])), isV (.bool false)]) (by kernel_rfl) (by kernel_rfl) (pre_tkeep kT B) (listV_stableP ?_) HPH.out ?_ ?_
              · exact ⟨isV_stableP _ _, isV_stableP _ _, isV_stableP _ _, isV_stableP _ _, (OneB_stable _), isV_stableP _ _, isV_stableP _ _, isV_stableP _ _, isV_stableP _ _, isV_stableP _ _, (OneB_stable _), isV_stableP _ _, isV_stableP _ _, trivial⟩
              refine ⟨fun vs wk L hbk hi hL hcl hd => ?_, fun vs wk L hbk hi hL hcl hd => ?_, fun vs wk L hbk hi hL hcl hd => ?_, fun vs wk L hbk hi hL hcl hd => ?_, fun vs wk L hbk hi hL hcl hd => ?_, fun vs wk L hbk hi hL hcl hd => ?_, fun vs wk L hbk hi hL hcl hd => ?_, fun vs wk L hbk hi hL hcl hd => ?_, fun vs wk L hbk hi hL hcl hd => ?_, fun vs wk L hbk hi hL hcl hd => ?_, fun vs wk L hbk hi hL hcl hd => ?_, fun vs wk L hbk hi hL hcl hd => ?_, fun vs wk L hbk hi hL hcl hd => ?_, trivial⟩
              -- 0: Op.move t6
              · clear hd
                go_wp2
                exact ⟨rfl, rfl, rfl, TKeep.refl _ _ _, hi.stay (by decide) (by decide) (Below.refl _ _)⟩
              -- 1: Op.fieldAddr 65 t10 1
              · simp only [Act.put, List.setIfInBounds_toArray, List.set_cons_zero, List.set_cons_succ]
                clear hd
                go_wp2
                exact ⟨rfl, rfl, rfl, TKeep.refl _ _ _, hi.stay (by decide) (by decide) (Below.refl _ _)⟩
              -- 2: Op.load 3 t171
              · simp only [Act.put, List.setIfInBounds_toArray, List.set_cons_zero, List.set_cons_succ, Nat.reduceAdd]
                have e1 : vs 1 = .pointer (some ⟨q, 1, none⟩) := (hd 1 (by kernel_rfl)).2
                obtain ⟨-, r1, -, -, -, -, -, -, -⟩ := (ActBlk.tkeep (no := kT) (B := B) HQ1.out (undrewK hbk) rfl).all
                clear hd
                go_wp2
                first | exact ⟨rfl, rfl, rfl, TKeep.refl _ _ _, hi.stay (by decide) (by decide) (Below.refl _ _)⟩ | exact ⟨rfl, rfl, e1, TKeep.refl _ _ _, hi.stay (by decide) (by decide) (Below.refl _ _)⟩
              -- 3: Op.move t23
              · simp only [Act.put, List.setIfInBounds_toArray, List.set_cons_zero, List.set_cons_succ, Nat.reduceAdd]
                clear hd
                go_wp2
                exact ⟨rfl, rfl, rfl, TKeep.refl _ _ _, hi.stay (by decide) (by decide) (Below.refl _ _)⟩
              -- 4: Op.buildSlice 22 1 #[(0, t173)]
              · simp only [Act.put, List.setIfInBounds_toArray, List.set_cons_zero, List.set_cons_succ, Nat.reduceAdd]
                have e3 : vs 3 = .slice (some ⟨gs, 0, none⟩) 64 64 := (hd 3 (by kernel_rfl)).2
                clear hd
                have hal := Below.alloc (Below.refl wk.heap.size wk) (Nat.le_refl _) (.cells #[.slice (some ⟨gs, 0, none⟩) 64 64] 23)
                have hi4 := hi.stay (k := 4) (by decide) (by decide) hal
                have hkb := TKeep.of_below (no := kT) hal (Nat.le_trans HBY.out hbk.1.size)
                clear hi hal
                go_wp2
                exact ⟨rfl, rfl, ⟨wk.heap.size, rfl, Blk.new _ _ _⟩, hkb, hi4⟩
              -- 5: Op.call { value (Operand.func 36), args := #[t170, t172, t174], argTyp
              · simp only [Act.put, List.setIfInBounds_toArray, List.set_cons_zero, List.set_cons_succ, Nat.reduceAdd]
                have e0 : vs 0 = .pointer (some ⟨g, 0, none⟩) := (hd 0 (by kernel_rfl)).2
                have e2 : vs 2 = .int .i64 v.at_ := (hd 2 (by kernel_rfl)).2
                obtain ⟨g4, e4, ho4⟩ := (show (OneB gs) (vs 4) wk from (hd 4 (by kernel_rfl)).2)
                clear hd
                have hd5 := hi.2.1 hL
                have hrb := rows_oneB ho4 ((undrewK hbk).2 _ _ _ HBK.out rfl) HS64.out
                go_wp2_with fail
                refine (write_any wk B g S hd5 HNS.out.1 HNS.out.2.1 v.at_ [sec] _ 1 1 rfl (by rw [HS.out.q, List.length_singleton]; have := HN.out.2.2; omega) HA64.out hrb).mono ?_
                rintro e w' ⟨rfl, hd', hk'⟩
                have hi' := hi.dev (by decide) hd' hk'
                have hk2 := kT_dev hk'
                clear hi hd5 hd' hk' hrb ho4
                go_wp2
                exact ⟨rfl, rfl, rfl, hk2, hi'⟩
              -- 6: Op.move t8
              · simp only [Act.put, List.setIfInBounds_toArray, List.set_cons_zero, List.set_cons_succ, Nat.reduceAdd]
                clear hd
                go_wp2
                exact ⟨rfl, rfl, rfl, TKeep.refl _ _ _, hi.stay (by decide) (by decide) (Below.refl _ _)⟩
              -- 7: Op.fieldAddr 65 t10 1
              · simp only [Act.put, List.setIfInBounds_toArray, List.set_cons_zero, List.set_cons_succ, Nat.reduceAdd]
                clear hd
                go_wp2
                exact ⟨rfl, rfl, rfl, TKeep.refl _ _ _, hi.stay (by decide) (by decide) (Below.refl _ _)⟩
              -- 8: Op.load 3 t177
              · simp only [Act.put, List.setIfInBounds_toArray, List.set_cons_zero, List.set_cons_succ, Nat.reduceAdd]
                have e7 : vs 7 = .pointer (some ⟨q, 1, none⟩) := (hd 7 (by kernel_rfl)).2
                obtain ⟨-, r1, -, -, -, -, -, -, -⟩ := (ActBlk.tkeep (no := kT) (B := B) HQ1.out (undrewK hbk) rfl).all
                clear hd
                go_wp2
                first | exact ⟨rfl, rfl, rfl, TKeep.refl _ _ _, hi.stay (by decide) (by decide) (Below.refl _ _)⟩ | exact ⟨rfl, rfl, e7, TKeep.refl _ _ _, hi.stay (by decide) (by decide) (Below.refl _ _)⟩
              -- 9: Op.move t23
              · simp only [Act.put, List.setIfInBounds_toArray, List.set_cons_zero, List.set_cons_succ, Nat.reduceAdd]
                clear hd
                go_wp2
                exact ⟨rfl, rfl, rfl, TKeep.refl _ _ _, hi.stay (by decide) (by decide) (Below.refl _ _)⟩
              -- 10: Op.buildSlice 22 1 #[(0, t179)]
              · simp only [Act.put, List.setIfInBounds_toArray, List.set_cons_zero, List.set_cons_succ, Nat.reduceAdd]
                have e9 : vs 9 = .slice (some ⟨gs, 0, none⟩) 64 64 := (hd 9 (by kernel_rfl)).2
                clear hd
                have hal := Below.alloc (Below.refl wk.heap.size wk) (Nat.le_refl _) (.cells #[.slice (some ⟨gs, 0, none⟩) 64 64] 23)
                have hi10 := hi.stay (k := 10) (by decide) (by decide) hal
                have hkb := TKeep.of_below (no := kT) hal (Nat.le_trans HBY.out hbk.1.size)
                clear hi hal
                go_wp2
                exact ⟨rfl, rfl, ⟨wk.heap.size, rfl, Blk.new _ _ _⟩, hkb, hi10⟩
              -- 11: Op.call { value (Operand.func 32), args := #[t176, t178, t180], argTyp
              · simp only [Act.put, List.setIfInBounds_toArray, List.set_cons_zero, List.set_cons_succ, Nat.reduceAdd]
                have e6 : vs 6 = .pointer (some ⟨r, 0, none⟩) := (hd 6 (by kernel_rfl)).2
                have e8 : vs 8 = .int .i64 v.at_ := (hd 8 (by kernel_rfl)).2
                obtain ⟨g10, e10, ho10⟩ := (show (OneB gs) (vs 10) wk from (hd 10 (by kernel_rfl)).2)
                clear hd
                have hd5 := hi.2.2.2 hL
                have hrb := rows_oneB ho10 ((undrewK hbk).2 _ _ _ HBK.out rfl) HS64.out
                go_wp2_with fail
                refine (rwrite_keep wk B r R hd5 HNS.out.2.2 v.at_ [sec] _ 1 1 rfl (by rw [List.length_singleton]; have := HN.out.2.2; omega) HA64.out hrb).mono ?_
                rintro e w' ⟨rfl, hd', hk'⟩
                have hi' := hi.ref (by decide) hd' (RKeep.ofW hk')
                have hk2 := kT_w hk'
                clear hi hd5 hd' hk' hrb ho10
                go_wp2
                exact ⟨rfl, rfl, rfl, hk2, hi'⟩
              -- 12: Op.binOp BinOp.neq 3 t175 t181 3
              · simp only [Act.put, List.setIfInBounds_toArray, List.set_cons_zero, List.set_cons_succ, Nat.reduceAdd]
                have e5 : vs 5 = .int .i64 (writeCode S v.at_ [sec]) := (hd 5 (by kernel_rfl)).2
                have e11 : vs 11 = .int .i64 (writeCodeR R v.at_ [sec]) := (hd 11 (by kernel_rfl)).2
                have hcc := HCC.out
                clear hd
                go_wp2
                first | exact ⟨rfl, rfl, rfl, TKeep.refl _ _ _, hi.stay (by decide) (by decide) (Below.refl _ _)⟩ | exact ⟨rfl, rfl, e11, TKeep.refl _ _ _, hi.stay (by decide) (by decide) (Below.refl _ _)⟩ | exact ⟨rfl, rfl, e5, TKeep.refl _ _ _, hi.stay (by decide) (by decide) (Below.refl _ _)⟩
              intro vs wk L hbk hL hi hd
              simp only [putAll, Act.put, List.setIfInBounds_toArray, List.set_cons_zero, List.set_cons_succ, Nat.reduceAdd]
              have e12 : vs 12 = .bool false := hd 12 (by decide)
              clear hd
              simp only [e12]
              clear e12
              have HD7 := hide (hi.1 (hL 5 (by decide)))
              have HR7 := hide (hi.2.2.1 (hL 11 (by decide)))
              have HB7 := hide (HB1.out.trans ((undrewK hbk).1.mono HWB.out))
              clear hi hL hbk
              go_wp2
              go_roundw
              case rel => exact ⟨i + 1, by omega, by go_num, rel_write HS.out HN.out.1 HN.out.2.1 HN.out.2.2 v.at_ [sec] (by rw [List.length_singleton]; omega) HD7.out HR7.out, HB7.out⟩
              case measure => simp [intOf]; omega
            · go_wp2_with (first | with_reducible refine wpList_load_run (X := .pointer (some (ad.add (i * 9)))) rfl 65 (.tmp 57) rfl rfl HLD.out ?_ | with_reducible refine wpList_store_run (X := .pointer (some ⟨wr.heap.size, 0, none⟩)) (Y := .agg v.cells.toArray) rfl 65 (.tmp 10) (.tmp 58) rfl rfl rfl (HST.out _ rfl) ?_)
              clear HST HLD HBg
              generalize wr.heap.size = q at *
              generalize wr.alloc (.cells v.cells.toArray 65) = X at *
              refine (flush_any X B g S HD.out HNS.out.1 HNS.out.2.1).mono ?_
              rintro e u1 ⟨rfl, hd, hk⟩
              have HD1 := hide hd
              have HR1 := hide (HRF.out.dev hk)
              have HB1 := hide (HBX.out.trans (hk.1.mono HWB.out))
              clear hd hk HD HRF
              go_wp2_with fail
              refine (rflush_any u1 B r R HR1.out HNS.out.2.2).mono ?_
              rintro e u2 ⟨rfl, hr, hk⟩
              have HD2 := hide (HD1.out.ref hk)
              have HR2 := hide hr
              have HB2 := hide (HB1.out.trans (hk.1.mono HWB.out))
              clear hr hk HD1 HR1 HB1
              go_wp2
              go_roundw
              case rel => exact ⟨i + 1, by omega, by go_num, rel_flush HS.out HN.out.1 HN.out.2.1 HN.out.2.2 HD2.out HR2.out, HB2.out⟩
              case measure => simp [intOf]; omega
            · go_wp2_with (first | with_reducible refine wpList_load_run (X := .pointer (some (ad.add (i * 9)))) rfl 65 (.tmp 57) rfl rfl HLD.out ?_ | with_reducible refine wpList_store_run (X := .pointer (some ⟨wr.heap.size, 0, none⟩)) (Y := .agg v.cells.toArray) rfl 65 (.tmp 10) (.tmp 58) rfl rfl rfl (HST.out _ rfl) ?_)
              clear HST HLD HBg
              generalize wr.heap.size = q at *
              generalize wr.alloc (.cells v.cells.toArray 65) = X at *
              refine (fail_any X B g S HD.out v.calls v.Ac v.calls.length v.cc rfl (by omega) (HVX.out.calls.more HBX.out.size)).mono ?_
              rintro e u1 ⟨rfl, hd, hk⟩
              have HD1 := hide hd
              have HR1 := hide (HRF.out.dev hk)
              have HB1 := hide (HBX.out.trans (hk.1.mono HWB.out))
              have HV1 := hide (HVX.out.below (hk.1.mono HWB.out))
              obtain ⟨-, -, -, -, -, z5, -, -, -⟩ := (HQ.out.tkeep (aT_dev hk) rfl).all
              clear hd hk HD HRF
              go_wp2_with fail
              refine (rfail_any u1 B r R HR1.out v.calls v.Ac v.calls.length v.cc rfl (by omega) (HV1.out.calls.more HWB.out)).mono ?_
              rintro e u2 ⟨rfl, hr, hk⟩
              have HD2 := hide (HD1.out.ref hk)
              have HR2 := hide hr
              have HB2 := hide (HB1.out.trans (hk.1.mono HWB.out))
              clear hr hk HD1 HR1 HB1
              go_wp2
              go_roundw
              case rel => exact ⟨i + 1, by omega, by go_num, rel_fail HS.out HN.out.2.2 v.calls HD2.out HR2.out, HB2.out⟩
              case measure => simp [intOf]; omega
            · go_wp2_with (first | with_reducible refine wpList_load_run (X := .pointer (some (ad.add (i * 9)))) rfl 65 (.tmp 57) rfl rfl HLD.out ?_ | with_reducible refine wpList_store_run (X := .pointer (some ⟨wr.heap.size, 0, none⟩)) (Y := .agg v.cells.toArray) rfl 65 (.tmp 10) (.tmp 58) rfl rfl rfl (HST.out _ rfl) ?_)
              clear HST HLD HBg
              generalize wr.heap.size = q at *
              generalize wr.alloc (.cells v.cells.toArray 65) = X at *
              refine (crash_any X B g S HD.out v.keep v.torn v.part v.Ak v.keep.length v.ck rfl (by omega) (fun W' hk => (HVX.out.keep.below (hk.1.mono HWB.out)).more (HBX.out.trans (hk.1.mono HWB.out)).size)).mono ?_
              rintro e u1 ⟨rfl, hd, hk⟩
              have HD1 := hide hd
              have HR1 := hide (HRF.out.dev hk)
              have HB1 := hide (HBX.out.trans (hk.1.mono HWB.out))
              have HV1 := hide (HVX.out.below (hk.1.mono HWB.out))
              obtain ⟨-, -, -, -, -, -, z6, z7, z8⟩ := (HQ.out.tkeep (aT_dev hk) rfl).all
              clear hd hk HD HRF
              go_wp2_with fail
              refine (rcrash_any u1 B r R HR1.out v.keep v.torn v.part v.Ak v.keep.length v.ck rfl (by omega) (fun W' hk => (HV1.out.keep.below (hk.1.mono HWB.out)).more (HB1.out.trans (hk.1.mono HWB.out)).size)).mono ?_
              rintro e u2 ⟨rfl, hr, hk⟩
              have HD2 := hide (HD1.out.ref hk)
              have HR2 := hide hr
              have HB2 := hide (HB1.out.trans (hk.1.mono HWB.out))
              clear hr hk HD1 HR1 HB1
              go_wp2
              go_roundw
              case rel => exact ⟨i + 1, by omega, by go_num, rel_crash HS.out v.keep v.torn v.part HD2.out HR2.out, HB2.out⟩
              case measure => simp [intOf]; omega
            · have n0 : (v.dv == 0) = false := by rw [beq_eq_false_iff_ne]; omega
              have n1 : (v.dv == 1) = false := by rw [beq_eq_false_iff_ne]; omega
              have n2 : (v.dv == 2) = false := by rw [beq_eq_false_iff_ne]; omega
              have n3 : (v.dv == 3) = false := by rw [beq_eq_false_iff_ne]; omega
              have n4 : (v.dv == 4) = false := by rw [beq_eq_false_iff_ne]; omega
              have n5 : (v.dv == 5) = false := by rw [beq_eq_false_iff_ne]; omega
              go_wp2_with (first | with_reducible refine wpList_load_run (X := .pointer (some (ad.add (i * 9)))) rfl 65 (.tmp 57) rfl rfl HLD.out ?_ | with_reducible refine wpList_store_run (X := .pointer (some ⟨wr.heap.size, 0, none⟩)) (Y := .agg v.cells.toArray) rfl 65 (.tmp 10) (.tmp 58) rfl rfl rfl (HST.out _ rfl) ?_)
              go_roundw
              case rel => exact ⟨i + 1, by omega, by go_num, rel_same HS.out HN.out.1 HN.out.2.1 HN.out.2.2 HD.out HRF.out, HBX.out⟩
              case measure => simp [intOf]; omega
          · have t3 : decide ((300 : Int) < (v.keep.length : Int)) = true := decide_eq_true (by omega)
            go_wp2_with (first | with_reducible refine wpList_load_run (X := .pointer (some (ad.add (i * 9)))) rfl 65 (.tmp 57) rfl rfl HLD.out ?_ | with_reducible refine wpList_store_run (X := .pointer (some ⟨wr.heap.size, 0, none⟩)) (Y := .agg v.cells.toArray) rfl 65 (.tmp 10) (.tmp 58) rfl rfl rfl (HST.out _ rfl) ?_)
            go_wp2
            go_ret
            exact ⟨rfl, HBX.out⟩
        · have t2 : decide ((20 : Int) < (v.calls.length : Int)) = true := decide_eq_true (by omega)
          go_wp2_with (first | with_reducible refine wpList_load_run (X := .pointer (some (ad.add (i * 9)))) rfl 65 (.tmp 57) rfl rfl HLD.out ?_ | with_reducible refine wpList_store_run (X := .pointer (some ⟨wr.heap.size, 0, none⟩)) (Y := .agg v.cells.toArray) rfl 65 (.tmp 10) (.tmp 58) rfl rfl rfl (HST.out _ rfl) ?_)
          go_wp2
          go_ret
          exact ⟨rfl, HBX.out⟩
      · have t1 : decide ((700 : Int) < (v.body.length : Int)) = true := decide_eq_true (by omega)
        go_wp2_with (first | with_reducible refine wpList_load_run (X := .pointer (some (ad.add (i * 9)))) rfl 65 (.tmp 57) rfl rfl HLD.out ?_ | with_reducible refine wpList_store_run (X := .pointer (some ⟨wr.heap.size, 0, none⟩)) (Y := .agg v.cells.toArray) rfl 65 (.tmp 10) (.tmp 58) rfl rfl rfl (HST.out _ rfl) ?_)
        go_wp2
        go_ret
        exact ⟨rfl, HBX.out⟩
    · have t1 : decide ((i : Int) < (vs.length : Int)) = false := decide_eq_false (by omega)
      go_wp2_with fail
      refine (pread_none wr 0).mono ?_
      rintro e u1 ⟨rfl, rfl⟩
      go_wp2_with fail
      refine (pwrite_none u1 0 1 none 0 0).mono ?_
      rintro e u2 ⟨rfl, rfl⟩
      go_wp2
      go_ret
      exact ⟨rfl, HBW.out⟩
end Go.Proofs.YtenhjnicadjbaaaDoor
