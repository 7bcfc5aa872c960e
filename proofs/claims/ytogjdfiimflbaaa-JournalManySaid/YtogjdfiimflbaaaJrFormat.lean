/-
  The walk of journal's Format. Conditions: a device that no call fails, and room.
-/
import Derived.Test.YtogjdfiimflbaaaJrFmt
namespace Go.Proofs.Ytogjdfiimflbaaa
open Go Go.RowKit

def PlaceZ : Array Value := #[.pointer none, .int .i64 0, .int .i64 0]
theorem place_zero : (Try.prog.info? 56).map (fun i => (i.zero, i.size)) = some (some (.agg PlaceZ), 3) := by kernel_rfl
set_option maxRecDepth 100000 in
theorem zero_place (W : World) : (zeroValue 56).run Try.prog W = .ok (.agg #[.pointer none, .int .i64 0, .int .i64 0]) W := by
  obtain ⟨i, hi, he⟩ := Option.map_eq_some_iff.1 place_zero
  injection he with h1 h2
  simp [zeroValue, typeInfo, hi, h1, PlaceZ]
theorem SecVs.far {W : World} {D : Nat → Prop} {vs : List Value} {ls : List (List UInt8)} {g i : Nat} {t : TypeId} {cs : Array Value} (h : SecVs W D vs ls) (hb : Blk W g t cs) (ht : t ≠ 5) (x : Value) : SecVs (W.setCell ⟨g, i, none⟩ x) D vs ls := ⟨h.1, fun i u b h1 h2 => (h.2 i u b h1 h2).far hb ht x⟩
theorem own_far {W : World} {base s n : Nat} {e t : TypeId} {v : Value} {xs : List Value} {g i : Nat} {cs : Array Value} (h : W.ownsRow base e s v n xs) (hb : Blk W g t cs) (ht : e ≠ t) (x : Value) : (W.setCell ⟨g, i, none⟩ x).ownsRow base e s v n xs :=
  h.kept (only_setCell (World.grownBy.refl W (some g)) (.inl rfl) x) (.inr (own_blk_ne h hb ht))
def fmtN (n : Nat) (N : List (List UInt8)) : List (List UInt8) := wsec (wsec N 0 (List.replicate n zero64)) 1 [markL 1 1 2]
def FmtRel (W : World) (g n k : Nat) (wr : World) : Prop := ∃ vl vs, Blk wr W.heap.size 56 (placeC g n) ∧ Blk wr (W.heap.size + 1) 43 #[vl] ∧ wr.ownsRow W.heap.size 22 1 vl k vs ∧ SecVs wr (fun _ => True) vs (List.replicate k zero64) ∧ Below W.heap.size W wr

theorem Fn0.weak {v : Value} {w : World} {Q Q' : Ending → World → Prop} (h : Fn0 v w Q) (hq : ∀ e w', Q e w' → Q' e w') : Fn0 v w Q' := by
  obtain ⟨f, b, c, e, hr, hc⟩ := h
  exact ⟨f, b, c, e, hr, hc.mono hq⟩
theorem run_flush (a : Array Value) (w : World) : (callFunc 21 a).run Try.prog w = .ok (.enter 21 a) w := by go_simp
theorem run_fmt1 (a : Array Value) (w : World) : (callFunc 16 a).run Try.prog w = .ok (.enter 16 a) w := by go_simp
theorem run_fmt2 (a : Array Value) (w : World) : (callFunc 18 a).run Try.prog w = .ok (.enter 18 a) w := by go_simp
theorem DevC.fn_flush {W : World} {B g c m : Nat} {N : List (List UInt8)} (h : DevC W B g c N m) (hc : c < 1048576) : Fn0 (.func (.func 21) #[.pointer (some ⟨g, 0, none⟩)] #[]) W fun e W' => e = .returned (.int .i64 0) ∧ DevC W' B g (c + 1) N 0 ∧ DKeep B W W' :=
  ⟨_, _, _, rfl, run_flush _ _, h.flush hc⟩
/-- ahead of the steps of Format -/
def FmtI (w5 : World) (B g c n : Nat) (N : List (List UInt8)) : Nat → World → Prop
  | 0, w => DKeep B w5 w ∧ DevC w B g c N 0
  | 1, w => DKeep B w5 w ∧ DevC w B g (c + 1) (wsec N 0 (List.replicate n zero64)) n
  | 2, w => DKeep B w5 w ∧ DevC w B g (c + 2) (wsec N 0 (List.replicate n zero64)) 0
  | 3, w => DKeep B w5 w ∧ DevC w B g (c + 3) (fmtN n N) 1
  | _, w => DKeep B w5 w ∧ DevC w B g (c + 4) (fmtN n N) 0
theorem FmtI.keep {w5 : World} {B g c n : Nat} {N : List (List UInt8)} : ∀ {k : Nat} {w : World}, FmtI w5 B g c n N k w → DKeep B w5 w
  | 0, _, h => h.1
  | 1, _, h => h.1
  | 2, _, h => h.1
  | 3, _, h => h.1
  | _ + 4, _, h => h.1
theorem reads_keep {W W' : World} {B g n : Nat} {t : TypeId} {cs : List Value} (h : Blk W g t cs.toArray) (k : DKeep B W W') (h1 : t ≠ 54) (h2 : t ≠ 77) (h3 : t ≠ 79) (hn : n = cs.length) : Reads W' W'.heap.size 1 (some ⟨g, 0, none⟩) n cs := by
  subst hn
  exact reads_of_blk (k.2 _ _ _ h h1 h2 h3)
section
variable {W : World} {B g c n : Nat} {N : List (List UInt8)}
set_option maxRecDepth 100000 in
set_option maxHeartbeats 2000000 in
theorem format_any (h : DevC W B g c N 0) (hB : B ≤ W.heap.size) (hc : c + 4 < 1048576) (hn : 5 ≤ n) (hnN : n ≤ N.length) :
    Calls Try.prog 6 #[.pointer (some ⟨g, 0, none⟩), .int .i64 0, .int .i64 (n : Int)] W fun e W' => e = .returned (.int .i64 0) ∧ DevC W' B g (c + 4) (fmtN n N) 0 ∧ DKeep B W W' := by
  have HDV := hide h
  have HR := hide (right_any h n hn hnN)
  have hn16 : n ≤ 65536 := Nat.le_trans hnN h.all.2
  obtain ⟨ir, hir, hr0, hr1, hr2⟩ := info_parts info_rows
  have HIR := hide hir
  have hzp := fun W' => zero_place W'
  have HB1 : Hid (Blk (W.alloc (.cells (placeC g n) 56)) W.heap.size 56 (placeC g n)) := Blk.new _ _ _
  have HB2 : Hid (Blk ((W.alloc (.cells (placeC g n) 56)).alloc (.cells #[.slice none 0 0] 43)) (W.heap.size + 1) 43 #[.slice none 0 0]) := by
    have := Blk.new (W.alloc (.cells (placeC g n) 56)) 43 #[.slice none 0 0]
    rw [World.size_alloc] at this
    exact this
  have HBE : Hid (Below W.heap.size W ((W.alloc (.cells (placeC g n) 56)).alloc (.cells #[.slice none 0 0] 43))) := ((Below.refl _ _).alloc (Nat.le_refl _) _).alloc (by simp) _
  have HREL : Hid (FmtRel W g n 0 ((W.alloc (.cells (placeC g n) 56)).alloc (.cells #[.slice none 0 0] 43))) := ⟨_, [], HB1.out.alloc _, HB2.out, World.ownsRow_nil _ _ _ _, .nil, HBE.out⟩
  clear HB1 HB2 HBE h hir
  go_enter Try.func6, Try.ntmps6
  go_wp2_with (go_at_call 14; refine (unhide HR).mono ?_; rintro e w' ⟨rfl, rfl⟩)
  go_loopw [24] (fun i wr => ∃ k : Nat, k ≤ n ∧ i = .int .i64 k ∧ FmtRel W g n k wr) (fun i _ => n - (intOf i).toNat)
  case atStart => exact ⟨0, Nat.zero_le _, rfl, HREL.out⟩
  case round =>
    clear HREL
    obtain ⟨k, hk, rfl, vl, vs, hpb, hlb, hol, hsv, hbe⟩ := hrel
    have HPB := hide hpb
    have HLB := hide hlb
    have HOL := hide hol
    have HSV := hide hsv
    have HBE := hide hbe
    obtain ⟨A9, c9, e9⟩ := own_form hol
    subst e9
    have hszr := hbe.size
    clear hpb hlb hol hsv hbe
    by_cases hlt : k < n
    · have HSX : Hid (∀ x, Below wr.heap.size wr x → x.cell? ⟨W.heap.size + 1, 0, none⟩ = some (.slice A9 k c9)) := fun x hx => (HLB.out.below hx HLB.out.lt).cell 0
      go_wp2_with fail
      refine region_U (fun x => x.cell? ⟨W.heap.size + 1, 0, none⟩ = some (.slice A9 k c9)) 4 (by kernel_rfl) ?_
      intro Y hY
      have HBY : Hid (Below wr.heap.size wr Y) := by rw [hY]; exact (Below.refl _ _).drew
      have HSY := hide (HSX.out Y HBY.out)
      clear hY
      refine takeV 6 0 (.slice A9 k c9) rfl (by kernel_rfl) (fun _ _ _ h => h) (by rfl) (fun x hS => by
        have hS1 : x.cell? ⟨W.heap.size + 1, 0, none⟩ = some (.slice A9 k c9) := hS
        go_simp) HSY.out ?_
      simp only [Act.put, List.getElem_toArray, List.getElem_cons_succ, List.getElem_cons_zero, List.setIfInBounds_toArray, List.set_cons_zero, List.set_cons_succ]
      refine oneU 1 rfl (by kernel_rfl) (by rfl) ?_
      go_wp2_with fail
      refine (padded_any [] (.slice none 0 0) 0 Y.heap.size Y rfl (by decide) (Nat.le_refl _) (World.ownsRow_nil _ _ _ _)).mono ?_
      rintro e y1 ⟨v1, rfl, ho1, _, hf1⟩
      obtain ⟨g1, c1, e1, _, _⟩ := ho1.form (by omega)
      subst e1
      have HB1 : Hid (Below wr.heap.size wr y1) := HBY.out.trans (hf1.below HBY.out.size (fun q e => by cases e))
      have HS1 := hide (HSX.out y1 HB1.out)
      have HSV1 := hide (sec_of_own (b := padL []) ho1 rfl)
      clear ho1 hf1
      refine ⟨(by first | exact fun _ => HS1.out | exact HS1.out), ?_⟩
      try simp only [Act.put, List.getElem_toArray, List.getElem_cons_succ, List.getElem_cons_zero, List.setIfInBounds_toArray, List.set_cons_zero, List.set_cons_succ]
      refine oneU 2 rfl (by kernel_rfl) (by rfl) ?_
      have HA2 : Hid (Below y1.heap.size y1 (y1.alloc (.cells #[.slice (some ⟨g1, 0, none⟩) 64 c1] 22))) := (Below.refl _ _).alloc (Nat.le_refl _) _
      have HB2 : Hid (Below wr.heap.size wr (y1.alloc (.cells #[.slice (some ⟨g1, 0, none⟩) 64 c1] 22))) := HB1.out.alloc HB1.out.size _
      have HS2 := hide (HSX.out _ HB2.out)
      have HR2 : Hid (Reads (y1.alloc (.cells #[.slice (some ⟨g1, 0, none⟩) 64 c1] 22)) (y1.heap.size + 1) 1 (some ⟨y1.heap.size, 0, none⟩) 1 [.slice (some ⟨g1, 0, none⟩) 64 c1]) := ⟨rfl, fun _ => ⟨_, rfl, by simp, fun j u hu => by
        rw [add_flat, cell_new, ← hu]
        simp⟩⟩
      go_wp2_with fail
      refine ⟨(by first | exact fun _ => HS2.out | exact HS2.out), ?_⟩
      try simp only [Act.put, List.getElem_toArray, List.getElem_cons_succ, List.getElem_cons_zero, List.setIfInBounds_toArray, List.set_cons_zero, List.set_cons_succ]
      have HOL2 := hide (own_keep HOL.out HB2.out)
      have HSV2 := hide (HSV.out.below HB2.out)
      have HSU2 := hide ((HSV1.out.weak (D' := fun _ => True) (fun _ _ _ => trivial)).below HA2.out)
      have hsz2 : W.heap.size ≤ (y1.alloc (.cells #[.slice (some ⟨g1, 0, none⟩) 64 c1] 22)).heap.size := Nat.le_trans hszr HB2.out.size
      obtain ⟨y2, hy2⟩ : ∃ y2, y1.alloc (.cells #[.slice (some ⟨g1, 0, none⟩) 64 c1] 22) = y2 := ⟨_, rfl⟩
      rw [hy2] at HB2 HR2 HOL2 HSV2 HSU2 hsz2 ⊢
      clear hy2 HA2 HS2 HS1 HSV1 HB1 HSY
      refine oneU 3 rfl (by kernel_rfl) (by rfl) (wp_append_any _ (.tmp 26) (.tmp 28) 43 (by rfl) W.heap.size 22 ir _ 1 24 Try.underlying43 HIR.out hr0 hr1 hr2 rfl (by omega) (.slice A9 k c9) k vs (by rfl) HOL2.out (y1.heap.size + 1) (some ⟨y1.heap.size, 0, none⟩) 1 1 [.slice (some ⟨g1, 0, none⟩) 64 c1] (by rfl) HR2.out (by simp [Value.oneCell']) (by simp only [maxLen]; omega) (by omega) hsz2 ?_)
      intro v3 y3 hown3 hg3 hat3
      obtain ⟨A3, c3, e3⟩ := own_form hown3
      subst e3
      have HSV3 : Hid (SecVs y3 (fun _ => True) (vs ++ [.slice (some ⟨g1, 0, none⟩) 64 c1]) (List.replicate (k + 1) zero64)) := by
        show SecVs _ _ _ _
        rw [List.replicate_succ']
        exact (HSV2.out.own HOL2.out (by decide) hg3).snoc (HSU2.out.own HOL2.out (by decide) hg3)
      have HLB3 : Hid (Blk y3 (W.heap.size + 1) 43 #[.slice A9 k c9]) := (HLB.out.below HB2.out HLB.out.lt).grown hg3 (fun e => own_blk_ne HOL2.out (HLB.out.below HB2.out HLB.out.lt) (by decide) e.symm)
      have HPB3 : Hid (Blk y3 W.heap.size 56 (placeC g n)) := (HPB.out.below HB2.out HPB.out.lt).grown hg3 (fun e => own_blk_ne HOL2.out (HPB.out.below HB2.out HPB.out.lt) (by decide) e.symm)
      have HBE3 : Hid (Below W.heap.size W y3) := (HBE.out.trans (HB2.out.mono hszr)).trans ((Fr.of_grown hg3).below hsz2 (fun q e => (HOL2.out.lt q e).1))
      have HOL3 := hide hown3
      have hcc : y3.cell? ⟨W.heap.size + 1, 0, none⟩ = some (.slice A9 k c9) := HLB3.out.cell 0
      have hff := HLB3.out.frozen 0
      clear hown3 hg3 hat3 HR2
      refine ⟨(by first | exact fun _ => hcc | exact hcc), ?_⟩
      try simp only [Act.put, List.getElem_toArray, List.getElem_cons_succ, List.getElem_cons_zero, List.setIfInBounds_toArray, List.set_cons_zero, List.set_cons_succ]
      refine oneU 4 rfl (by kernel_rfl) (by rfl) ?_
      go_wp2_with fail
      refine doneU (by kernel_rfl) ?_ _
      clear hcc hff
      go_wp2
      go_roundw
      case rel => exact ⟨k + 1, by omega, by go_num, _, _, HPB3.out.far (by show W.heap.size ≠ W.heap.size + 1; omega) _, HLB3.out.set_ 0 _, own_far HOL3.out HLB3.out (by decide) _, HSV3.out.far HLB3.out (by decide) _, HBE3.out.setCell (p := ⟨W.heap.size + 1, 0, none⟩) (by show _ ≤ W.heap.size + 1; omega) _⟩
      case measure => simp [intOf]; omega
    · obtain rfl : k = n := by omega
      clear hlt
      obtain ⟨A', c', e', hrb⟩ := rows_of_own HOL.out HSV.out
      injection e' with e1 e2 e3
      subst e1
      have HRB := hide hrb
      clear hrb e2 e3
      have hsz5 : B ≤ wr.heap.size := Nat.le_trans hB hszr
      have HBF : Hid (Blk (wr.alloc (.cells #[.func (.func 16) #[] #[.pointer (some ⟨W.heap.size, 0, none⟩), .pointer (some ⟨W.heap.size + 1, 0, none⟩)], .func (.func 21) #[.pointer (some ⟨g, 0, none⟩)] #[], .func (.func 18) #[] #[.pointer (some ⟨W.heap.size, 0, none⟩)], .func (.func 21) #[.pointer (some ⟨g, 0, none⟩)] #[]] 59)) wr.heap.size 59 [.func (.func 16) #[] #[.pointer (some ⟨W.heap.size, 0, none⟩), .pointer (some ⟨W.heap.size + 1, 0, none⟩)], .func (.func 21) #[.pointer (some ⟨g, 0, none⟩)] #[], .func (.func 18) #[] #[.pointer (some ⟨W.heap.size, 0, none⟩)], .func (.func 21) #[.pointer (some ⟨g, 0, none⟩)] #[]].toArray) := Blk.new _ _ _
      have HA5 : Hid (Below wr.heap.size wr (wr.alloc (.cells #[.func (.func 16) #[] #[.pointer (some ⟨W.heap.size, 0, none⟩), .pointer (some ⟨W.heap.size + 1, 0, none⟩)], .func (.func 21) #[.pointer (some ⟨g, 0, none⟩)] #[], .func (.func 18) #[] #[.pointer (some ⟨W.heap.size, 0, none⟩)], .func (.func 21) #[.pointer (some ⟨g, 0, none⟩)] #[]] 59))) := (Below.refl _ _).alloc (Nat.le_refl _) _
      go_wp2_with fail
      obtain ⟨w5, hw5⟩ : ∃ w5, wr.alloc (.cells #[.func (.func 16) #[] #[.pointer (some ⟨W.heap.size, 0, none⟩), .pointer (some ⟨W.heap.size + 1, 0, none⟩)], .func (.func 21) #[.pointer (some ⟨g, 0, none⟩)] #[], .func (.func 18) #[] #[.pointer (some ⟨W.heap.size, 0, none⟩)], .func (.func 21) #[.pointer (some ⟨g, 0, none⟩)] #[]] 59) = w5 := ⟨_, rfl⟩
      rw [hw5] at HBF HA5 ⊢
      clear hw5
      have HB5 : Hid (Below W.heap.size W w5) := HBE.out.trans (HA5.out.mono hszr)
      have hB5 : B ≤ w5.heap.size := Nat.le_trans hB HB5.out.size
      refine (first_any _ _ _ _ rfl (by simp) (FmtI w5 B g c k N) w5 ⟨DKeep.refl _ _, HDV.out.lift HB5.out⟩ (fun j w hi => reads_keep HBF.out hi.keep (by decide) (by decide) (by decide) rfl) (fun j hj w hi => ?_)).mono ?_
      · have hkw := hi.keep
        have hszw : B ≤ w.heap.size := Nat.le_trans hB5 hkw.1.size
        have hpw := hkw.2 _ _ _ (HPB.out.below HA5.out HPB.out.lt) (by decide) (by decide) (by decide)
        have hlw := hkw.2 _ _ _ (HLB.out.below HA5.out HLB.out.lt) (by decide) (by decide) (by decide)
        have hrw := (HRB.out.below HA5.out).keep hkw
        have hl := HDV.out.all
        match j, hj, hi with
        | 0, _, hi =>
          refine Fn0.weak ⟨_, _, _, rfl, run_fmt1 _ _, fmt1_any hi.2 hszw (by omega) hpw hlw (by rw [List.length_replicate]) (by rw [List.length_replicate]; exact hnN) (by rw [List.length_replicate]; omega) (fun s hs => by rw [List.eq_of_mem_replicate hs]; rfl) hrw⟩ ?_
          rintro e w' ⟨rfl, hd, hk'⟩
          refine ⟨rfl, hkw.trans hk', ?_⟩
          rw [List.length_replicate, Nat.zero_add] at hd
          exact hd
        | 1, _, hi =>
          refine (hi.2.fn_flush (by omega)).weak ?_
          rintro e w' ⟨rfl, hd, hk'⟩
          exact ⟨rfl, hkw.trans hk', hd⟩
        | 2, _, hi =>
          refine Fn0.weak ⟨_, _, _, rfl, run_fmt2 _ _, fmt2_any hi.2 hszw (by omega) hpw (by rw [wsec_len]; omega) (by omega)⟩ ?_
          rintro e w' ⟨rfl, hd, hk'⟩
          exact ⟨rfl, hkw.trans hk', hd⟩
        | 3, _, hi =>
          refine (hi.2.fn_flush (by omega)).weak ?_
          rintro e w' ⟨rfl, hd, hk'⟩
          exact ⟨rfl, hkw.trans hk', hd⟩
      · rintro e w' ⟨rfl, hi⟩
        have HI : Hid (FmtI w5 B g c k N 4 w') := hi
        have HK5 : Hid (DKeep B W w5) := ⟨HB5.out.mono hB, fun q cs t hb _ _ _ => hb.below HB5.out hb.lt⟩
        clear hi
        go_wp2
        go_ret
        exact ⟨rfl, HI.out.2, HK5.out.trans HI.out.1⟩
end
end Go.Proofs.Ytogjdfiimflbaaa
