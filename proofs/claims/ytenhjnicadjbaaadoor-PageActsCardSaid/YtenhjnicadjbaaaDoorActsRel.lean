/-
  icehouselaw14.PageActs: what its loop keeps. Plain but for the two devices' lying. Conditions: each theorem's own.
-/
import Derived.Test.YtenhjnicadjbaaaDoorSim
import Derived.Test.YtenhjnicadjbaaaDoorPageIO
import Derived.Test.YtenhjnicadjbaaaDoorActs
import Derived.Test.YtenhjnicadjbaaaDoorRefUnpack
import Derived.Test.YtenhjnicadjbaaaDoorRegionPhase
import Derived.Deep.Onto
namespace Go.Proofs.YtenhjnicadjbaaaDoor
open Go Go.RowKit

theorem mod_pos (x : Int) (m : Nat) (hm : 0 < m) (hm2 : m ≤ 1000) : ∃ k : Nat, k < m ∧ (wrap64 (x.tmod m + m)).tmod m = (k : Int) := by
  have a := Int.tmod_lt_of_pos x (b := (m : Int)) (by omega)
  have b := Int.lt_tmod_of_pos x (b := (m : Int)) (by omega)
  have e1 : wrap64 (x.tmod m + m) = x.tmod m + m := IntWalk.wrap64_in _ ⟨by omega, by omega⟩
  rw [e1]
  have c := Int.tmod_lt_of_pos (x.tmod m + m) (b := (m : Int)) (by omega)
  have d := Int.tmod_nonneg (m : Int) (a := x.tmod m + m) (by omega)
  exact ⟨((x.tmod m + m).tmod m).toNat, by omega, by omega⟩

theorem pre_tkeep (no : TypeId → Bool) (B : Nat) : Pre (TKeep no B) := ⟨fun w => TKeep.refl no B w, fun h k => h.trans k⟩
/-- the types that the devices' Write writes -/
def kT (t : TypeId) : Bool := devT t || wT t
/-- all that either device writes -/
def aT (t : TypeId) : Bool := devT t || refT t
theorem kT_dev {B : Nat} {W W' : World} (h : DKeep B W W') : TKeep kT B W W' := TKeep.of_dev h rfl rfl rfl
theorem kT_w {B : Nat} {W W' : World} (h : TKeep wT B W W') : TKeep kT B W W' := ⟨h.1, fun q cs t hb hn => h.2 q cs t hb (by
  unfold kT at hn
  simp only [Bool.or_eq_false_iff] at hn
  exact hn.2)⟩
theorem aT_dev {B : Nat} {W W' : World} (h : DKeep B W W') : TKeep aT B W W' := TKeep.of_dev h rfl rfl rfl
theorem aT_ref {B : Nat} {W W' : World} (h : RKeep B W W') : TKeep aT B W W' := ⟨h.1, fun q cs t hb hn => h.2 q cs t hb (by
  unfold aT at hn
  simp only [Bool.or_eq_false_iff] at hn
  exact hn.2)⟩
theorem ActBlk.tkeep {no : TypeId → Bool} {B q : Nat} {W W' : World} {v : AV} (h : ActBlk W q v) (hk : TKeep no B W W') (hn : no 65 = false) : ActBlk W' q v := hk.2 _ _ _ h hn

/-- the reference lies above a lower bound, nothing told to fail -/
theorem RefAt.low {W : World} {B B' r : Nat} {R : RS} (h : RefAt W B r R) (hB : B' ≤ B) (h0 : R.bad = []) : RefAt W B' r R := by
  obtain ⟨sv, wv, bv, h⟩ := h
  obtain ⟨xs, ho, hx⟩ := h.safe
  obtain ⟨ys, hw, hy⟩ := h.wait
  obtain ⟨A, c, e, hr⟩ := h.bad
  refine ⟨sv, wv, bv, h.ok, Nat.le_trans hB h.br, h.dev, ⟨xs, ho.mono hB, hx⟩, ⟨ys, hw.mono hB, hy⟩, A, c, e, ?_⟩
  rw [h0] at hr ⊢
  exact ⟨hr.1, fun h => absurd h (by simp)⟩

/-- what has come up, and the two devices -/
def Ph (a b : Nat) (B g r : Nat) (S S1 : DS) (R R1 : RS) (L : Nat → Prop) (w : World) : Prop := (L a → DevAt w B g S1) ∧ (¬ L a → DevAt w B g S) ∧ (L b → RefAt w B r R1) ∧ (¬ L b → RefAt w B r R)
section
variable {a b B g r k : Nat} {S S1 : DS} {R R1 : RS} {L : Nat → Prop} {w w' : World}
theorem Ph.stay (h : Ph a b B g r S S1 R R1 L w) (ha : k ≠ a) (hb : k ≠ b) (hw : Below w.heap.size w w') : Ph a b B g r S S1 R R1 (fun j => j = k ∨ L j) w' := by
  obtain ⟨h1, h2, h3, h4⟩ := h
  refine ⟨fun hl => ?_, fun hl => ?_, fun hl => ?_, fun hl => ?_⟩
  · exact (h1 (hl.resolve_left (Ne.symm ha))).lift hw
  · exact (h2 fun h => hl (.inr h)).lift hw
  · exact (h3 (hl.resolve_left (Ne.symm hb))).lift hw
  · exact (h4 fun h => hl (.inr h)).lift hw
theorem Ph.dev (h : Ph a b B g r S S1 R R1 L w) (hab : a ≠ b) (hd : DevAt w' B g S1) (hk : DKeep B w w') : Ph a b B g r S S1 R R1 (fun j => j = a ∨ L j) w' := by
  obtain ⟨h1, h2, h3, h4⟩ := h
  refine ⟨fun _ => hd, fun hl => absurd (.inl rfl) hl, fun hl => ?_, fun hl => ?_⟩
  · exact (h3 (hl.resolve_left (Ne.symm hab))).dev hk
  · exact (h4 fun h => hl (.inr h)).dev hk
theorem Ph.ref (h : Ph a b B g r S S1 R R1 L w) (hab : a ≠ b) (hd : RefAt w' B r R1) (hk : RKeep B w w') : Ph a b B g r S S1 R R1 (fun j => j = b ∨ L j) w' := by
  obtain ⟨h1, h2, h3, h4⟩ := h
  refine ⟨fun hl => ?_, fun hl => ?_, fun _ => hd, fun hl => absurd (.inl rfl) hl⟩
  · exact (h1 (hl.resolve_left hab)).ref hk
  · exact (h2 fun h => hl (.inr h)).ref hk
end

theorem pr_cases (S : DS) (at_ : Int) :
    (readCode S at_ 8 = 0 ∧ isPage (readL S at_ 8).flatten = true ∧ prKind S at_ = (bodyK (readL S at_ 8).flatten : Int) ∧ prBody S at_ = bodyL (readL S at_ 8).flatten ∧ prCode S at_ = 0) ∨
    (readCode S at_ 8 = 0 ∧ isPage (readL S at_ 8).flatten = false ∧ prKind S at_ = 0 ∧ prBody S at_ = [] ∧ prCode S at_ = 33) ∨
    (readCode S at_ 8 ≠ 0 ∧ isPage (readL S at_ 8).flatten = false ∧ prKind S at_ = 0 ∧ prBody S at_ = [] ∧ prCode S at_ = readCode S at_ 8) := by
  unfold prKind prBody prCode
  by_cases hc : readCode S at_ 8 = 0
  · cases hp : isPage (readL S at_ 8).flatten with
    | true => exact .inl ⟨hc, rfl, by simp [hc], by simp [hc], by simp [hc]⟩
    | false => exact .inr (.inl ⟨hc, rfl, by simp, by simp, by simp [hc]⟩)
  · have hl : readL S at_ 8 = [] := by unfold readL; rw [if_neg hc]
    refine .inr (.inr ⟨hc, ?_, by simp [hc], by simp [hc], by simp [hc]⟩)
    rw [hl]
    exact isPage_len (by decide)
/-- one writing operation: till then memory only grows -/
def PhB (b : Nat) (u : World) (P : World → Prop) (L : Nat → Prop) (w : World) : Prop := (¬ L b → Below u.heap.size u w) ∧ (L b → P w)
theorem PhB.stay {b k : Nat} {u w w' : World} {P : World → Prop} {L : Nat → Prop} (h : PhB b u P L w) (hP : ∀ w w', Below w.heap.size w w' → P w → P w') (hk : k ≠ b) (hw : Below w.heap.size w w') : PhB b u P (fun j => j = k ∨ L j) w' := by
  refine ⟨fun hl => ?_, fun hl => ?_⟩
  · have := h.1 fun h => hl (.inr h)
    exact this.trans (hw.mono this.size)
  · exact hP _ _ hw (h.2 (hl.resolve_left (Ne.symm hk)))
theorem PhB.last {b : Nat} {u w' : World} {P : World → Prop} {L : Nat → Prop} (h : P w') : PhB b u P (fun j => j = b ∨ L j) w' := ⟨fun hl => absurd (.inl rfl) hl, fun _ => h⟩
theorem undrewK {no : TypeId → Bool} {B : Nat} {w w' : World} (h : TKeep no B w.drew w') : TKeep no B w w' := ⟨⟨h.1.os, h.1.tape, h.1.output, h.1.size, h.1.block⟩, h.2⟩
/-- the two devices, and all that is of another type -/
def Both (B g r : Nat) (S : DS) (R : RS) (u w : World) : Prop := DevAt w B g S ∧ RefAt w B r R ∧ TKeep kT B u w
theorem DevAt.bound {W : World} {B g : Nat} {S : DS} (h : DevAt W B g S) : B ≤ W.heap.size := by
  obtain ⟨gk, gn, bv, qv, h⟩ := h
  exact Nat.le_trans h.bg (Nat.le_of_lt h.dev.lt)
theorem Both.lift {B g r : Nat} {S : DS} {R : RS} {u : World} (w w' : World) (hb : Below w.heap.size w w') (h : Both B g r S R u w) : Both B g r S R u w' :=
  ⟨h.1.lift hb, h.2.1.lift hb, h.2.2.trans (TKeep.of_below hb h.1.bound)⟩
def PgSecs (l : List UInt8) (v : Value) (w : World) : Prop := ∃ A c, v = .slice A (secs l).length c ∧ BlkRows w A (secs l)
theorem PgSecs_stable {B : Nat} (l : List UInt8) : StableP (TKeep kT B) (PgSecs l) := fun _ _ _ ⟨A, c, e, h⟩ hk => ⟨A, c, e, RowsBlk.tkeep h hk rfl rfl⟩
/-- a slice of one slice of 64 octets, in a block of its own -/
def OneB (gs : Nat) (v : Value) (w : World) : Prop := ∃ gr, v = .slice (some ⟨gr, 0, none⟩) 1 1 ∧ Blk w gr 23 #[.slice (some ⟨gs, 0, none⟩) 64 64]
theorem OneB_stable {B : Nat} (gs : Nat) : StableP (TKeep kT B) (OneB gs) := fun _ _ _ ⟨gr, e, h⟩ hk => ⟨gr, e, hk.2 _ _ _ h rfl⟩
theorem rows_oneB {w : World} {gr gs : Nat} {s : List UInt8} (h : Blk w gr 23 #[.slice (some ⟨gs, 0, none⟩) 64 64]) (hb : Blk w gs 5 (byts s).toArray) (hs : s.length = 64) : RowsBlk w (some ⟨gr, 0, none⟩) [s] := fun _ =>
  ⟨gr, _, rfl, h, fun i hi => by
    obtain rfl : i = 0 := by simpa using hi
    exact ⟨gs, 64, _, by rw [List.getElem_cons_zero, hs]; rfl, by rw [List.getElem_cons_zero, hs]; exact Nat.le_refl _, hb, by rw [List.getElem_cons_zero]; exact List.take_of_length_le (by simp [byts])⟩⟩
theorem pwrite_one (W : World) (B g : Nat) (S : DS) (h : DevAt W B g S) (hh : HalfAt W) (hn : S.n < 1048576) (hl : -1 ≤ S.left) (at_ t : Int) (l : List UInt8) (A : Option Addr) (hll : l.length ≤ 1000) (hq : S.q.length + 8 ≤ 1048576) (hA : RowsAt W W.heap.size A [l]) :
    Calls Tryd.prog 33 #[.pointer (some ⟨g, 0, none⟩), .int .i64 at_, .int .i64 t, .slice A 1 1] W fun e W' => e = .returned (.int .i64 (pwCode S at_ t l)) ∧ DevAt W' B g (pwTo S at_ t l) ∧ DKeep B W W' := by
  have hf : [l].flatten = l := by rw [List.flatten_cons, List.flatten_nil, List.append_nil]
  have := pwrite_any W B g S h hh hn hl at_ t [l] A 1 1 rfl (by rw [List.length_singleton]; omega) (by rw [hf]; omega) hq h.bound hA
  rw [hf] at this
  exact this

def ActRel (wr : World) (B g r i : Nat) : Prop := ∃ S R, DevAt wr B g S ∧ RefAt wr B r R ∧ Sim S R ∧ 0 ≤ R.n ∧ R.n ≤ i ∧ R.wait.length ≤ 8 * i
theorem writeW_len : ∀ (ls : List (List UInt8)) (R : RS) (a : Nat), (writeW R a ls).wait.length = R.wait.length + ls.length ∧ (writeW R a ls).n = R.n
  | [], R, _ => ⟨rfl, rfl⟩
  | s :: l, R, a => by
    have := writeW_len l { R with wait := R.wait ++ [(a, s)] } (a + 1)
    refine ⟨?_, this.2⟩
    show (writeW { R with wait := R.wait ++ [(a, s)] } (a + 1) l).wait.length = _
    rw [this.1]
    show (R.wait ++ [(a, s)]).length + l.length = _
    rw [List.length_append, List.length_singleton, List.length_cons]
    omega
theorem writeToR_len (R : RS) (at_ : Int) (ls : List (List UInt8)) : (writeToR R at_ ls).wait.length ≤ R.wait.length + ls.length ∧ R.n ≤ (writeToR R at_ ls).n ∧ (writeToR R at_ ls).n ≤ R.n + 1 := by
  have hs : (stepR R).wait = R.wait ∧ (stepR R).n = R.n + 1 := ⟨rfl, rfl⟩
  unfold writeToR
  split
  · split
    · obtain ⟨h1, h2⟩ := writeW_len ls (stepR R) at_.toNat
      rw [h1, h2, hs.1, hs.2]
      exact ⟨Nat.le_refl _, by omega, Int.le_refl _⟩
    · rw [hs.1, hs.2]
      exact ⟨by omega, by omega, Int.le_refl _⟩
  · exact ⟨by omega, Int.le_refl _, by omega⟩
section
variable {wr W' : World} {B g r i : Nat} {S : DS} {R : RS}
theorem rel_write (hs : Sim S R) (h0 : 0 ≤ R.n) (hn : R.n ≤ i) (hq : R.wait.length ≤ 8 * i) (at_ : Int) (ls : List (List UInt8)) (hl : ls.length ≤ 8) (hd : DevAt W' B g (writeTo S at_ ls)) (hr : RefAt W' B r (writeToR R at_ ls)) : ActRel W' B g r (i + 1) := by
  obtain ⟨h1, h2, h3⟩ := writeToR_len R at_ ls
  exact ⟨_, _, hd, hr, (sim_write hs at_ ls).2, by omega, by omega, by omega⟩
theorem rel_same (hs : Sim S R) (h0 : 0 ≤ R.n) (hn : R.n ≤ i) (hq : R.wait.length ≤ 8 * i) (hd : DevAt W' B g S) (hr : RefAt W' B r R) : ActRel W' B g r (i + 1) :=
  ⟨_, _, hd, hr, hs, h0, by omega, by omega⟩
theorem rel_read (hs : Sim S R) (h0 : 0 ≤ R.n) (hn : R.n ≤ i) (hq : R.wait.length ≤ 8 * i) (at_ n : Int) (hd : DevAt W' B g (readS S at_ n)) (hr : RefAt W' B r (readRS R at_ n)) : ActRel W' B g r (i + 1) := by
  have hx : (stepR R).wait = R.wait ∧ (stepR R).n = R.n + 1 := ⟨rfl, rfl⟩
  have h1 : (readRS R at_ n).wait = R.wait ∧ R.n ≤ (readRS R at_ n).n ∧ (readRS R at_ n).n ≤ R.n + 1 := by
    unfold readRS
    split
    · rw [hx.2]; exact ⟨rfl, by omega, Int.le_refl _⟩
    · exact ⟨rfl, Int.le_refl _, by omega⟩
  exact ⟨_, _, hd, hr, (sim_read hs at_ n).2.2, by omega, by omega, by rw [h1.1]; omega⟩
theorem rel_flush (hs : Sim S R) (h0 : 0 ≤ R.n) (hn : R.n ≤ i) (hq : R.wait.length ≤ 8 * i) (hd : DevAt W' B g (flushTo S)) (hr : RefAt W' B r (flushR R)) : ActRel W' B g r (i + 1) := by
  have hx : (stepR R).wait = R.wait ∧ (stepR R).n = R.n + 1 := ⟨rfl, rfl⟩
  have h1 : (flushR R).wait.length ≤ R.wait.length ∧ (flushR R).n = R.n + 1 := by
    unfold flushR
    split
    · exact ⟨Nat.zero_le _, rfl⟩
    · exact ⟨Nat.le_refl _, rfl⟩
  exact ⟨_, _, hd, hr, sim_flush hs, by omega, by omega, by omega⟩
theorem rel_fail (hs : Sim S R) (hq : R.wait.length ≤ 8 * i) (l : List Int) (hd : DevAt W' B g { S with n := 0, bad := l }) (hr : RefAt W' B r { R with n := 0, bad := l }) : ActRel W' B g r (i + 1) :=
  ⟨_, _, hd, hr, sim_fail hs l, Int.le_refl _, by show (0 : Int) ≤ _; omega, by show R.wait.length ≤ _; omega⟩
theorem rel_crash (hs : Sim S R) (keep : List Bool) (torn P : Int) (hd : DevAt W' B g (crashS S keep torn P)) (hr : RefAt W' B r (crashR R keep torn P)) : ActRel W' B g r (i + 1) :=
  ⟨_, _, hd, hr, sim_crash hs keep torn P, Int.le_refl _, by show (0 : Int) ≤ _; omega, Nat.zero_le _⟩
end
end Go.Proofs.YtenhjnicadjbaaaDoor
