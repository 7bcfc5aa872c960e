/-
  The reference device in memory: its block, its sectors' rows, what waits; its small methods. Condition: it lies as its state says.
-/
import Derived.Test.YtenhjnicadjbaaaDoorDevRead
namespace Go.Proofs.YtenhjnicadjbaaaDoor
open Go Go.RowKit

structure RS where
  n : Int
  bad : List Int
  safe : List (List UInt8)
  wait : List (Nat × List UInt8)

def RS.ok (R : RS) : Prop := All64 R.safe ∧ (∀ e ∈ R.wait, e.1 < R.safe.length ∧ e.2.length = 64) ∧ R.safe.length ≤ 65536 ∧ R.wait.length ≤ 1048576 ∧ R.bad.length ≤ 1048576 ∧ 0 ≤ R.n ∧ R.n ≤ 1048576

/-- what waits: rows of an octet list each, in blocks of their own -/
def WaitRows (W : World) (B : Nat) (v : Value) (q : List (Nat × List UInt8)) : Prop := ∃ ys, W.ownsRow B 98 2 v q.length ys ∧
  ∀ (i : Nat) (hi : i < q.length), ∃ gi ci cu, ys[2 * i]? = some (.int .i64 (q[i].1 : Int)) ∧ ys[2 * i + 1]? = some (.slice (some ⟨gi, 0, none⟩) 64 ci) ∧ 64 ≤ ci ∧ Blk W gi 5 cu ∧ cu.toList.take 64 = byts q[i].2

def refCells (R : RS) (sv wv bv : Value) : Array Value := #[sv, wv, .int .i64 R.n, bv, .int .i64 (-1)]
structure RefIn (W : World) (B r : Nat) (sv wv bv : Value) (R : RS) : Prop where
  ok : R.ok
  br : B ≤ r
  dev : Blk W r 95 (refCells R sv wv bv)
  safe : OutRows W B sv R.safe
  wait : WaitRows W B wv R.wait
  bad : ∃ A c, bv = .slice A R.bad.length c ∧ Reads W B 1 A R.bad.length (ints R.bad)
def RefAt (W : World) (B r : Nat) (R : RS) : Prop := ∃ sv wv bv, RefIn W B r sv wv bv R

/-- all below B, and every block that is of none of these types -/
def TKeep (no : TypeId → Bool) (B : Nat) (W W' : World) : Prop := Below B W W' ∧ ∀ q cs t, Blk W q t cs → no t = false → Blk W' q t cs
theorem TKeep.refl (no : TypeId → Bool) (B : Nat) (W : World) : TKeep no B W W := ⟨Below.refl _ _, fun _ _ _ h _ => h⟩
theorem TKeep.trans {no : TypeId → Bool} {B : Nat} {X Y Z : World} (h : TKeep no B X Y) (k : TKeep no B Y Z) : TKeep no B X Z := ⟨h.1.trans k.1, fun q cs t hb h1 => k.2 q cs t (h.2 q cs t hb h1) h1⟩
theorem TKeep.of_below {no : TypeId → Bool} {B : Nat} {X Y : World} (h : Below X.heap.size X Y) (hB : B ≤ X.heap.size) : TKeep no B X Y := ⟨h.mono hB, fun _ _ _ hb _ => hb.below h hb.lt⟩
theorem TKeep.of_dev {no : TypeId → Bool} {B : Nat} {X Y : World} (h : DKeep B X Y) (h1 : no 92 = true) (h2 : no 104 = true) (h3 : no 106 = true) : TKeep no B X Y :=
  ⟨h.1, fun q cs t hb hn => h.2 q cs t hb (fun e => by rw [e, h1] at hn; cases hn) (fun e => by rw [e, h2] at hn; cases hn) (fun e => by rw [e, h3] at hn; cases hn)⟩
/-- the reference device's own types -/
def refT (t : TypeId) : Bool := t == 95 || t == 23 || t == 98
def RKeep (B : Nat) (W W' : World) : Prop := TKeep refT B W W'

theorem own_tkeep {no : TypeId → Bool} {B base n s : Nat} {W W' : World} {e : TypeId} {v : Value} {xs : List Value} (h : W.ownsRow base e s v n xs) (hk : TKeep no B W W') (hn : no e = false) : W'.ownsRow base e s v n xs := by
  refine ⟨h.1, ?_⟩
  rcases h.2 with h2 | ⟨g, cap, cur, hv, hg, hh, r⟩
  · exact .inl h2
  · exact .inr ⟨g, cap, cur, hv, hg, hk.2 _ _ _ hh hn, r⟩
theorem OutRows.keep {no : TypeId → Bool} {B base : Nat} {W W' : World} {v : Value} {ls : List (List UInt8)} (h : OutRows W base v ls) (hk : TKeep no B W W') (h1 : no 23 = false) (h2 : no 5 = false) : OutRows W' base v ls := by
  obtain ⟨xs, ho, hx⟩ := h
  refine ⟨xs, own_tkeep ho hk h1, fun i hi => ?_⟩
  obtain ⟨gi, ci, cu, q1, q2, q3, q4⟩ := hx i hi
  exact ⟨gi, ci, cu, q1, q2, hk.2 _ _ _ q3 h2, q4⟩
theorem WaitRows.keep {no : TypeId → Bool} {B base : Nat} {W W' : World} {v : Value} {q : List (Nat × List UInt8)} (h : WaitRows W base v q) (hk : TKeep no B W W') (h1 : no 98 = false) (h2 : no 5 = false) : WaitRows W' base v q := by
  obtain ⟨ys, ho, hx⟩ := h
  refine ⟨ys, own_tkeep ho hk h1, fun i hi => ?_⟩
  obtain ⟨gi, ci, cu, q1, q2, q3, q4, q5⟩ := hx i hi
  exact ⟨gi, ci, cu, q1, q2, q3, hk.2 _ _ _ q4 h2, q5⟩
theorem RefIn.keep {no : TypeId → Bool} {B r : Nat} {W W' : World} {sv wv bv : Value} {R : RS} (h : RefIn W B r sv wv bv R) (hk : TKeep no B W W') (h0 : no 95 = false) (h1 : no 23 = false) (h2 : no 98 = false) (h3 : no 5 = false) : RefIn W' B r sv wv bv R :=
  ⟨h.ok, h.br, hk.2 _ _ _ h.dev h0, h.safe.keep hk h1 h3, h.wait.keep hk h2 h3, let ⟨A, c, e, hr⟩ := h.bad; ⟨A, c, e, hr.below hk.1⟩⟩
def noT : TypeId → Bool := fun _ => false
theorem RefIn.lift {B r : Nat} {W W' : World} {sv wv bv : Value} {R : RS} (h : RefIn W B r sv wv bv R) (hb : Below W.heap.size W W') : RefIn W' B r sv wv bv R :=
  h.keep (no := noT) (TKeep.of_below hb (Nat.le_trans h.br (Nat.le_of_lt h.dev.lt))) rfl rfl rfl rfl
theorem RefAt.lift {B r : Nat} {W W' : World} {R : RS} (h : RefAt W B r R) (hb : Below W.heap.size W W') : RefAt W' B r R := let ⟨sv, wv, bv, h⟩ := h; ⟨sv, wv, bv, h.lift hb⟩
def devT (t : TypeId) : Bool := t == 92 || t == 104 || t == 106
theorem RefAt.dev {B r : Nat} {W W' : World} {R : RS} (h : RefAt W B r R) (hk : DKeep B W W') : RefAt W' B r R :=
  let ⟨sv, wv, bv, h⟩ := h
  ⟨sv, wv, bv, h.keep (no := devT) (TKeep.of_dev hk rfl rfl rfl) rfl rfl rfl rfl⟩
theorem DevIn.tkeep {no : TypeId → Bool} {W W' : World} {B g gk gn : Nat} {bv qv : Value} {S : DS} (h : DevIn W B g gk gn bv qv S) (hk : TKeep no B W W') (h1 : no 92 = false) (h2 : no 104 = false) (h3 : no 106 = false) (h4 : no 3 = false) : DevIn W' B g gk gn bv qv S :=
  ⟨h.ok, h.bg, h.bk, h.bn, h.ne, hk.2 _ _ _ h.dev h1, hk.2 _ _ _ h.kept h2, hk.2 _ _ _ h.now h2, own_tkeep h.bad hk h4, own_tkeep h.queue hk h3⟩
theorem DevAt.ref {W W' : World} {B g : Nat} {S : DS} (h : DevAt W B g S) (hk : RKeep B W W') : DevAt W' B g S :=
  let ⟨gk, gn, bv, qv, h⟩ := h
  ⟨gk, gn, bv, qv, h.tkeep hk rfl rfl rfl rfl⟩

theorem WaitRows.form {W : World} {B : Nat} {v : Value} {q : List (Nat × List UInt8)} (h : WaitRows W B v q) : ∃ A c, v = .slice A q.length c ∧ ∀ (i : Nat) (hi : i < q.length), ∃ g gi ci cu, A = some ⟨g, 0, none⟩ ∧ W.cell? ⟨g, 2 * i, none⟩ = some (.int .i64 (q[i].1 : Int)) ∧
    W.cell? ⟨g, 2 * i + 1, none⟩ = some (.slice (some ⟨gi, 0, none⟩) 64 ci) ∧ 64 ≤ ci ∧ Blk W gi 5 cu ∧ cu.toList.take 64 = byts q[i].2 := by
  obtain ⟨ys, ho, hx⟩ := h
  rcases ho.2 with ⟨rfl, h0⟩ | ⟨g, cap, cur, rfl, hb, hg, hn, hc, hsz, hcut⟩
  · exact ⟨none, 0, by rw [h0], fun i hi => absurd hi (by omega)⟩
  · refine ⟨_, cap, rfl, fun i hi => ?_⟩
    obtain ⟨gi, ci, cu, q1, q2, q3, q4, q5⟩ := hx i hi
    have hb : Blk W g 98 cur := hg
    refine ⟨g, gi, ci, cu, rfl, ?_, ?_, q3, q4, q5⟩
    · rw [hb.cell, ← Array.getElem?_toList, ← q1, ← hcut, List.getElem?_take_of_lt (by omega)]
    · rw [hb.cell, ← Array.getElem?_toList, ← q2, ← hcut, List.getElem?_take_of_lt (by omega)]
theorem RefIn.cells {W : World} {B r : Nat} {sv wv bv : Value} {R : RS} (h : RefIn W B r sv wv bv R) :
    W.cell? ⟨r, 0, none⟩ = some sv ∧ W.cell? ⟨r, 1, none⟩ = some wv ∧ W.cell? ⟨r, 2, none⟩ = some (.int .i64 R.n) ∧ W.cell? ⟨r, 3, none⟩ = some bv ∧ W.cell? ⟨r, 4, none⟩ = some (.int .i64 (-1)) :=
  ⟨h.dev.cell 0, h.dev.cell 1, h.dev.cell 2, h.dev.cell 3, h.dev.cell 4⟩

def thereR (R : RS) (at_ n : Int) : Bool := decide (0 ≤ at_ ∧ at_ ≤ R.safe.length ∧ 0 ≤ n ∧ n ≤ R.safe.length - at_)

set_option maxRecDepth 100000 in
set_option maxHeartbeats 1000000 in
theorem rthere_any (W : World) (B r : Nat) (R : RS) (h : RefAt W B r R) (at_ n : Int) (_hn : n ≤ 1099511627776) :
    Calls Tryd.prog 50 #[.pointer (some ⟨r, 0, none⟩), .int .i64 at_, .int .i64 n] W fun e W' => e = .returned (.bool (thereR R at_ n)) ∧ W = W' := by
  obtain ⟨sv, wv, bv, h⟩ := h
  obtain ⟨A, c, rfl, _⟩ := h.safe.form
  have r0 := h.cells.1
  have hlen : R.safe.length ≤ 65536 := h.ok.2.2.1
  clear h
  have HT : Hid (thereR R at_ n = decide (0 ≤ at_ ∧ at_ ≤ R.safe.length ∧ 0 ≤ n ∧ n ≤ R.safe.length - at_)) := rfl
  generalize thereR R at_ n = tb at *
  generalize R.safe.length = len at *
  by_cases h1 : 0 ≤ at_
  · have t1 : decide (0 ≤ at_) = true := decide_eq_true h1
    by_cases h3 : 0 ≤ n
    · have t3 : decide (0 ≤ n) = true := decide_eq_true h3
      by_cases h2 : at_ ≤ (len : Int)
      · have t2 : decide (at_ ≤ (len : Int)) = true := decide_eq_true h2
        by_cases h4 : n ≤ (len : Int) - at_
        · have t4 : decide (n ≤ (len : Int) - at_) = true := decide_eq_true h4
          have HB : Hid (tb = true) := HT.out.trans (decide_eq_true ⟨h1, h2, h3, h4⟩)
          go_enter Tryd.func50, Tryd.ntmps50
          go_wp2
          go_ret
          exact ⟨by rw [HB.out]; rfl, rfl⟩
        · have t4 : decide (n ≤ (len : Int) - at_) = false := decide_eq_false h4
          have HB : Hid (tb = false) := HT.out.trans (decide_eq_false fun hh => h4 hh.2.2.2)
          go_enter Tryd.func50, Tryd.ntmps50
          go_wp2
          go_ret
          exact ⟨by rw [HB.out]; rfl, rfl⟩
      · have t2 : decide (at_ ≤ (len : Int)) = false := decide_eq_false h2
        have HB : Hid (tb = false) := HT.out.trans (decide_eq_false fun hh => h2 hh.2.1)
        go_enter Tryd.func50, Tryd.ntmps50
        go_wp2
        go_ret
        exact ⟨by rw [HB.out]; rfl, rfl⟩
    · have t3 : decide (0 ≤ n) = false := decide_eq_false h3
      have HB : Hid (tb = false) := HT.out.trans (decide_eq_false fun hh => h3 hh.2.2.1)
      go_enter Tryd.func50, Tryd.ntmps50
      go_wp2
      go_ret
      exact ⟨by rw [HB.out]; rfl, rfl⟩
  · have t1 : decide (0 ≤ at_) = false := decide_eq_false h1
    have HB : Hid (tb = false) := HT.out.trans (decide_eq_false fun hh => h1 hh.1)
    go_enter Tryd.func50, Tryd.ntmps50
    go_wp2
    go_ret
    exact ⟨by rw [HB.out]; rfl, rfl⟩

/-- a store into the reference device's own block -/
theorem RefIn.put {W : World} {B r : Nat} {sv wv bv : Value} {R R' : RS} (h : RefIn W B r sv wv bv R) (hok : R'.ok) (h1 : R'.safe = R.safe) (h2 : R'.wait = R.wait) (h3 : R'.bad = R.bad) (i : Nat) (u : Value) (hc : (refCells R sv wv bv).setIfInBounds i u = refCells R' sv wv bv) :
    RefIn (W.setCell ⟨r, i, none⟩ u) B r sv wv bv R' ∧ TKeep (· == 95) B W (W.setCell ⟨r, i, none⟩ u) := by
  have hk : TKeep (· == 95) B W (W.setCell ⟨r, i, none⟩ u) := ⟨(Below.refl B W).setCell (p := ⟨r, i, none⟩) h.br u, fun q cs t hb hn => hb.far (fun e => Blk.ne_ hb h.dev (fun e' => by rw [e'] at hn; simp at hn) (by exact e)) u⟩
  refine ⟨⟨hok, h.br, ?_, ?_, ?_, ?_⟩, hk⟩
  · rw [← hc]
    exact h.dev.set_ i u
  · rw [h1]
    exact h.safe.keep hk rfl rfl
  · rw [h2]
    exact h.wait.keep hk rfl rfl
  · rw [h3]
    obtain ⟨A, c, e, hr⟩ := h.bad
    exact ⟨A, c, e, hr.below hk.1⟩
def codeR (R : RS) : Int := if R.n ∈ R.bad then 31 else 0
def stepR (R : RS) : RS := { R with n := R.n + 1 }

set_option maxRecDepth 100000 in
set_option maxHeartbeats 1000000 in
theorem rcall_any (W : World) (B r : Nat) (R : RS) (h : RefAt W B r R) (hn : R.n < 1048576) :
    Calls Tryd.prog 51 #[.pointer (some ⟨r, 0, none⟩)] W fun e W' => e = .returned (.int .i64 (codeR R)) ∧ RefAt W' B r (stepR R) ∧ TKeep (· == 95) B W W' := by
  obtain ⟨sv, wv, bv, h⟩ := h
  obtain ⟨hS1, hS2, hS3, hS4, hS5, hS6, hS7⟩ := h.ok
  have HP := hide (h.put (R' := stepR R) ⟨hS1, hS2, hS3, hS4, hS5, by show 0 ≤ R.n + 1; omega, by show R.n + 1 ≤ _; omega⟩ rfl rfl rfl 2 (.int .i64 (R.n + 1)) rfl)
  obtain ⟨Ab, cb, rfl, hrb⟩ := h.bad
  have r4 := h.cells.2.2.2.2
  have r2 := h.cells.2.2.1
  have f2 := h.dev.frozen 2
  have HRB := hide (hrb.below HP.out.2.1)
  have r3 : (W.setCell ⟨r, 2, none⟩ (.int .i64 (R.n + 1))).cell? ⟨r, 3, none⟩ = some (.slice Ab R.bad.length cb) := HP.out.1.cells.2.2.2.1
  have HCR := hide (show codeR R = if R.n ∈ R.bad then 31 else 0 from rfl)
  have HNW : Hid (∀ y : Int, y = R.n → True) := fun _ _ => trivial
  clear h hrb hS1 hS2 hS3 hS4
  generalize codeR R = cd at *
  go_enter Tryd.func51, Tryd.ntmps51
  go_wp2_with fail
  generalize W.setCell ⟨r, 2, none⟩ (.int .i64 (R.n + 1)) = X at *
  go_loop [4] (fun i => ∃ k : Nat, k ≤ R.bad.length ∧ i = .int .i64 k ∧ R.n ∉ R.bad.take k) (fun i => R.bad.length - (intOf i).toNat)
  case atStart => exact ⟨0, Nat.zero_le _, rfl, by simp⟩
  case round =>
    obtain ⟨k, hk, rfl, hno⟩ := hrel
    have HN := hide hno
    clear hno
    by_cases hlt : k < R.bad.length
    · obtain ⟨ad, u, rfl, hp, hu, q1⟩ := Reads.at_ HRB.out hlt
      rw [ints, List.getElem?_map, List.getElem?_eq_getElem hlt] at hu
      cases hu
      have HT := hide (show R.bad.take (k + 1) = R.bad.take k ++ [R.bad[k]] from List.take_succ_eq_append_getElem hlt)
      have HM := hide (show R.bad[k] ∈ R.bad from List.getElem_mem hlt)
      have i1 : (0 : Int) ≤ (k : Int) := by omega
      have i2 : (k : Int) < (R.bad.length : Int) := by omega
      generalize R.bad[k] = y at *
      by_cases hxy : y = R.n
      · have hb : (y == R.n) = true := by simpa using hxy
        have HX := hide hxy
        clear hxy
        go_wp2
        go_ret
        exact ⟨by rw [HCR.out, if_pos (by rw [← HX.out]; exact HM.out)]; rfl, ⟨sv, wv, _, HP.out.1⟩, HP.out.2⟩
      · have hb : (y == R.n) = false := by simpa using hxy
        have HX := hide hxy
        clear hxy
        go_wp2
        go_round
        case rel => exact ⟨k + 1, by omega, by go_num, by rw [HT.out]; simp only [List.mem_append, List.mem_singleton, not_or]; exact ⟨HN.out, fun e => HX.out e.symm⟩⟩
        case measure => simp [intOf]; omega
    · rw [List.take_of_length_le (by omega)] at HN
      go_wp2
      go_ret
      exact ⟨by rw [HCR.out, if_neg HN.out]; rfl, ⟨sv, wv, _, HP.out.1⟩, HP.out.2⟩
end Go.Proofs.YtenhjnicadjbaaaDoor
