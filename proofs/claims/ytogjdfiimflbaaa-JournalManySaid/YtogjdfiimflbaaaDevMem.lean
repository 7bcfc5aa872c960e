/-
  A device in memory: its block, its sectors' two blocks, its queue's row; what its methods keep. No condition.
-/
import Derived.Test.YtogjdfiimflbaaaBase
import Derived.Deep.MidRow
import Derived.Laws.CopyRow
import Derived.Deep.WholeRow
namespace Go.Proofs.Ytogjdfiimflbaaa
open Go Go.RowKit

structure DS where
  n : Int
  bad : List Int
  left : Int
  kept : List (List UInt8)
  now : List (List UInt8)
  q : List (Nat × List UInt8)

def wcell (e : Nat × List UInt8) : List Value := .int .i64 (e.1 : Int) :: byts e.2
def qcells (q : List (Nat × List UInt8)) : List Value := (q.map wcell).flatten
def All64 (K : List (List UInt8)) : Prop := ∀ s ∈ K, s.length = 64
def ints (l : List Int) : List Value := l.map (Value.int .i64)

/-- the shape of a state -/
def DS.ok (S : DS) : Prop := S.now.length = S.kept.length ∧ All64 S.kept ∧ All64 S.now ∧ (∀ e ∈ S.q, e.1 < S.kept.length ∧ e.2.length = 64) ∧ S.kept.length ≤ 65536 ∧ S.q.length ≤ 1048576 ∧ S.bad.length ≤ 1048576 ∧ 0 ≤ S.n ∧ S.n ≤ 1048576 ∧ -2 ≤ S.left ∧ S.left ≤ 1099511627776

def devCells (S : DS) (gk gn : Nat) (bv qv : Value) : Array Value :=
  #[.int .i64 S.n, bv, .int .i64 S.left, .slice (some ⟨gk, 0, none⟩) S.kept.length S.kept.length, .slice (some ⟨gn, 0, none⟩) S.kept.length S.kept.length, qv]

structure DevIn (W : World) (B g gk gn : Nat) (bv qv : Value) (S : DS) : Prop where
  ok : S.ok
  bg : B ≤ g
  bk : B ≤ gk
  bn : B ≤ gn
  ne : gk ≠ gn
  dev : Blk W g 54 (devCells S gk gn bv qv)
  kept : Blk W gk 77 (byts S.kept.flatten).toArray
  now : Blk W gn 77 (byts S.now.flatten).toArray
  bad : W.ownsRow B 3 1 bv S.bad.length (ints S.bad)
  queue : W.ownsRow B 79 65 qv S.q.length (qcells S.q)

def DevAt (W : World) (B g : Nat) (S : DS) : Prop := ∃ gk gn bv qv, DevIn W B g gk gn bv qv S

/-- what a device's methods keep: all below B; every block that is none of a device's -/
def DKeep (B : Nat) (W W' : World) : Prop := Below B W W' ∧ ∀ q cs t, Blk W q t cs → t ≠ 54 → t ≠ 77 → t ≠ 79 → Blk W' q t cs
theorem DKeep.refl (B : Nat) (W : World) : DKeep B W W := ⟨Below.refl _ _, fun _ _ _ h _ _ _ => h⟩
theorem DKeep.trans {B : Nat} {X Y Z : World} (h : DKeep B X Y) (k : DKeep B Y Z) : DKeep B X Z := ⟨h.1.trans k.1, fun q cs t hb h1 h2 h3 => k.2 q cs t (h.2 q cs t hb h1 h2 h3) h1 h2 h3⟩
theorem DKeep.of_below {B : Nat} {X Y : World} (h : Below X.heap.size X Y) (hB : B ≤ X.heap.size) : DKeep B X Y := ⟨h.mono hB, fun _ _ _ hb _ _ _ => hb.below h hb.lt⟩

theorem DevIn.lift {W W' : World} {B g gk gn : Nat} {bv qv : Value} {S : DS} (h : DevIn W B g gk gn bv qv S) (hb : Below W.heap.size W W') : DevIn W' B g gk gn bv qv S :=
  ⟨h.ok, h.bg, h.bk, h.bn, h.ne, h.dev.below hb h.dev.lt, h.kept.below hb h.kept.lt, h.now.below hb h.now.lt, own_keep h.bad hb, own_keep h.queue hb⟩
theorem DevAt.lift {W W' : World} {B g : Nat} {S : DS} (h : DevAt W B g S) (hb : Below W.heap.size W W') : DevAt W' B g S :=
  let ⟨gk, gn, bv, qv, h⟩ := h
  ⟨gk, gn, bv, qv, h.lift hb⟩
theorem DevAt.ok {W : World} {B g : Nat} {S : DS} (h : DevAt W B g S) : S.ok := let ⟨_, _, _, _, h⟩ := h; h.ok
theorem DevIn.bad_form {W : World} {B g gk gn : Nat} {bv qv : Value} {S : DS} (h : DevIn W B g gk gn bv qv S) : ∃ A c, bv = .slice A S.bad.length c ∧ Reads W W.heap.size 1 A S.bad.length (ints S.bad) := by
  rcases h.bad.2 with ⟨e, h0⟩ | ⟨g, cap, cur, e, _⟩
  · exact ⟨none, 0, by rw [e, h0], by rw [h0]; have := List.eq_nil_of_length_eq_zero h0; rw [this]; exact Reads.none_⟩
  · refine ⟨_, cap, e, ?_⟩
    have := h.bad
    rw [e] at this
    exact Reads.of_own this
theorem DevIn.queue_form {W : World} {B g gk gn : Nat} {bv qv : Value} {S : DS} (h : DevIn W B g gk gn bv qv S) : ∃ A c, qv = .slice A S.q.length c ∧ Reads W W.heap.size 65 A S.q.length (qcells S.q) := by
  rcases h.queue.2 with ⟨e, h0⟩ | ⟨g, cap, cur, e, _⟩
  · exact ⟨none, 0, by rw [e, h0], by rw [h0]; have := List.eq_nil_of_length_eq_zero h0; rw [this]; exact ⟨by simp [qcells], fun h => absurd h (by omega)⟩⟩
  · refine ⟨_, cap, e, ?_⟩
    have := h.queue
    rw [e] at this
    exact Reads.of_own this

set_option maxRecDepth 100000 in
set_option maxHeartbeats 400000 in
theorem index_int (l : List Int) (A : Option Addr) (n c B : Nat) (x : Int) (w : World) (hn : n = l.length) (hl : l.length ≤ 1099511627776) (hA : Reads w B 1 A n (ints l)) :
    Calls Try.prog 52 #[.slice A n c, .int .i64 x] w fun e w' => w = w' ∧ ∃ i : Int, e = .returned (.int .i64 i) ∧ decide (0 ≤ i) = decide (x ∈ l) := by
  subst hn
  go_enter Try.func52, Try.ntmps52
  go_wp2
  go_loop [8] (fun i => ∃ k : Nat, k ≤ l.length ∧ i = .int .i64 k ∧ x ∉ l.take k) (fun i => l.length - (intOf i).toNat)
  case atStart => exact ⟨0, Nat.zero_le _, rfl, by simp⟩
  case round =>
    obtain ⟨k, hk, rfl, hno⟩ := hrel
    have HN := hide hno
    clear hno
    by_cases hlt : k < l.length
    · obtain ⟨ad, u, rfl, hp, hu, q1⟩ := Reads.at_ hA hlt
      rw [ints, List.getElem?_map, List.getElem?_eq_getElem hlt] at hu
      cases hu
      have HT := hide (show l.take (k + 1) = l.take k ++ [l[k]] from List.take_succ_eq_append_getElem hlt)
      have HM := hide (show l[k] ∈ l from List.getElem_mem hlt)
      have i1 : (0 : Int) ≤ (k : Int) := by omega
      have i2 : (k : Int) < (l.length : Int) := by omega
      generalize l[k] = y at *
      by_cases hxy : x = y
      · subst hxy
        have hb : (x == x) = true := by simp
        go_wp2
        go_ret
        exact ⟨rfl, (k : Int), rfl, iff_of_true (by omega) HM.out⟩
      · have hb : (x == y) = false := by simpa using hxy
        have HX := hide hxy
        clear hxy
        go_wp2
        go_round
        case rel => exact ⟨k + 1, by omega, by go_num, by rw [HT.out]; simp only [List.mem_append, List.mem_singleton, not_or]; exact ⟨HN.out, HX.out⟩⟩
        case measure => simp [intOf]; omega
    · rw [List.take_of_length_le (by omega)] at HN
      go_wp2
      go_ret
      exact ⟨rfl, -1, rfl, iff_of_false (by decide) HN.out⟩

set_option maxRecDepth 100000 in
set_option maxHeartbeats 400000 in
theorem contains_int (l : List Int) (A : Option Addr) (n c B : Nat) (x : Int) (w : World) (hn : n = l.length) (hl : l.length ≤ 1099511627776) (hA : Reads w B 1 A n (ints l)) :
    Calls Try.prog 48 #[.slice A n c, .int .i64 x] w fun e w' => e = .returned (.bool (decide (x ∈ l))) ∧ w = w' := by
  subst hn
  have HI := hide (index_int l A l.length c B x w rfl hl hA)
  go_enter Try.func48, Try.ntmps48
  go_wp2_with fail
  refine (unhide HI).mono ?_
  rintro e w' ⟨rfl, i, rfl, hi⟩
  go_wp2
  go_ret
  exact ⟨rfl, rfl⟩

/- calls are counted -/
def codeN (S : DS) : Int := if S.left = 0 then 32 else if S.n ∈ S.bad then 31 else 0
def stepN (S : DS) : DS := if S.left = 0 then S else { S with n := S.n + 1, left := max (S.left - 1) (-1) }

/-- a store into the device's own block -/
theorem DevIn.put {W : World} {B g gk gn : Nat} {bv qv : Value} {S S' : DS} (h : DevIn W B g gk gn bv qv S) (hok : S'.ok) (hk : S'.kept = S.kept) (hw : S'.now = S.now) (hb : S'.bad = S.bad) (hq : S'.q = S.q) (i : Nat) (u : Value) (hc : (devCells S gk gn bv qv).setIfInBounds i u = devCells S' gk gn bv qv) :
    DevIn (W.setCell ⟨g, i, none⟩ u) B g gk gn bv qv S' ∧ DKeep B W (W.setCell ⟨g, i, none⟩ u) := by
  have h1 : ∀ q cs t, Blk W q t cs → t ≠ 54 → Blk (W.setCell ⟨g, i, none⟩ u) q t cs := fun q cs t hb ht => hb.far (fun e => Blk.ne_ hb h.dev ht (by exact e)) u
  have h2 : ∀ {e : TypeId} {s n : Nat} {v : Value} {xs : List Value}, W.ownsRow B e s v n xs → e ≠ 54 → (W.setCell ⟨g, i, none⟩ u).ownsRow B e s v n xs := fun ho he =>
    ho.kept (only_setCell (World.grownBy.refl W (some g)) (.inl rfl) u) (.inr (own_blk_ne ho h.dev he))
  refine ⟨⟨hok, h.bg, h.bk, h.bn, h.ne, ?_, ?_, ?_, ?_, ?_⟩, (Below.refl B W).setCell (p := ⟨g, i, none⟩) h.bg u, fun q cs t hb ht _ _ => h1 q cs t hb ht⟩
  · rw [← hc]
    exact h.dev.set_ i u
  · rw [hk]
    exact h1 _ _ _ h.kept (by decide)
  · rw [hw]
    exact h1 _ _ _ h.now (by decide)
  · rw [hb]
    exact h2 h.bad (by decide)
  · rw [hq]
    exact h2 h.queue (by decide)

set_option maxRecDepth 100000 in
set_option maxHeartbeats 1000000 in
theorem next_any (W : World) (B g : Nat) (S : DS) (h : DevAt W B g S) (hn : S.n < 1048576) (hl : -1 ≤ S.left) :
    Calls Try.prog 36 #[.pointer (some ⟨g, 0, none⟩)] W fun e W' => e = .returned (.int .i64 (codeN S)) ∧ DevAt W' B g (stepN S) ∧ DKeep B W W' := by
  obtain ⟨gk, gn, bv, qv, h⟩ := h
  obtain ⟨Ab, cb, rfl, hrb⟩ := h.bad_form
  have H := hide h
  have r0 : W.cell? ⟨g, 0, none⟩ = some (.int .i64 S.n) := h.dev.cell 0
  have r1 : W.cell? ⟨g, 1, none⟩ = some (.slice Ab S.bad.length cb) := h.dev.cell 1
  have r2 : W.cell? ⟨g, 2, none⟩ = some (.int .i64 S.left) := h.dev.cell 2
  have f0 := h.dev.frozen 0
  have f2 := h.dev.frozen 2
  obtain ⟨hS1, hS2, hS3, hS4, hS5, hS6, hS7, hS8, hS9, hS10, hS11⟩ := h.ok
  by_cases h0 : S.left = 0
  · rw [h0] at r2
    have hc : codeN S = 32 := if_pos h0
    have hs : stepN S = S := if_pos h0
    rw [hc, hs]
    clear hS1 hS2 hS3 hS4 hS5 hS6
    go_enter Try.func36, Try.ntmps36
    go_wp2
    go_ret
    exact ⟨rfl, ⟨gk, gn, _, qv, H.out⟩, DKeep.refl _ _⟩
  · have t0 : (S.left == 0) = false := by simpa using h0
    have hstep : ∀ m : Int, m = max (S.left - 1) (-1) → ∃ W', W' = ((W.setCell ⟨g, 2, none⟩ (.int .i64 (S.left - 1))).setCell ⟨g, 2, none⟩ (.int .i64 m)).setCell ⟨g, 0, none⟩ (.int .i64 (S.n + 1)) ∧ DevIn W' B g gk gn (.slice Ab S.bad.length cb) qv (stepN S) ∧ DKeep B W W' := fun m hm => by
      obtain ⟨a1, b1⟩ := H.out.put (S' := { S with left := S.left - 1 }) ⟨hS1, hS2, hS3, hS4, hS5, hS6, hS7, hS8, hS9, by show -2 ≤ S.left - 1; omega, by show S.left - 1 ≤ _; omega⟩ rfl rfl rfl rfl 2 (.int .i64 (S.left - 1)) rfl
      obtain ⟨a2, b2⟩ := a1.put (S' := { S with left := m }) ⟨hS1, hS2, hS3, hS4, hS5, hS6, hS7, hS8, hS9, by show -2 ≤ m; omega, by show m ≤ _; omega⟩ rfl rfl rfl rfl 2 (.int .i64 m) rfl
      obtain ⟨a3, b3⟩ := a2.put (S' := { S with n := S.n + 1, left := m }) ⟨hS1, hS2, hS3, hS4, hS5, hS6, hS7, by show 0 ≤ S.n + 1; omega, by show S.n + 1 ≤ _; omega, by show -2 ≤ m; omega, by show m ≤ _; omega⟩ rfl rfl rfl rfl 0 (.int .i64 (S.n + 1)) rfl
      have e : stepN S = { S with n := S.n + 1, left := m } := by unfold stepN; rw [if_neg h0, hm]
      rw [e]
      exact ⟨_, rfl, a3, (b1.trans b2).trans b3⟩
    have HST := hide hstep
    obtain ⟨bm, hbm, hcd⟩ : ∃ b, decide (S.n ∈ S.bad) = b ∧ codeN S = if b = true then 31 else 0 := ⟨_, rfl, by unfold codeN; rw [if_neg h0]; simp⟩
    rw [hcd]
    have HCON := hide (fun W' (h' : DevIn W' B g gk gn (.slice Ab S.bad.length cb) qv (stepN S)) => contains_int S.bad Ab S.bad.length cb W'.heap.size S.n W' rfl (by omega) (by
      have hb := h'.bad
      have e : (stepN S).bad = S.bad := by unfold stepN; split <;> rfl
      rw [e] at hb
      rcases Nat.eq_zero_or_pos S.bad.length with hz | hz
      · rw [hz]
        rw [List.eq_nil_of_length_eq_zero hz]
        exact Reads.none_
      · exact Reads.of_own hb))
    rw [hbm] at HCON
    clear hS1 hS2 hS3 hS4 hS5 hS6 hstep h hrb H hbm hcd
    cases bm
    all_goals
      go_enter Try.func36, Try.ntmps36
      go_wp2_with fail
    all_goals
      first
      | (obtain ⟨W', hW', hD, hK⟩ := HST.out (-1) (by omega); rw [← hW'])
      | (obtain ⟨W', hW', hD, hK⟩ := HST.out (S.left - 1) (by omega); rw [← hW'])
      have HD := hide hD
      have HK := hide hK
      refine (unhide HCON W' hD).mono ?_
      clear hW' hD hK HST HCON
      rintro e w' ⟨rfl, rfl⟩
      go_wp2
      go_ret
      exact ⟨rfl, ⟨gk, gn, _, qv, HD.out⟩, HK.out⟩
end Go.Proofs.Ytogjdfiimflbaaa
