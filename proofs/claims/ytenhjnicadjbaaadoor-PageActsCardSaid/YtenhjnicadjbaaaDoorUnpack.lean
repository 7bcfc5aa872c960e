/-
  The walks of page.Unpack and icehouseref14.Unpack. Conditions: the slice reads as a list of bytes; for page.Unpack the table half reads as the text lays it.
-/
import Derived.Test.YtenhjnicadjbaaaDoorRefPack
import Derived.Test.YtenhjnicadjbaaaDoorCrcBurst
namespace Go.Proofs.YtenhjnicadjbaaaDoor
open Go Go.RowKit

theorem nz_any (b : UInt8) (w : World) : Calls Tryd.prog 49 #[.int .u8 (b.toNat : Int)] w fun e w' => e = .returned (.bool (b != 0)) ∧ w = w' := by
  have hb : ((b.toNat : Int) != 0) = (b != 0) := by
    by_cases h : b = 0
    · subst h
      rfl
    · have : ¬ (b.toNat : Int) = 0 := fun e => h (UInt8.toNat_inj.1 (by simpa using e))
      rw [bne_iff_ne.2 h, bne_iff_ne.2 this]
  go_enter Tryd.func49, Tryd.ntmps49
  go_wp2
  go_ret
  exact ⟨rfl, rfl⟩

def IndexPost (l : List UInt8) (w : World) (e : Ending) (w' : World) : Prop :=
  w = w' ∧ ∃ i : Int, e = .returned (.int .i64 i) ∧ decide (0 ≤ i) = l.any (· != 0)

set_option maxRecDepth 100000 in
set_option maxHeartbeats 400000 in
theorem index_any (l : List UInt8) (A : Option Addr) (n c B : Nat) (w : World) (hn : n = l.length) (hl : l.length ≤ 1099511627776) (hA : BytesAt w B A l) :
    Calls Tryd.prog 62 #[.slice A n c, .func (.func 49) #[] #[]] w (IndexPost l w) := by
  subst hn
  unfold IndexPost
  go_enter Tryd.func62, Tryd.ntmps62
  go_wp2
  go_loop [8] (fun i => ∃ k : Nat, k ≤ l.length ∧ i = .int .i64 k ∧ (l.take k).any (· != 0) = false) (fun i => l.length - (intOf i).toNat)
  case atStart => exact ⟨0, Nat.zero_le _, rfl, rfl⟩
  case round =>
    obtain ⟨k, hk, rfl, hno⟩ := hrel
    have HN := hide hno
    clear hno
    by_cases hlt : k < l.length
    · obtain ⟨ad, rfl, hp, q1⟩ := BytesAt.at_ hA hlt
      have HT := hide (take_snoc l k hlt)
      have HM := hide (show l[k] ∈ l from List.getElem_mem hlt)
      have HNZ := hide (fun W => nz_any l[k] W)
      have i1 : (0 : Int) ≤ (k : Int) := by omega
      have i2 : (k : Int) < (l.length : Int) := by omega
      generalize l[k] = x at *
      go_wp2_with fail
      refine (unhide HNZ _).mono ?_
      rintro e w' ⟨rfl, rfl⟩
      cases hx : (x != 0) with
      | true =>
        have HX := hide hx
        clear hx
        go_wp2
        go_ret
        refine ⟨rfl, (k : Int), rfl, ?_⟩
        rw [decide_eq_true (by omega : (0 : Int) ≤ (k : Int))]
        exact (List.any_eq_true.2 ⟨x, HM.out, HX.out⟩).symm
      | false =>
        have HX := hide hx
        clear hx
        go_wp2
        go_round
        case rel => exact ⟨k + 1, by omega, by go_num, by rw [HT.out, List.any_append, HN.out]; simp [HX.out]⟩
        case measure => simp [intOf]; omega
    · rw [List.take_of_length_le (by omega)] at HN
      go_wp2
      go_ret
      exact ⟨rfl, -1, rfl, by rw [HN.out]; rfl⟩

set_option maxRecDepth 100000 in
set_option maxHeartbeats 400000 in
theorem contains_any (l : List UInt8) (A : Option Addr) (n c B : Nat) (w : World) (hn : n = l.length) (hl : l.length ≤ 1099511627776) (hA : BytesAt w B A l) :
    Calls Tryd.prog 48 #[.slice A n c, .func (.func 49) #[] #[]] w fun e w' => e = .returned (.bool (l.any (· != 0))) ∧ w = w' := by
  subst hn
  have HI := hide (index_any l A l.length c B w rfl hl hA)
  go_enter Tryd.func48, Tryd.ntmps48
  go_wp2_with fail
  refine (unhide HI).mono ?_
  rintro e w' ⟨rfl, i, rfl, hi⟩
  go_wp2
  go_ret
  exact ⟨rfl, rfl⟩

theorem framed_eq' (l : List UInt8) (k : Nat) (h : l.length = k + 4) : framed l = decide (frameL (l.take k) = l) := by
  unfold framed
  rw [show l.length - 4 = k from by omega]
  by_cases hd : l.drop k = le4 (crcN (l.take k))
  · rw [decide_eq_true hd, decide_eq_true]
    unfold frameL
    rw [← hd, List.take_append_drop]
  · rw [decide_eq_false hd, decide_eq_false]
    intro e
    apply hd
    have := congrArg (List.drop k) e
    rw [← this]
    unfold frameL
    rw [List.drop_append_of_le_length (by rw [List.length_take]; omega), List.drop_take]
    simp
def bodyN (b : List UInt8) : Nat := 256 * (b.getD 1 0).toNat + (b.getD 2 0).toNat
def bodyK (b : List UInt8) : Nat := (b.getD 0 0).toNat
def bodyL (b : List UInt8) : List UInt8 := (b.drop 3).take (bodyN b)
def isPage (b : List UInt8) : Bool := decide (b.length = 512) && (decide (bodyN b ≤ 505) && (decide (1 ≤ bodyK b) && decide (pageL (bodyK b) (bodyL b) = b)))

def UnpackOwn (b : List UInt8) (w : World) (e : Ending) (w' : World) : Prop :=
  ∃ A n c kk code, e = .returned (.tuple #[.int .i64 kk, .slice A n c, .int .i64 code]) ∧ Below w.heap.size w w' ∧
    ((isPage b = true ∧ kk = (bodyK b : Int) ∧ code = 0 ∧ n = (bodyL b).length ∧ n ≤ c ∧ BytesAt w' w'.heap.size A (bodyL b) ∧ w'.ownsRow 0 5 1 (.slice A n c) n (byts (bodyL b))) ∨
     (isPage b = false ∧ kk = 0 ∧ code = 33 ∧ n = 0 ∧ c = 0 ∧ A = none))
def UnpackPost (b : List UInt8) (w : World) (e : Ending) (w' : World) : Prop :=
  ∃ A n c kk code, e = .returned (.tuple #[.int .i64 kk, .slice A n c, .int .i64 code]) ∧ Below w.heap.size w w' ∧
    ((isPage b = true ∧ kk = (bodyK b : Int) ∧ code = 0 ∧ n = (bodyL b).length ∧ n ≤ c ∧ BytesAt w' w'.heap.size A (bodyL b)) ∨
     (isPage b = false ∧ kk = 0 ∧ code = 33 ∧ n = 0 ∧ c = 0 ∧ A = none))

theorem isPage_framed {b : List UInt8} (h : framed b = false) : isPage b = false := by
  unfold isPage
  cases hp : decide (pageL (bodyK b) (bodyL b) = b) with
  | false => simp
  | true =>
    exfalso
    have := of_decide_eq_true hp
    rw [← this] at h
    unfold pageL at h
    rw [framed_frame] at h
    cases h
theorem isPage_len {b : List UInt8} (h : b.length ≠ 512) : isPage b = false := by
  unfold isPage
  rw [decide_eq_false h]
  rfl
/-- a framed 512: what page.Unpack looks at -/
theorem isPage_iff {b : List UInt8} (h : framed b = true) (hl : b.length = 512) (hn : bodyN b ≤ 505) (hk : 1 ≤ bodyK b) : isPage b = !((b.take 508).drop (3 + bodyN b)).any (· != 0) := by
  unfold isPage
  rw [decide_eq_true hl, decide_eq_true hn, decide_eq_true hk, Bool.true_and, Bool.true_and, Bool.true_and]
  have hf : frameL (b.take 508) = b := by
    have := framed_eq' b 508 (by omega)
    rw [h] at this
    exact of_decide_eq_true this.symm
  have hlen : (bodyL b).length = bodyN b := by unfold bodyL; rw [List.length_take, List.length_drop]; omega
  have hkk : bodyK b < 256 := (b.getD 0 0).toNat_lt
  have e0 : pageL (bodyK b) (bodyL b) = b ↔ pageB (bodyK b) (bodyL b) = b.take 508 := by
    constructor
    · intro e
      refine frameL_inj (by rw [pageB_len _ (by omega), List.length_take]; omega) (e.trans hf.symm)
    · intro e
      unfold pageL
      rw [e, hf]
  match b, hl with
  | x0 :: x1 :: x2 :: rest, hl =>
    have hr : rest.length = 509 := by simpa using hl
    have hx1 : x1.toNat < 256 := x1.toNat_lt
    have hx2 : x2.toNat < 256 := x2.toNat_lt
    have hbN : bodyN (x0 :: x1 :: x2 :: rest) = 256 * x1.toNat + x2.toNat := rfl
    have hbK : bodyK (x0 :: x1 :: x2 :: rest) = x0.toNat := rfl
    have hbL : bodyL (x0 :: x1 :: x2 :: rest) = rest.take (256 * x1.toNat + x2.toNat) := rfl
    have ht : (x0 :: x1 :: x2 :: rest).take 508 = x0 :: x1 :: x2 :: rest.take 505 := rfl
    simp only [hbN, hbK, hbL, ht] at e0 hlen hn hk ⊢
    clear hbN hbK hbL ht
    generalize hN : 256 * x1.toNat + x2.toNat = N at *
    rw [show 3 + N = N + 1 + 1 + 1 by omega, List.drop_succ_cons, List.drop_succ_cons, List.drop_succ_cons]
    have e1 : pageB x0.toNat (rest.take N) = x0 :: x1 :: x2 :: rest.take 505 ↔ (rest.take 505).drop N = List.replicate (505 - N) 0 := by
      unfold pageB
      rw [hlen]
      simp only [List.cons_append, List.nil_append]
      have a1 : UInt8.ofNat x0.toNat = x0 := by simp
      have a2 : UInt8.ofNat (N / 256) = x1 := by rw [show N / 256 = x1.toNat by omega]; simp
      have a3 : UInt8.ofNat N = x2 := by
        apply UInt8.toNat_inj.1
        rw [UInt8.toNat_ofNat']
        omega
      rw [a1, a2, a3]
      simp only [List.cons.injEq, true_and]
      have sp : rest.take 505 = rest.take N ++ (rest.take 505).drop N := by
        conv => lhs; rw [← List.take_append_drop N (rest.take 505), List.take_take, Nat.min_eq_left hn]
      constructor
      · intro e
        rw [sp] at e
        exact (List.append_cancel_left e).symm
      · intro e
        conv => rhs; rw [sp, e]
    rw [Bool.eq_iff_iff, decide_eq_true_eq, e0, e1]
    have hdl : ((rest.take 505).drop N).length = 505 - N := by rw [List.length_drop, List.length_take]; omega
    generalize (rest.take 505).drop N = d at *
    rw [← hdl, Bool.not_eq_true', List.any_eq_false]
    constructor
    · intro e x hx
      rw [e] at hx
      rw [(List.mem_replicate.1 hx).2]
      decide
    · intro e
      refine List.eq_replicate_iff.2 ⟨rfl, fun x hx => ?_⟩
      simpa using e x hx
end Go.Proofs.YtenhjnicadjbaaaDoor
