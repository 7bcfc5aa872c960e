/-
  The device as the journal uses it: its content, behind calls none of which fails. Conditions: each theorem's own.
-/
import Derived.Test.YtogjdfiimflbaaaJrMark
namespace Go.Proofs.Ytogjdfiimflbaaa
open Go Go.RowKit

/-- sectors written -/
def wsec : List (List UInt8) → Nat → List (List UInt8) → List (List UInt8)
  | N, _, [] => N
  | N, a, s :: r => wsec (N.set a s) (a + 1) r
theorem wsec_len : ∀ (l : List (List UInt8)) (N : List (List UInt8)) (a : Nat), (wsec N a l).length = N.length
  | [], _, _ => rfl
  | s :: r, N, a => by rw [wsec, wsec_len r, List.length_set]
theorem wsec_get : ∀ (l : List (List UInt8)) (N : List (List UInt8)) (a i : Nat), a + l.length ≤ N.length → (wsec N a l)[i]? = if a ≤ i ∧ i < a + l.length then l[i - a]? else N[i]?
  | [], N, a, i, _ => by rw [wsec, if_neg (fun h => by have h1 := h.1; have h2 := h.2; rw [List.length_nil] at h2; omega)]
  | s :: r, N, a, i, h => by
    rw [List.length_cons] at h
    rw [wsec, wsec_get r _ (a + 1) i (by rw [List.length_set]; omega), List.length_cons]
    by_cases hi : i = a
    · subst hi
      rw [if_neg (by omega), if_pos (by omega), Nat.sub_self, List.getElem?_cons_zero, List.getElem?_set_self (by omega)]
    · by_cases hlt : a < i ∧ i < a + (r.length + 1)
      · rw [if_pos (by omega), if_pos (by omega), show i - a = (i - (a + 1)) + 1 by omega, List.getElem?_cons_succ]
      · rw [if_neg (by omega), if_neg (by omega), List.getElem?_set_ne (by omega)]
theorem all64_set {N : List (List UInt8)} (h : All64 N) (a : Nat) {s : List UInt8} (hs : s.length = 64) : All64 (N.set a s) := fun x hx => by
  rcases List.mem_or_eq_of_mem_set hx with h1 | h1
  · exact h x h1
  · rw [h1]; exact hs
theorem wsec_64 : ∀ (l : List (List UInt8)) (N : List (List UInt8)) (a : Nat), All64 N → All64 l → All64 (wsec N a l)
  | [], _, _, h, _ => h
  | s :: r, N, a, h, hl => wsec_64 r _ _ (all64_set h a (hl s List.mem_cons_self)) (fun x hx => hl x (List.mem_cons_of_mem _ hx))
theorem writeS_now : ∀ (l : List (List UInt8)) (S : DS) (a : Nat), (writeS S a l).now = wsec S.now a l
  | [], _, _ => rfl
  | s :: r, S, a => by rw [writeS, writeS_now r, wsec]; rfl
/-- the queue holds where the kept sectors are not the latest -/
def Cov (S : DS) : Prop := ∀ i, (∀ e ∈ S.q, e.1 ≠ i) → S.kept[i]? = S.now[i]?
theorem cov_write : ∀ (l : List (List UInt8)) (S : DS) (a : Nat), Cov S → Cov (writeS S a l)
  | [], _, _, h => h
  | s :: r, S, a, h => cov_write r _ _ (fun i hi => by
    have h1 := h i (fun e he => hi e (List.mem_append_left _ he))
    have h2 : a ≠ i := hi (a, s) (List.mem_append_right _ List.mem_cons_self)
    show S.kept[i]? = (S.now.set a s)[i]?
    rw [h1, List.getElem?_set_ne h2])
theorem settle_get (N : List (List UInt8)) (i : Nat) : ∀ (q : List (Nat × List UInt8)) (K : List (List UInt8)), K.length = N.length → (∀ e ∈ q, e.1 < N.length) → ((∀ e ∈ q, e.1 ≠ i) → K[i]? = N[i]?) → (settleK K N q)[i]? = N[i]?
  | [], K, _, _, h => h (fun _ he => absurd he List.not_mem_nil)
  | e :: r, K, hl, hq, h => by
    have he := hq e List.mem_cons_self
    rw [settleK]
    refine settle_get N i r _ (by rw [List.length_set]; exact hl) (fun x hx => hq x (List.mem_cons_of_mem _ hx)) (fun hr => ?_)
    by_cases hi : e.1 = i
    · subst hi
      rw [List.getElem?_set_self (by omega), List.getD_eq_getElem?_getD, List.getElem?_eq_getElem he]
      rfl
    · rw [List.getElem?_set_ne hi]
      exact h (fun x hx => by
        rcases List.mem_cons.1 hx with rfl | h1
        · exact hi
        · exact hr x h1)
/-- a device that no call fails: its content N, at most c calls since the count began, at most m writes that wait -/
def DevC (W : World) (B g c : Nat) (N : List (List UInt8)) (m : Nat) : Prop := ∃ S, DevAt W B g S ∧ Calm S ∧ S.n ≤ (c : Int) ∧ S.now = N ∧ S.q.length ≤ m ∧ Cov S
section
variable {W W' : World} {B g c c' m : Nat} {N : List (List UInt8)}
theorem DevC.lift (h : DevC W B g c N m) (hb : Below W.heap.size W W') : DevC W' B g c N m := by
  obtain ⟨S, h1, h2⟩ := h
  exact ⟨S, h1.lift hb, h2⟩
theorem DevC.more (h : DevC W B g c N m) (hc : c ≤ c') : DevC W B g c' N m := by
  obtain ⟨S, h1, h2, h3, h4⟩ := h
  exact ⟨S, h1, h2, by omega, h4⟩
theorem DevC.far (h : DevC W B g c N m) {q i : Nat} {t : TypeId} {cs : Array Value} (hb : Blk W q t cs) (h1 : t ≠ 54) (h2 : t ≠ 77) (h3 : t ≠ 79) (h4 : t ≠ 3) (u : Value) : DevC (W.setCell ⟨q, i, none⟩ u) B g c N m := by
  obtain ⟨S, k1, k2⟩ := h
  exact ⟨S, k1.far hb h1 h2 h3 h4 u, k2⟩
theorem DevC.all (h : DevC W B g c N m) : All64 N ∧ N.length ≤ 65536 := by
  obtain ⟨S, h1, _, _, rfl, _⟩ := h
  have := h1.ok
  exact ⟨this.2.2.1, by have := this.1; have := h1.ok.2.2.2.2.1; omega⟩
theorem DevC.size_any (h : DevC W B g c N m) : Calls Try.prog 37 #[.pointer (some ⟨g, 0, none⟩)] W fun e W' => e = .returned (.int .i64 (N.length : Int)) ∧ W' = W := by
  obtain ⟨S, ⟨gk, gn, bv, qv, h⟩, _, _, rfl, _⟩ := h
  have r3 : W.cell? ⟨g, 3, none⟩ = some (.slice (some ⟨gk, 0, none⟩) S.kept.length S.kept.length) := h.dev.cell 3
  have hl := h.ok.1
  rw [hl]
  clear h hl
  go_enter Try.func37, Try.ntmps37
  go_wp2
  go_ret
  exact ⟨rfl, rfl⟩
theorem DevC.write (h : DevC W B g c N m) (hc : c < 1048576) {a : Nat} {ls : List (List UInt8)} {A : Option Addr} {n k : Nat} (hn : n = ls.length) (ha : a + ls.length ≤ N.length) (hq : m + ls.length ≤ 1048576) (h64 : All64 ls) (hA : RowsBlk W A ls) :
    Calls Try.prog 38 #[.pointer (some ⟨g, 0, none⟩), .int .i64 (a : Int), .slice A n k] W fun e W' => e = .returned (.int .i64 0) ∧ DevC W' B g (c + 1) (wsec N a ls) (m + ls.length) ∧ DKeep B W W' := by
  obtain ⟨S, h1, h2, h3, rfl, h5, h6⟩ := h
  have hl := h1.ok.1
  refine (write_calm W B g S h1 h2 (by omega) a ls A n k hn (by omega) (by omega) h64 hA).mono ?_
  rintro e W' ⟨rfl, hd, hk⟩
  obtain ⟨_, w2, w3, w4, w5, _⟩ := writeS_kept ls (tick S) a
  refine ⟨rfl, ⟨_, hd, ⟨w3.trans h2.1, w4.trans h2.2⟩, ?_, writeS_now _ _ _, ?_, cov_write _ _ _ h6⟩, hk⟩
  · rw [w2]
    show S.n + 1 ≤ _
    omega
  · rw [w5]
    show S.q.length + ls.length ≤ _
    omega
theorem DevC.flush (h : DevC W B g c N m) (hc : c < 1048576) :
    Calls Try.prog 21 #[.pointer (some ⟨g, 0, none⟩)] W fun e W' => e = .returned (.int .i64 0) ∧ DevC W' B g (c + 1) N 0 ∧ DKeep B W W' := by
  obtain ⟨S, h1, h2, h3, rfl, h5, h6⟩ := h
  have hok := h1.ok
  refine (flush_calm W B g S h1 h2 (by omega)).mono ?_
  rintro e W' ⟨rfl, hd, hk⟩
  refine ⟨rfl, ⟨_, hd, h2, ?_, rfl, Nat.le_refl _, fun i _ => ?_⟩, hk⟩
  · show S.n + 1 ≤ _
    omega
  · exact settle_get S.now i S.q S.kept hok.1.symm (fun e he => by have := (hok.2.2.2.1 e he).1; have := hok.1; omega) (h6 i)
theorem DevC.read (h : DevC W B g c N m) (hc : c < 1048576) (a n : Nat) (ha : a + n ≤ N.length) :
    Calls Try.prog 12 #[.pointer (some ⟨g, 0, none⟩), .int .i64 (a : Int), .int .i64 (n : Int)] W fun e W' => ∃ A k, e = .returned (.tuple #[.slice A n k, .int .i64 0]) ∧ RowsBlk W' A ((N.drop a).take n) ∧ DevC W' B g (c + 1) N m ∧ DKeep B W W' := by
  obtain ⟨S, h1, h2, h3, rfl, h5, h6⟩ := h
  have hl := h1.ok.1
  refine (read_calm W B g S h1 h2 (by omega) a n (by omega)).mono ?_
  rintro e W' ⟨A, k, rfl, hr, hd, hk⟩
  refine ⟨A, k, rfl, hr, ⟨_, hd, h2, ?_, rfl, h5, h6⟩, hk⟩
  show S.n + 1 ≤ _
  omega
theorem DevC.crash (h : DevC W B g c N 0) (torn P : Int) (k : Nat) (A : Option Addr) :
    Calls Try.prog 11 #[.pointer (some ⟨g, 0, none⟩), .agg #[.slice A 0 k, .int .i64 torn, .int .i64 P]] W fun e W' => e = .returned (.tuple #[]) ∧ DevC W' B g 0 N 0 ∧ DKeep B W W' := by
  obtain ⟨S, h1, h2, h3, rfl, h5, h6⟩ := h
  refine (crash_any W B g S h1 [] torn P A 0 k rfl (by simp) (fun _ _ => ⟨rfl, fun h => absurd h (by omega)⟩)).mono ?_
  rintro e W' ⟨rfl, hd, hk⟩
  have hq : S.q = [] := List.eq_nil_of_length_eq_zero (by omega)
  refine ⟨rfl, ⟨_, hd, ⟨rfl, rfl⟩, Int.le_refl _, ?_, Nat.le_refl _, fun i _ => ?_⟩, hk⟩
  · show settleK S.now _ S.q = S.now
    rw [hq]
    rfl
  · show (crashK _ _ _ 0 S.kept S.q)[i]? = (settleK S.now _ S.q)[i]?
    rw [hq]
    exact h6 i (fun e he => by rw [hq] at he; exact absurd he List.not_mem_nil)
end
theorem cov_new (n : Nat) : Cov (newS n) := fun _ _ => rfl
theorem cnew_any (W : World) (n : Nat) (h1 : 1 ≤ n) (h2 : n ≤ 65536) :
    Calls Try.prog 5 #[.int .i64 (n : Int)] W fun e W' => ∃ g, e = .returned (.tuple #[.pointer (some ⟨g, 0, none⟩), .int .i64 0]) ∧ DevC W' W.heap.size g 0 (List.replicate n zero64) 0 ∧ Below W.heap.size W W' := by
  refine (new_any W n h1 h2).mono ?_
  rintro e W' ⟨g, rfl, hd, hb⟩
  exact ⟨g, rfl, ⟨_, hd, ⟨rfl, rfl⟩, Int.le_refl _, rfl, Nat.le_refl _, cov_new n⟩, hb⟩
end Go.Proofs.Ytogjdfiimflbaaa
