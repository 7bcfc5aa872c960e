/-
  The walk of icehouselaw21.LruOnce. Conditions: the responses and the bools read as their data say.
-/
import Derived.Test.YtjijdpdbkpknpaaLruOnceN
import Derived.Test.YtjijdpdbkpknpaaLruSameH
namespace Go.Proofs.Ytjijdpdbkpknpaa
open Go Go.RowKit

theorem peekS_mem {S : CS} {k : ByteArray} {x : Hd} (h : peekS S k = some x) : x ∈ S.trial ++ S.rest := by
  unfold peekS at h
  split at h
  · exact List.mem_append_left _ (getK_mem h)
  · exact List.mem_append_right _ (getK_mem h)
def boolv (l : List Bool) : List Value := l.map Value.bool

set_option maxRecDepth 100000 in
set_option maxHeartbeats 400000 in
theorem lruOnce_no (A A2 : Option Addr) (n n2 c c2 : Nat) (w : World) (hn : 30 < n ∨ (n ≤ 30 ∧ 60 < n2)) : Calls Try.prog 6 #[.slice A n c, .slice A2 n2 c2] w fun e w' => e = .returned (.bool true) ∧ Below w.heap.size w w' := by
  rcases hn with hn | ⟨hn, hn2⟩
  all_goals
    go_enter Try.func6, Try.ntmps6
    go_wp2_with fail
    refine (awake_any w).mono ?_
    rintro e w0 ⟨rfl, hb0⟩
    have HB0 := hide hb0
    clear hb0
  · have t1 : decide ((30 : Int) < (n : Int)) = true := decide_eq_true (by omega)
    go_wp2_with fail
    refine (awake_any w0).mono ?_
    rintro e w1 ⟨rfl, hb1⟩
    have HB1 := hide (HB0.out.trans (hb1.mono HB0.out.size))
    clear hb1
    go_wp2
    go_ret
    exact ⟨rfl, HB1.out⟩
  · have t1 : decide ((30 : Int) < (n : Int)) = false := decide_eq_false (by omega)
    have t2 : decide ((60 : Int) < (n2 : Int)) = true := decide_eq_true (by omega)
    go_wp2_with fail
    refine (awake_any w0).mono ?_
    rintro e w1 ⟨rfl, hb1⟩
    have HB1 := hide (HB0.out.trans (hb1.mono HB0.out.size))
    clear hb1
    go_wp2
    go_ret
    exact ⟨rfl, HB1.out⟩

set_option maxRecDepth 100000 in
set_option maxHeartbeats 2000000 in
theorem lruOnce_any (L : List (Hd × Loc)) (U : List Bool) (A A2 : Option Addr) (n n2 c c2 : Nat) (w : World) (hn : n = L.length) (hn2 : n2 = U.length) (hl : L.length ≤ 30) (hu : U.length ≤ 60) (hs : HsAt w w.heap.size A L) (hus : Reads w w.heap.size 1 A2 U.length (boolv U)) :
    Calls Try.prog 6 #[.slice A n c, .slice A2 n2 c2] w fun e w' => e = .returned (.bool true) ∧ Below w.heap.size w w' := by
  subst hn hn2
  have HS := hide hs
  have HU := hide hus
  clear hs hus
  have t1 : decide ((30 : Int) < (L.length : Int)) = false := decide_eq_false (by omega)
  have t2 : decide ((60 : Int) < (U.length : Int)) = false := decide_eq_false (by omega)
  have hhl : (hds L).length = L.length := hds_len L
  have HHL := hide hhl
  clear hhl
  go_enter Try.func6, Try.ntmps6
  go_wp2_with fail
  refine (awake_any w).mono ?_
  rintro e w0 ⟨rfl, hb0⟩
  have HB0 := hide hb0
  have hs0 := hb0.size
  clear hb0
  go_wp2_with fail
  refine (new_any 1073741824 50 (by omega) (by omega) w0).mono ?_
  rintro e w1 ⟨rfl, h1, hb1⟩
  have HC0 : Hid (CacheOn w.heap.size w w0.heap.size ⟨1073741824, 1073741824 * 50 / 100, [], []⟩ w1) := ⟨_, h1, fun q hq => by omega, HB0.out.trans (hb1.mono hs0)⟩
  clear h1 hb1 t1 t2
  generalize w0.heap.size = g at *
  have HO0 := hide (OnceOk.start (hds L) (1073741824 * 50 / 100))
  go_wp2_with fail
  go_loopw [7] (fun i wr => ∃ j : Nat, j ≤ L.length ∧ i = .int .i64 j ∧ ∃ S, OnceOk (hds L) j S ∧ CacheOn w.heap.size w g S wr) (fun i _ => L.length - (intOf i).toNat)
  case atStart => exact ⟨0, Nat.zero_le _, rfl, _, HO0.out, HC0.out⟩
  case round =>
    clear HO0 HC0
    obtain ⟨j, hj, rfl, S, hO, hC⟩ := hrel
    have HO := hide hO
    have HC := hide hC
    have hwr := hC.below.size
    have hlen2 : S.trial.length + S.rest.length < 1000 := by
      have := hC
      obtain ⟨M, hc, _, _⟩ := this
      have a := hO.sum
      have b1 := sumC_len S.trial
      have b2 := sumC_len S.rest
      have a2 : j * 1048576 ≤ 30 * 1048576 := Nat.mul_le_mul_right _ (by omega)
      have hle : ∀ i, fcN (hds L) i ≤ i := fun i => by
        induction i with
        | zero => exact Nat.le_refl _
        | succ i ih =>
          show fcN (hds L) i + _ ≤ _
          split
          · split <;> omega
          · omega
      have := hle j
      have hl := hO.len
      unfold CS.len at hl
      omega
    clear hO hC
    by_cases hlt : j < L.length
    · obtain ⟨ad, rfl, hb, hxx⟩ := HS.out.1.2 (by omega)
      clear hxx
      have hltd : j < (hds L).length := by rw [HHL.out]; exact hlt
      have HLX : Hid (∀ X, Below w.heap.size w X → (Instr.loadAt 40 (.pointer (some (ad.add (j * 17))))).run Try.prog X = .ok (.agg (hcs L[j].1 L[j].2).toArray) X) := fun X hX => load_held X (ad.add (j * 17)) _ _ (row_cells (HS.out.below hX).1 j hlt rfl)
      have HKX : Hid (∀ X, Below w.heap.size w X → X.cell? (ad.add (j * 17)) = some (.string L[j].1.key)) := fun X hX => by
        have := row_cells (HS.out.below hX).1 j hlt rfl 0 _ rfl
        rwa [Addr.add_zero'] at this
      have HHX : Hid (∀ X, Below w.heap.size w X → HeldD X (fun q => q < w.heap.size) L[j].1 L[j].2) := fun X hX => ((HS.out.below hX).2 _ (List.getElem_mem hlt)).1
      have HRE : Hid (Reach L[j].1) := (HS.out.2 _ (List.getElem_mem hlt)).2
      have HPT : Hid (L[j].1.ok → (putS S L[j].1).2 = [] ∧ OnceOk (hds L) (j + 1) (putS S L[j].1).1) := fun hok => by
        have e := hds_get L j hlt
        have := HO.out.put hltd (by omega) (by rw [e]; exact hok)
        rwa [e] at this
      generalize L[j].1 = h at *
      generalize L[j].2 = l at *
      have i1 : (0 : Int) ≤ (j : Int) := by omega
      have i2 : (j : Int) < (L.length : Int) := by omega
      have HL1 := hide (HLX.out wr HC.out.below)
      have HSM := hide (small_any 0 h l none 0 0 w.heap.size wr ((HHX.out wr HC.out.below).fields.reads (fun q hq => hq)) hwr HRE.out)
      go_wp2_with (first | (with_reducible refine wpList_load_run rfl 40 (.tmp 47) rfl HL1.out rfl ?_) | (refine wpList_build_act rfl (.tmp 48) rfl h l rfl ?_))
      refine (unhide HSM).mono ?_
      rintro e w3 ⟨rfl, hb3⟩
      have HC3 := hide (HC.out.lift hb3 (Nat.le_refl _))
      clear hb3 HSM
      cases hsm : smallB h 0 with
      | false =>
        have HE := hide HC3.out.below
        go_wp2
        go_ret
        exact ⟨rfl, HE.out⟩
      | true =>
        have HOK := hide (smallB_ok hsm).1
        obtain ⟨hp2, hp1⟩ := HPT.out HOK.out
        have HL3 := hide (HLX.out w3 HC3.out.below)
        have HP := hide (put_low HC3.out (Nat.le_refl _) h l (HHX.out w3 HC3.out.below) HOK.out hlen2)
        rw [hp2] at HP
        have HO4 := hide hp1
        clear hsm hp1 hp2
        go_wp2_with (with_reducible refine wpList_load_run rfl 40 (.tmp 55) rfl HL3.out rfl ?_)
        refine (unhide HP).mono ?_
        rintro e w4 ⟨⟨A4, c4, rfl, -⟩, h4⟩
        have HC4 := hide h4
        have hk4 := HKX.out w4 h4.below
        have hlen4 : (putS S h).1.trial.length + (putS S h).1.rest.length < 1000 := by
          have := len_put S h
          unfold CS.len at this
          have a := HO4.out.len
          unfold CS.len at a
          have hle : ∀ i, fcN (hds L) i ≤ i := fun i => by
            induction i with
            | zero => exact Nat.le_refl _
            | succ i ih =>
              show fcN (hds L) i + _ ≤ _
              split
              · split <;> omega
              · omega
          have := hle (j + 1)
          omega
        have HG := hide (get_on h4 (Nat.le_refl _) h.key hlen4)
        have HOG := hide (HO4.out.get h.key)
        have HUB : Hid (∀ hj : j < U.length, ∃ a2, A2 = some a2 ∧ w4.cell? (a2.add j) = some (.bool U[j])) := fun hju => by
          obtain ⟨a2, u, e, hb2, hu2, hc2⟩ := (HU.out.below h4.below).at_ hju
          refine ⟨a2, e, ?_⟩
          rw [hc2]
          simpa [boolv, hju] using hu2.symm
        clear h4 HP HC3 HL3 hlen4
        generalize (putS S h).1 = S4 at *
        generalize h.key = key at *
        by_cases hju : j < U.length
        · obtain ⟨a2, rfl, hub⟩ := HUB.out hju
          have t3 : decide ((j : Int) < (U.length : Int)) = true := decide_eq_true (by omega)
          have i3 : (j : Int) < (U.length : Int) := by omega
          generalize U[j] = b at *
          cases b with
          | true =>
            go_wp2_with fail
            refine (unhide HG).mono ?_
            rintro e w8 ⟨⟨l8, rfl, -⟩, h8⟩
            have HC8 := hide h8
            clear h8 HG hk4 hub
            go_wp2
            go_roundw
            case rel => exact ⟨j + 1, by omega, by go_num, _, HOG.out, HC8.out⟩
            case measure => simp [intOf]; omega
          | false =>
            go_wp2
            go_roundw
            case rel => exact ⟨j + 1, by omega, by go_num, _, HO4.out, HC4.out⟩
            case measure => simp [intOf]; omega
        · have t3 : decide ((j : Int) < (U.length : Int)) = false := decide_eq_false (by omega)
          go_wp2
          go_roundw
          case rel => exact ⟨j + 1, by omega, by go_num, _, HO4.out, HC4.out⟩
          case measure => simp [intOf]; omega
    · have e : j = L.length := by omega
      have HOF : Hid (OnceOk (hds L) L.length S) := by rw [← e]; exact HO.out
      clear e HO
      go_wp2_with fail
      go_loopw [8, 9] (fun nn i wx => ∃ m : Nat, m ≤ L.length ∧ i = .int .i64 m ∧ nn = .int .i64 (fcN (hds L) m : Nat) ∧ CacheOn w.heap.size w g S wx) (fun _ i _ => L.length - (intOf i).toNat)
      case atStart => exact ⟨0, Nat.zero_le _, rfl, rfl, HC.out⟩
      case round =>
        clear HC
        obtain ⟨m, hm, rfl, rfl, hC⟩ := hrel
        have HC := hide hC
        have hwx := hC.below.size
        have hfc := fcN_le (hds L) m
        clear hC
        by_cases hlm : m < L.length
        · have hmd : m < (hds L).length := by rw [HHL.out]; exact hlm
          have HLS0 := hide (LastRel.start (hds L) m hmd)
          have HFS := hide (fcN_succ (hds L) m hmd)
          have hkm : (hds L)[m].key = L[m].1.key := by rw [hds_get L m hlm]
          obtain ⟨key, hkey⟩ : ∃ key, key = (hds L)[m].key := ⟨_, rfl⟩
          have HKEY := hide hkey
          have HKM : Hid (L[m].1.key = key) := by show _ = _; rw [hkey, hkm]
          rw [← hkey] at HLS0 HFS
          clear hkey hkm
          generalize hfn : fcN (hds L) m = fn at *
          have HFN := hide hfn
          clear hfn
          go_wp2_with fail
          go_loopw [10, 11, 12] (fun la fi k wy => ∃ q v : Nat, ∃ b : Bool, q ≤ L.length ∧ k = .int .i64 q ∧ la = .int .i64 v ∧ fi = .bool b ∧ LastRel (hds L) key m q v b ∧ CacheOn w.heap.size w g S wy) (fun _ _ k _ => L.length - (intOf k).toNat)
          case atStart => exact ⟨0, m, true, Nat.zero_le _, rfl, rfl, rfl, HLS0.out, HC.out⟩
          case round =>
            clear HLS0 HC
            obtain ⟨q, v, b, hq, rfl, rfl, rfl, hls, hC⟩ := hrel
            have HC := hide hC
            have HLS := hide hls
            clear hC hls
            by_cases hlq : q < L.length
            · have hqd : q < (hds L).length := by rw [HHL.out]; exact hlq
              obtain ⟨ad, rfl, hb, hxx⟩ := HS.out.1.2 (by omega)
              clear hxx
              have hkq : (hds L)[q].key = L[q].1.key := by rw [hds_get L q hlq]
              have k1 : wr.cell? (ad.add (q * 17)) = some (.string L[q].1.key) := by
                have := row_cells (HS.out.below HC.out.below).1 q hlq rfl 0 _ rfl
                rwa [Addr.add_zero'] at this
              have k2 : wr.cell? (ad.add (m * 17)) = some (.string key) := by
                have := row_cells (HS.out.below HC.out.below).1 m hlm rfl 0 _ rfl
                rw [Addr.add_zero'] at this
                rw [this, HKM.out]
              have HY : Hid (L[q].1.key = key → LastRel (hds L) key m (q + 1) q (b && decide (m ≤ q))) := fun e => HLS.out.yes hqd (hkq.trans e)
              have HN : Hid (¬ L[q].1.key = key → LastRel (hds L) key m (q + 1) v b) := fun e => HLS.out.no hqd (fun e' => e (hkq.symm.trans e'))
              have HDN : Hid (∀ n, CacheOn w.heap.size w g S (wr.drewN n)) := fun n => HC.out.lift (below_drewN (Below.refl _ _) n) (Nat.le_refl _)
              clear hkq
              generalize L[q].1.key = kq at *
              have i1 : (0 : Int) ≤ (q : Int) := by omega
              have i2 : (q : Int) < (L.length : Int) := by omega
              have i3 : (0 : Int) ≤ (m : Int) := by omega
              have i4 : (m : Int) < (L.length : Int) := by omega
              by_cases hk : kq = key
              · have tk : (kq.toList == key.toList) = true := by rw [ba_beq]; exact decide_eq_true hk
                have HYY := hide (HY.out hk)
                clear hk HY HN
                cases b with
                | true =>
                  by_cases hmq : m ≤ q
                  · have tm : decide (m ≤ q) = true := decide_eq_true hmq
                    rw [tm] at HYY
                    go_wp2_with fail
                    go_quiet (fail)
                    go_wp2
                    go_roundw
                    case rel => exact ⟨q + 1, q, true, by omega, by go_num, rfl, rfl, HYY.out, HDN.out _⟩
                    case measure => simp [intOf]; omega
                  · have tm : decide (m ≤ q) = false := decide_eq_false hmq
                    rw [tm] at HYY
                    go_wp2_with fail
                    go_quiet (fail)
                    go_wp2
                    go_roundw
                    case rel => exact ⟨q + 1, q, false, by omega, by go_num, rfl, rfl, HYY.out, HDN.out _⟩
                    case measure => simp [intOf]; omega
                | false =>
                  go_wp2_with fail
                  go_quiet (fail)
                  go_wp2
                  go_roundw
                  case rel => exact ⟨q + 1, q, false, by omega, by go_num, rfl, rfl, HYY.out, HDN.out _⟩
                  case measure => simp [intOf]; omega
              · have tk : (kq.toList == key.toList) = false := by rw [ba_beq]; exact decide_eq_false hk
                have HNN := hide (HN.out hk)
                clear hk HY HN
                go_wp2_with fail
                go_quiet (fail)
                go_wp2
                go_roundw
                case rel => exact ⟨q + 1, v, b, by omega, by go_num, rfl, rfl, HNN.out, HDN.out _⟩
                case measure => simp [intOf]; omega
            · have hql : q = (hds L).length := by have := HHL.out; omega
              have hls := HLS.out
              rw [hql] at hls
              obtain ⟨y, hy1, hy2, hfb⟩ : ∃ y, (hds L)[v]? = some y ∧ lastOf key (hds L) = some y ∧ b = decide (cnt key ((hds L).take m) = 0) := by
                have hk := HKEY.out
                rw [hk] at hls ⊢
                obtain ⟨⟨y, a1, a2⟩, a3⟩ := hls.done hmd
                exact ⟨y, a1, a2, a3⟩
              obtain ⟨x, hx1, hx2⟩ : ∃ x, peekS S key = some x ∧ lastOf key (hds L) = some x := by
                have hc0 : cnt key ((hds L).take L.length) ≠ 0 := by
                  rw [← HHL.out, List.take_length, HKEY.out]
                  exact cnt_take_pos (hds L) m hmd
                have := HOF.out.peek hc0
                rwa [← HHL.out, List.take_length] at this
              obtain rfl : y = x := Option.some.inj (hy2.symm.trans hx2)
              obtain ⟨hvd, hvx⟩ := List.getElem?_eq_some_iff.1 hy1
              have hvl : v < L.length := by have := HHL.out; omega
              rw [hds_get L v hvl] at hvx
              have HFB := hide hfb
              clear hfb hls hql hy1 hy2 hx2 hvd
              obtain ⟨ad, rfl, hb, hxx⟩ := HS.out.1.2 (by omega)
              clear hxx
              have k2 : wr.cell? (ad.add (m * 17)) = some (.string key) := by
                have := row_cells (HS.out.below HC.out.below).1 m hlm rfl 0 _ rfl
                rw [Addr.add_zero'] at this
                rw [this, HKM.out]
              have i3 : (0 : Int) ≤ (m : Int) := by omega
              have i4 : (m : Int) < (L.length : Int) := by omega
              have i5 : (0 : Int) ≤ (v : Int) := by omega
              have i6 : (v : Int) < (L.length : Int) := by omega
              have HPK := hide (peek_on HC.out (Nat.le_refl _) key)
              have HYO : Hid y.ok := by
                obtain ⟨M, hca, _, _⟩ := HC.out
                exact hca.ok.2.2.2 y (peekS_mem hx1)
              rw [hx1] at HPK
              clear hx1
              go_wp2_with fail
              refine (unhide HPK).mono ?_
              rintro e w5 ⟨⟨lx, rfl, hhx⟩, hc5, hb5⟩
              have HHX := hide hhx
              have HC5 := hide hc5
              have hw5 := hb5.size
              have hwr5 := HC.out.size
              have hz := fun W' => zero_held W'
              have hsc := cells_held_new w5 y lx
              have HHB : Hid (Blk (w5.alloc (.cells (hcs y lx).toArray 40)) w5.heap.size 40 (hcs y lx).toArray) := Blk.new _ _ _
              have HW6 : Hid (Below w5.heap.size w5 (w5.alloc (.cells (hcs y lx).toArray 40))) := (Below.refl _ _).alloc (Nat.le_refl _) _
              obtain ⟨w6, hA6⟩ : ∃ w6, w5.alloc (.cells (hcs y lx).toArray 40) = w6 := ⟨_, rfl⟩
              change Hid (HeldD w5 (fun q => wr.heap.size ≤ q ∧ q < w5.heap.size) y lx) at HHX
              simp only [Option.getD_some, Option.isSome_some]
              rw [hA6] at hsc HHB HW6
              clear hhx hc5 hb5 hA6 HPK
              go_wp2_with fail
              have hq13 : w5.heap.size < w6.heap.size := HHB.out.lt
              have HC6 := hide (HC5.out.lift HW6.out (Nat.le_refl _))
              have HHX6 := hide (HHX.out.keep (Same.of_below HW6.out (fun q hq => hq.2)))
              have HHV := hide (HS.out.2 _ (List.getElem_mem hvl)).1
              have HRV := hide (fun (X : World) (hX : Below w.heap.size w X) => row_cells (HS.out.below hX).1 v hvl rfl)
              rw [hvx] at HHV HRV
              generalize L[v].2 = lv at *
              have HLB : Hid (∀ X, Below w6.heap.size w6 X → (Instr.loadAt 40 (.pointer (some (ad.add (v * 17))))).run Try.prog X = .ok (.agg (hcs y lv).toArray) X) := fun X hX => load_held X (ad.add (v * 17)) _ _ (HRV.out X (HC6.out.below.trans (hX.mono (by have := HC6.out.size; omega))))
              have HLA : Hid (∀ X, Below w6.heap.size w6 X → (Instr.loadAt 40 (.pointer (some ⟨w5.heap.size, 0, none⟩))).run Try.prog X = .ok (.agg (hcs y lx).toArray) X) := fun X hX => load_held_blk X _ _ y lx (HHB.out.below hX HHB.out.lt)
              have HSA : Hid (∀ X, Below w6.heap.size w6 X → Calls Try.prog 24 #[.agg (hcs y lx).toArray, .agg (hcs y lv).toArray] X fun e w' => e = .returned (.bool true) ∧ Below X.heap.size X w') := fun X hX => same_held y lx lv w5.heap.size _ _ X (by have := hX.size; omega) ⟨HYO.out.1, HYO.out.2.1, HYO.out.2.2.1⟩ (HHX6.out.keep (Same.of_below hX (fun q hq => by have := hq.2; omega))) (HHV.out.keep (Same.of_below (HC6.out.below.trans (hX.mono (by have := HC6.out.size; omega))) (fun q hq => hq))) (fun q hq => hq.2) (fun q hq => by omega)
              have hsz6 := HC6.out.size
              generalize w5.heap.size = q13 at *
              clear hz hsc HHB k2 HHX HHX6 HHV HRV HC5
              refine wp_region_assert (listV [isV (.bool true), isV (.bool false), isV (.bool false), isV (.agg (hcs y lx).toArray), isV (.slice (some ad) L.length c), isV (.int .i64 (v : Int)), isV (.pointer (some (ad.add (v * 17)))), isV (.agg (hcs y lv).toArray), isV (.bool true), isV (.bool false), isV (.bool false)]) (by kernel_rfl) (by kernel_rfl) (listV_stable ?_) ?_ ?_
              · exact ⟨isV_stable _, isV_stable _, isV_stable _, isV_stable _, isV_stable _, isV_stable _, isV_stable _, isV_stable _, isV_stable _, isV_stable _, isV_stable _, trivial⟩
              refine ⟨fun vs wk hbk hd => ?_, fun vs wk hbk hd => ?_, fun vs wk hbk hd => ?_, fun vs wk hbk hd => ?_, fun vs wk hbk hd => ?_, fun vs wk hbk hd => ?_, fun vs wk hbk hd => ?_, fun vs wk hbk hd => ?_, fun vs wk hbk hd => ?_, fun vs wk hbk hd => ?_, fun vs wk hbk hd => ?_, trivial⟩
              -- 0: Op.move t14
              · clear hd
                go_wp2
                exact ⟨rfl, rfl, rfl, Below.refl _ _⟩
              -- 1: Op.unOp UnOp.not 4 t118
              · simp only [Act.put, List.setIfInBounds_toArray, List.set_cons_zero, List.set_cons_succ]
                have e0 : vs 0 = .bool true := hd 0 (by kernel_rfl)
                clear hd
                go_wp2
                first | exact ⟨rfl, rfl, rfl, Below.refl _ _⟩ | exact ⟨rfl, rfl, e0, Below.refl _ _⟩
              -- 2: Op.move t119
              · simp only [Act.put, List.setIfInBounds_toArray, List.set_cons_zero, List.set_cons_succ, Nat.reduceAdd]
                have e1 : vs 1 = .bool false := hd 1 (by kernel_rfl)
                clear hd
                go_wp2
                first | exact ⟨rfl, rfl, rfl, Below.refl _ _⟩ | exact ⟨rfl, rfl, e1, Below.refl _ _⟩
              -- 3: Op.load 40 t13
              · simp only [Act.put, List.setIfInBounds_toArray, List.set_cons_zero, List.set_cons_succ, Nat.reduceAdd]
                have e2 : vs 2 = .bool false := hd 2 (by kernel_rfl)
                clear hd
                have hld := HLA.out wk (undrew hbk)
                refine wpList_load_runW (by first | rfl | (simp [Region.wanted, yielded, e2]; done)) 40 (.tmp 13) rfl hld rfl ?_
                go_wp2
                first | exact ⟨rfl, rfl, rfl, Below.refl _ _⟩ | exact ⟨rfl, rfl, e2, Below.refl _ _⟩
              -- 4: Op.move t0
              · simp only [Act.put, List.setIfInBounds_toArray, List.set_cons_zero, List.set_cons_succ, Nat.reduceAdd]
                have e2 : vs 2 = .bool false := hd 2 (by kernel_rfl)
                clear hd
                go_wp2
                first | exact ⟨rfl, rfl, rfl, Below.refl _ _⟩ | exact ⟨rfl, rfl, e2, Below.refl _ _⟩
              -- 5: Op.move t10
              · simp only [Act.put, List.setIfInBounds_toArray, List.set_cons_zero, List.set_cons_succ, Nat.reduceAdd]
                have e2 : vs 2 = .bool false := hd 2 (by kernel_rfl)
                clear hd
                go_wp2
                first | exact ⟨rfl, rfl, rfl, Below.refl _ _⟩ | exact ⟨rfl, rfl, e2, Below.refl _ _⟩
              -- 6: Op.indexAddr 46 t122 t123
              · simp only [Act.put, List.setIfInBounds_toArray, List.set_cons_zero, List.set_cons_succ, Nat.reduceAdd]
                have e4 : vs 4 = .slice (some ad) L.length c := hd 4 (by kernel_rfl)
                have e5 : vs 5 = .int .i64 (v : Int) := hd 5 (by kernel_rfl)
                have e2 : vs 2 = .bool false := hd 2 (by kernel_rfl)
                clear hd
                go_wp2
                first | exact ⟨rfl, rfl, rfl, Below.refl _ _⟩ | exact ⟨rfl, rfl, e2, Below.refl _ _⟩ | exact ⟨rfl, rfl, e5, Below.refl _ _⟩ | exact ⟨rfl, rfl, e4, Below.refl _ _⟩
              -- 7: Op.load 40 t124
              · simp only [Act.put, List.setIfInBounds_toArray, List.set_cons_zero, List.set_cons_succ, Nat.reduceAdd]
                have e6 : vs 6 = .pointer (some (ad.add (v * 17))) := hd 6 (by kernel_rfl)
                have e2 : vs 2 = .bool false := hd 2 (by kernel_rfl)
                clear hd
                have hld := HLB.out wk (undrew hbk)
                refine wpList_load_runW (by first | rfl | (simp [Region.wanted, yielded, e2]; done)) 40 (.tmp 124) rfl hld e6 ?_
                go_wp2
                first | exact ⟨rfl, rfl, rfl, Below.refl _ _⟩ | exact ⟨rfl, rfl, e2, Below.refl _ _⟩ | exact ⟨rfl, rfl, e6, Below.refl _ _⟩
              -- 8: Op.call { value (Operand.func 24), args := #[t121, t125], argTypes := 
              · simp only [Act.put, List.setIfInBounds_toArray, List.set_cons_zero, List.set_cons_succ, Nat.reduceAdd]
                have e3 : vs 3 = .agg (hcs y lx).toArray := hd 3 (by kernel_rfl)
                have e7 : vs 7 = .agg (hcs y lv).toArray := hd 7 (by kernel_rfl)
                have e2 : vs 2 = .bool false := hd 2 (by kernel_rfl)
                clear hd
                have hco := HSA.out wk (undrew hbk)
                go_wp2_with fail
                refine hco.mono ?_
                rintro e w' ⟨rfl, hb'⟩
                clear hco
                go_wp2
                exact ⟨rfl, rfl, rfl, hb'⟩
              -- 9: Op.unOp UnOp.not 4 t126
              · simp only [Act.put, List.setIfInBounds_toArray, List.set_cons_zero, List.set_cons_succ, Nat.reduceAdd]
                have e8 : vs 8 = .bool true := hd 8 (by kernel_rfl)
                have e2 : vs 2 = .bool false := hd 2 (by kernel_rfl)
                clear hd
                go_wp2
                first | exact ⟨rfl, rfl, rfl, Below.refl _ _⟩ | exact ⟨rfl, rfl, e2, Below.refl _ _⟩ | exact ⟨rfl, rfl, e8, Below.refl _ _⟩
              -- 10: Op.pick t120 (const (Value.bool true)) t127
              · simp only [Act.put, List.setIfInBounds_toArray, List.set_cons_zero, List.set_cons_succ, Nat.reduceAdd]
                have e2 : vs 2 = .bool false := hd 2 (by kernel_rfl)
                have e9 : vs 9 = .bool false := hd 9 (by kernel_rfl)
                clear hd
                go_wp2
                first | exact ⟨rfl, rfl, rfl, Below.refl _ _⟩ | exact ⟨rfl, rfl, e9, Below.refl _ _⟩ | exact ⟨rfl, rfl, e2, Below.refl _ _⟩
              intro vs wk hbk hd
              simp only [putAll, Act.put, List.setIfInBounds_toArray, List.set_cons_zero, List.set_cons_succ, Nat.reduceAdd]
              have e10 : vs 10 = .bool false := hd 10 (by decide)
              clear hd
              simp only [e10]
              clear e10
              have HC7 := hide (HC6.out.lift (undrew hbk) (Nat.le_refl _))
              clear hbk
              cases b with
              | true =>
                have HF2 : Hid (fcN (hds L) (m + 1) = fn + 1) := by
                  have h1 := HFB.out
                  rw [HFS.out, if_pos (of_decide_eq_true h1.symm)]
                  exact hide rfl
                go_wp2
                go_roundw
                case rel => exact ⟨m + 1, by omega, by go_num, by rw [HF2.out]; go_num, HC7.out⟩
                case measure => simp [intOf]; omega
              | false =>
                have HF2 : Hid (fcN (hds L) (m + 1) = fn) := by
                  have h1 := HFB.out
                  rw [HFS.out, if_neg (of_decide_eq_false h1.symm)]
                  rfl
                go_wp2
                go_roundw
                case rel => exact ⟨m + 1, by omega, by go_num, by rw [HF2.out], HC7.out⟩
                case measure => simp [intOf]; omega
        · have em : m = L.length := by omega
          have HK := hide (keys_on HC.out)
          have hlen : (keysOf S.trial).length + (keysOf S.rest).length = fcN (hds L) m := by
            have := HOF.out.len
            unfold CS.len at this
            rw [em]
            simp only [keysOf, List.length_map]
            omega
          have HD0 : Hid (DropOk (hds L) 0 S) := by
            have := HOF.out
            rw [← HHL.out] at this
            exact DropOk.start this
          clear em
          generalize fcN (hds L) m = fn at *
          go_wp2_with fail
          refine (unhide HK).mono ?_
          rintro e w3 ⟨A1, c1, B1, c3, rfl, hr1, hr2, hb3⟩
          clear hr1 hr2
          have HC3 := hide (HC.out.lift hb3 (Nat.le_refl _))
          clear hb3 HK
          generalize (keysOf S.trial).length = ka at *
          generalize (keysOf S.rest).length = kb at *
          have tn : ((ka : Int) + (kb : Int) != (fn : Int)) = false := by
            have e : (ka : Int) + (kb : Int) = (fn : Int) := by omega
            rw [e]
            simp
          go_wp2_with fail
          go_loopw [17] (fun i wz => ∃ r : Nat, r ≤ L.length ∧ i = .int .i64 r ∧ ∃ S9, DropOk (hds L) r S9 ∧ CacheOn w.heap.size w g S9 wz) (fun i _ => L.length - (intOf i).toNat)
          case atStart => exact ⟨0, Nat.zero_le _, rfl, S, HD0.out, HC3.out⟩
          case round =>
            clear HD0 HC3
            obtain ⟨r, hrl, rfl, S9, hD, hC⟩ := hrel
            have HC := hide hC
            have HDO := hide hD
            have hwz := hC.below.size
            clear hC hD
            by_cases hlr : r < L.length
            · have hrd : r < (hds L).length := by rw [HHL.out]; exact hlr
              obtain ⟨ad, rfl, hb, hxx⟩ := HS.out.1.2 (by omega)
              clear hxx
              obtain ⟨hpn, hdn⟩ := HDO.out.drop hrd
              rw [hds_get L r hlr] at hpn hdn
              have HKX : Hid (∀ X, Below w.heap.size w X → X.cell? (ad.add (r * 17)) = some (.string L[r].1.key)) := fun X hX => by
                have := row_cells (HS.out.below hX).1 r hlr rfl 0 _ rfl
                rwa [Addr.add_zero'] at this
              have HPN := hide hpn
              have HDN := hide hdn
              have HWB := hide HC.out.below
              clear hpn hdn HDO
              generalize L[r].1.key = key at *
              have i1 : (0 : Int) ≤ (r : Int) := by omega
              have i2 : (r : Int) < (L.length : Int) := by omega
              have HDR : Hid (∀ (A : Option Addr) (X : World), Below wr.heap.size wr X → ReadsD X (fun q => wr.heap.size ≤ q) 1 A 2 (strs [key, key]) → Calls Try.prog 17 #[.pointer (some ⟨g, 0, none⟩), .slice A 2 2] X fun e W' => e = .returned (.int .i64 ((dropS S9 [key, key]).2 : Nat)) ∧ CacheOn w.heap.size w g (dropS S9 [key, key]).1 W') := fun A X hX hr => drop_on HC.out (Nat.le_refl _) [key, key] A 2 2 rfl (by simp) hX hr (fun q hq => .inr hq)
              generalize (dropS S9 [key, key]).2 = dn at *
              generalize (dropS S9 [key, key]).1 = S8 at *
              clear HC
              go_wp2_with fail
              refine region_U (fun x => Below wr.heap.size wr x) 12 (by kernel_rfl) ?_
              intro Y hY
              have HBY : Hid (Below wr.heap.size wr Y) := by rw [hY]; exact (Below.refl _ _).drew
              clear hY
              refine takeV 6 0 (.pointer (some ⟨g, 0, none⟩)) rfl (by kernel_rfl) (fun _ _ _ h => h) (by rfl) (fun x hS => by
                obtain s1 := hS
                go_simp) HBY.out ?_
              simp only [Act.put, List.getElem_toArray, List.getElem_cons_succ, List.getElem_cons_zero, List.setIfInBounds_toArray, List.set_cons_zero, List.set_cons_succ]
              refine takeV 6 1 (.slice (some ad) L.length c) rfl (by kernel_rfl) (fun _ _ _ h => h) (by rfl) (fun x hS => by
                obtain s1 := hS
                go_simp) HBY.out ?_
              simp only [Act.put, List.getElem_toArray, List.getElem_cons_succ, List.getElem_cons_zero, List.setIfInBounds_toArray, List.set_cons_zero, List.set_cons_succ]
              refine takeV 6 2 (.int .i64 (r : Int)) rfl (by kernel_rfl) (fun _ _ _ h => h) (by rfl) (fun x hS => by
                obtain s1 := hS
                go_simp) HBY.out ?_
              simp only [Act.put, List.getElem_toArray, List.getElem_cons_succ, List.getElem_cons_zero, List.setIfInBounds_toArray, List.set_cons_zero, List.set_cons_succ]
              refine takeV 6 3 (.pointer (some (ad.add (r * 17)))) rfl (by kernel_rfl) (fun _ _ _ h => h) (by rfl) (fun x hS => by
                obtain s1 := hS
                go_simp) HBY.out ?_
              simp only [Act.put, List.getElem_toArray, List.getElem_cons_succ, List.getElem_cons_zero, List.setIfInBounds_toArray, List.set_cons_zero, List.set_cons_succ]
              refine takeV 6 4 (.pointer (some (ad.add (r * 17)))) rfl (by kernel_rfl) (fun _ _ _ h => h) (by rfl) (fun x hS => by
                obtain s1 := hS
                go_simp) HBY.out ?_
              simp only [Act.put, List.getElem_toArray, List.getElem_cons_succ, List.getElem_cons_zero, List.setIfInBounds_toArray, List.set_cons_zero, List.set_cons_succ]
              refine takeV 6 5 (.string key) rfl (by kernel_rfl) (fun _ _ _ h => h) (by rfl) (fun x hS => by
                have q := HKX.out x (HWB.out.trans (Below.mono hS hwz))
                go_simp) HBY.out ?_
              simp only [Act.put, List.getElem_toArray, List.getElem_cons_succ, List.getElem_cons_zero, List.setIfInBounds_toArray, List.set_cons_zero, List.set_cons_succ]
              refine takeV 6 6 (.slice (some ad) L.length c) rfl (by kernel_rfl) (fun _ _ _ h => h) (by rfl) (fun x hS => by
                obtain s1 := hS
                go_simp) HBY.out ?_
              simp only [Act.put, List.getElem_toArray, List.getElem_cons_succ, List.getElem_cons_zero, List.setIfInBounds_toArray, List.set_cons_zero, List.set_cons_succ]
              refine takeV 6 7 (.int .i64 (r : Int)) rfl (by kernel_rfl) (fun _ _ _ h => h) (by rfl) (fun x hS => by
                obtain s1 := hS
                go_simp) HBY.out ?_
              simp only [Act.put, List.getElem_toArray, List.getElem_cons_succ, List.getElem_cons_zero, List.setIfInBounds_toArray, List.set_cons_zero, List.set_cons_succ]
              refine takeV 6 8 (.pointer (some (ad.add (r * 17)))) rfl (by kernel_rfl) (fun _ _ _ h => h) (by rfl) (fun x hS => by
                obtain s1 := hS
                go_simp) HBY.out ?_
              simp only [Act.put, List.getElem_toArray, List.getElem_cons_succ, List.getElem_cons_zero, List.setIfInBounds_toArray, List.set_cons_zero, List.set_cons_succ]
              refine takeV 6 9 (.pointer (some (ad.add (r * 17)))) rfl (by kernel_rfl) (fun _ _ _ h => h) (by rfl) (fun x hS => by
                obtain s1 := hS
                go_simp) HBY.out ?_
              simp only [Act.put, List.getElem_toArray, List.getElem_cons_succ, List.getElem_cons_zero, List.setIfInBounds_toArray, List.set_cons_zero, List.set_cons_succ]
              refine takeV 6 10 (.string key) rfl (by kernel_rfl) (fun _ _ _ h => h) (by rfl) (fun x hS => by
                have q := HKX.out x (HWB.out.trans (Below.mono hS hwz))
                go_simp) HBY.out ?_
              simp only [Act.put, List.getElem_toArray, List.getElem_cons_succ, List.getElem_cons_zero, List.setIfInBounds_toArray, List.set_cons_zero, List.set_cons_succ]
              refine oneU 11 rfl (by kernel_rfl) (by rfl) (runU (exec_slice2 28 (.tmp 155) (.tmp 160) rfl (slice_two key Y) rfl rfl) ?_)
              have HBS : Hid (Below wr.heap.size wr (Y.alloc (.cells #[.string key, .string key] 9))) := HBY.out.alloc HBY.out.size _
              have HSB : Hid (Blk (Y.alloc (.cells #[.string key, .string key] 9)) Y.heap.size 9 #[.string key, .string key]) := Blk.new _ _ _
              have hys := HBY.out.size
              have HDC := hide (HDR.out (some ⟨Y.heap.size, 0, none⟩) _ HBS.out ⟨rfl, fun _ => ⟨_, rfl, hys, fun j u hu => by
                rw [add_flat, Nat.zero_add, HSB.out.cell, List.getElem?_toArray]
                exact hu⟩⟩)
              clear HSB HDR
              generalize Y.alloc (.cells #[.string key, .string key] 9) = X at *
              refine ⟨fun _ => HBS.out, ?_⟩
              simp only [Act.put, List.getElem_toArray, List.getElem_cons_succ, List.getElem_cons_zero, List.setIfInBounds_toArray, List.set_cons_zero, List.set_cons_succ]
              refine oneU 12 rfl (by kernel_rfl) (by rfl) ?_
              go_wp2_with fail
              refine (unhide HDC).mono ?_
              rintro e w6 ⟨rfl, hc6⟩
              refine ⟨by kernel_rfl, ?_⟩
              try simp only [Act.put, List.getElem_toArray, List.getElem_cons_succ, List.getElem_cons_zero, List.setIfInBounds_toArray, List.set_cons_zero, List.set_cons_succ]
              have HC6 := hide hc6
              have HPK := hide (peek_on hc6 (Nat.le_refl _) key)
              have k6 := HKX.out w6 hc6.below
              rw [HPN.out] at HPK
              clear hc6 HDC HBS HBY HPN
              go_wp2_with fail
              refine (unhide HPK).mono ?_
              rintro e w7 ⟨⟨lx, rfl, hhx⟩, hc7, hb7⟩
              have HC7 := hide hc7
              have hw7 := hc7.below.size
              have hz := fun W' => zero_held W'
              simp only [Option.getD_none, Option.isSome_none]
              have hsc := cells_held_new w7 zh lx
              have HW8 : Hid (Below w7.heap.size w7 (w7.alloc (.cells (hcs zh lx).toArray 40))) := (Below.refl _ _).alloc (Nat.le_refl _) _
              obtain ⟨w8, hA8⟩ : ∃ w8, w7.alloc (.cells (hcs zh lx).toArray 40) = w8 := ⟨_, rfl⟩
              rw [hA8] at hsc HW8
              have HC8 := hide (HC7.out.lift HW8.out (Nat.le_refl _))
              clear hhx hc7 hb7 hA8 HPK k6
              go_wp2
              go_roundw
              case rel => exact ⟨r + 1, by omega, by go_num, S8, HDN.out, HC8.out⟩
              case measure => simp [intOf]; omega
            · have e : r = L.length := by omega
              have hz0 : sumC S9.trial + sumC S9.rest = 0 := by
                have := HDO.out
                rw [e, ← HHL.out] at this
                exact this.done
              clear e
              have HU := hide (used_on HC.out)
              rw [hz0] at HU
              have HE := hide HC.out.below
              have te : ((((0 : Nat) : Int)) == (0 : Int)) = true := rfl
              go_wp2_with fail
              refine (unhide HU).mono ?_
              rintro e w7 ⟨rfl, n7, rfl⟩
              have HE7 := hide (below_drewN HE.out n7)
              go_wp2
              go_ret
              exact ⟨rfl, HE7.out⟩
end Go.Proofs.Ytjijdpdbkpknpaa
