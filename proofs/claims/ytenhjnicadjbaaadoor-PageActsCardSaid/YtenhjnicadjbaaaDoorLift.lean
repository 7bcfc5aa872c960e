/-
  A law's row out of its walk: for every input the call returns true and writes nothing that was there. Conditions: those that each theorem names.
-/
import Derived.Test.YtenhjnicadjbaaaDoorCrcAwake
import Derived.ProofKit
import Derived.LaidMore
import Derived.OpenShut
import Derived.Stop.Joined
import Derived.Lib.LaidTab
import Derived.Deep.Slices
import Derived.Deep.Matrix
namespace Go.Proofs.YtenhjnicadjbaaaDoor
open Go Go.RowKit Go.ChangeShapes Go.WideShapes

theorem lift_own : ownKnob Tryd.prog.godebug = none := by kernel_rfl
set_option maxRecDepth 100000 in
theorem lift_laidOut : laidOutB Tryd.prog = true := by kernel_rfl

/-- Every parameter's type can be read. -/
def readsAll (P : Program) (ts : List TypeId) : Bool := ts.all fun t => P.readableRec t && decide (t < P.types.size)

theorem trodAll_below {H : Type} {enc : TypeId × Value → H} {P : Program} (hl : laidOutB P = true) {W W' : World} (hb : Below W.heap.size W W') :
    ∀ {ts : List TypeId} {vs : List Value} {ds : List (DataW H)} {p : List MemPlace}, readsAll P ts = true → (∀ x ∈ p, x.block < W.heap.size) →
      DataW.TrodAll enc P W 0 (fun _ => true) true ts vs ds p → DataW.TrodAll enc P W' 0 (fun b => decide (b < W.heap.size)) true ts vs ds p
  | [], vs, ds, p, _, _, h => by
    obtain ⟨rfl, rfl, rfl⟩ := trodAll_nil h
    exact trodAll_mk0
  | t :: ts, vs, ds, p, hr, hlt, h => by
    obtain ⟨v, vs', d, ds', p1, q1, rfl, rfl, rfl, h0, h1⟩ := trodAll_cons h
    have h3 : (P.readableRec t = true ∧ t < P.types.size) ∧ readsAll P ts = true := by
      unfold readsAll at hr ⊢
      rw [List.all_cons, Bool.and_eq_true, Bool.and_eq_true, decide_eq_true_eq] at hr
      exact hr
    exact trodAll_cons_mk (Below.trod hl h3.1.1 h3.1.2 h0 hb fun x hx => hlt x (List.mem_append_left _ hx))
      (trodAll_below hl hb h3.2 (fun x hx => hlt x (List.mem_append_right _ hx)) h1)

theorem law_post {H : Type} {enc : TypeId × Value → H} {f : Func} {s : ChangeSpec} {W W' : World} {args : Array Value} {ds gs : List (DataW H)} {before : List MemPlace}
    (hr : readsAll Tryd.prog f.params.toList = true) (hv : s.vars = []) (hrt : f.resultTypes = #[4]) (hfn : s.fn H (ds ++ gs) = { results := [.lit (.bool true)], args := ds })
    (hW : DataW.Whole enc Tryd.prog f.params.toList s.vars false W args.toList ds gs before) (hb : Below W.heap.size W W') :
    s.post enc Tryd.prog f false true false false W args (.bool true) W' := by
  have hW0 := hW
  obtain ⟨p, q, hA, hV, rfl, hfz, hnd⟩ := hW
  refine ⟨ds, gs, _, [], p, [], hW0, ?_, ?_, ?_, hb.frame _, fun h => by cases h⟩
  · rw [hfn, hrt]
    exact trodAll_mk1 (shut_bool Tryd.underlying4 _)
  · rw [hfn]
    exact trodAll_below lift_laidOut hb hr (fun x hx => hW0.lt x (List.mem_append_left _ hx)) hA
  · rw [hfn, hv]
    exact rfl

set_option maxRecDepth 100000 in
theorem lift_laid {os : Os} (started : os.Started) {H : Type} {enc : TypeId × Value → H} {n : Nat} {f : Func} {s : ChangeSpec} {laid : List (String × DataW Unit)} (args0 : Array Value) (steps : Nat)
    (noInit : Tryd.prog.inits.idxOf? n = none) (hf : Tryd.prog.funcs[n]? = some f)
    (hr : readsAll Tryd.prog f.params.toList = true) (hv : s.vars = []) (hrt : f.resultTypes = #[4])
    (hfn : ∀ (H : Type) (ds : List (DataW H)), ds.length = f.params.size → s.fn H ds = { results := [.lit (.bool true)], args := ds })
    (hsh : ((World.doorLaid Tryd.prog steps os).forCall (fun _ _ => 0) ⟨#[], args0, []⟩).Shaped Tryd.checked.prog)
    (hok : Input.okWideB Tryd.checked.prog ((World.doorLaid Tryd.prog steps os).forCall (fun _ _ => 0) ⟨#[], args0, []⟩) n ⟨#[], args0, []⟩ = true)
    (hpre : s.preB enc Tryd.checked.prog f [] false ((World.doorLaid Tryd.prog steps os).forCall (fun _ _ => 0) ⟨#[], args0, []⟩).memory args0 8 = true)
    (hsz : s.sizedB enc Tryd.checked.prog f false ((World.doorLaid Tryd.prog steps os).forCall (fun _ _ => 0) ⟨#[], args0, []⟩).memory args0 8 = true)
    (hx : laidMetH Tryd.prog laid ((World.doorLaid Tryd.prog steps os).forCall (fun _ _ => 0) ⟨#[], args0, []⟩).memory)
    (hos : (World.doorLaid Tryd.prog steps os).os = os)
    (walk : ∀ (W : World) (base : Nat) (args : Array Value) (ds : List (DataW H)) (p : List MemPlace), (∀ (j : Nat) t v, f.params[j]? = some t → args[j]? = some v → Value.okWide Tryd.prog W .any base t v) →
      DataW.TrodAll enc Tryd.prog W 0 (fun _ => true) true f.params.toList args.toList ds p → (∀ x ∈ p, x.block < W.heap.size) → laidMetH Tryd.prog laid W →
      Calls Tryd.prog n args W fun e w' => e = .returned (.bool true) ∧ Below W.heap.size W w') :
    ReturnsInHanded {} Tryd.checked os n .any (fun w args => (s.pre enc Tryd.prog f [] false w args ∧ laidMetH Tryd.prog laid w) ∧ sizedMet enc Tryd.prog f (OpenSpec.ofChange s) false w args)
      (s.post enc Tryd.prog f false true false false) := by
  refine returnsInHanded_of_change_and (C := Tryd.checked) (X := fun w _ => laidMetH Tryd.prog laid w) (fun _ _ _ hh h => h.of_heap hh) lift_own started noInit hf
    (ChangeSpec.witness_shaped (enc := enc) (C := Tryd.checked) (os := os) (X := fun w _ => laidMetH Tryd.prog laid w) false (World.doorLaid Tryd.prog steps os) args0 8 hos hsh hok hpre hsz hx) ?_
  intro W base args ds gs before hval hW _ _ hL _
  have hW0 := hW
  obtain ⟨p, q, hA, hV, rfl, hfz, hnd⟩ := hW
  have hV' : DataW.TrodVars enc Tryd.prog W (fun _ => true) [] gs q := by rw [hv] at hV; exact hV
  obtain ⟨rfl, rfl⟩ := trodVars_none hV'
  have hlen : ds.length = f.params.size := by
    have : ∀ {ts : List TypeId} {vs : List Value} {ds : List (DataW H)} {p : List MemPlace}, DataW.TrodAll enc Tryd.prog W 0 (fun _ => true) true ts vs ds p → ds.length = ts.length := by
      intro ts
      induction ts with
      | nil => intro vs ds p h; obtain ⟨_, rfl, _⟩ := trodAll_nil h; rfl
      | cons t ts ih =>
        intro vs ds p h
        obtain ⟨v, vs', d, ds', p1, q1, rfl, rfl, rfl, h0, h1⟩ := trodAll_cons h
        simp [ih h1]
    rw [this hA, Array.length_toList]
  refine (walk W base args ds p hval hA (fun x hx => hW0.lt x (List.mem_append_left _ hx)) hL).mono fun e W' ⟨he, bel⟩ => ?_
  have h5 : s.fn H (ds ++ []) = { results := [.lit (.bool true)], args := ds } := (congrArg (s.fn H) (List.append_nil ds)).trans (hfn H ds hlen)
  exact ⟨_, he, law_post hr hv hrt h5 hW0 bel⟩
/- arguments, opened -/
def u8s (zs : List Int) : List UInt8 := zs.map fun z => UInt8.ofNat z.toNat
theorem u8s_len (zs : List Int) : (u8s zs).length = zs.length := by simp [u8s]
theorem u8_back {z : Int} (h : (Lit.int .u8 z).wf = true) : ((UInt8.ofNat z.toNat).toNat : Int) = z := by
  have hb := bounds_u8 h
  rw [UInt8.toNat_ofNat']
  have : z.toNat % 2 ^ 8 = z.toNat := Nat.mod_eq_of_lt (by omega)
  rw [this]
  omega
theorem bytes_of_ints {W : World} {B : Nat} {A : Option Addr} {n c : Nat} {zs : List Int} (hz : zs.length = c) (hn : n ≤ c) (hwf : ∀ z ∈ zs, (Lit.int .u8 z).wf = true)
    (hc : 0 < n → ∃ ad, A = some ad ∧ ad.block < B ∧ ∀ i, i < c → W.cell? (ad.add i) = some (.int .u8 (zs.getD i 0))) : BytesAt W B A (u8s (zs.take n)) := by
  have hlen : (u8s (zs.take n)).length = n := by rw [u8s_len, List.length_take]; omega
  refine ⟨by rw [byts_length]; omega, fun h0 => ?_⟩
  obtain ⟨ad, e, hb, hcell⟩ := hc (by omega)
  refine ⟨ad, e, hb, fun j u hu => ?_⟩
  have hj : j < n := by
    have := (List.getElem?_eq_some_iff.1 hu).1
    rw [byts_length, hlen] at this
    exact this
  have hj2 : j < zs.length := by omega
  rw [hcell j (by omega), ← hu]
  have hw := u8_back (hwf _ (List.getElem_mem hj2))
  simp only [byts, u8s, List.map_map, List.getElem?_map, List.getElem?_take_of_lt hj, List.getElem?_eq_getElem hj2, Option.map_some, Function.comp, List.getD, Option.getD_some]
  rw [hw]

section
variable {H : Type} {enc : TypeId × Value → H}
theorem open_bytes {W : World} {A : Option Addr} {n c : Nat} {d : DataW H} {p : List MemPlace} (h : DataW.Trod enc Tryd.prog W 0 (fun _ => true) true 23 (.slice A n c) d p) :
    ∃ l : List UInt8, l.length = n ∧ n ≤ c ∧ c ≤ maxLen ∧ BytesAt W W.heap.size A l := by
  obtain ⟨fuel, hf⟩ := h
  rcases open_ints Tryd.underlying23 Tryd.underlying5 (by kernel_rfl) hf with ⟨hcs, hx⟩ | ⟨a, len', cap', zs, hcs, _, hl, hm, hz, hx, hcell, hwz⟩
  · simp [Value.cells] at hcs
    obtain ⟨rfl, rfl, rfl⟩ := hcs
    exact ⟨[], rfl, Nat.le_refl _, Nat.zero_le _, rfl, fun h => absurd h (by simp)⟩
  · simp [Value.cells] at hcs
    obtain ⟨rfl, rfl, rfl⟩ := hcs
    simp only [if_true] at hz
    refine ⟨u8s (zs.take n), by rw [u8s_len, List.length_take]; omega, hl, hm, bytes_of_ints hz hl hwz fun h0 => ⟨a, rfl, ?_, fun i hi => hcell i (by omega)⟩⟩
    have := World.block_lt_of_cell? W _ (hcell 0 (by omega))
    rwa [block_of_add] at this

theorem open_byte_rows {W : World} {A : Option Addr} {n c : Nat} {d : DataW H} {p : List MemPlace} (h : DataW.Trod enc Tryd.prog W 0 (fun _ => true) true 22 (.slice A n c) d p) :
    ∃ ls : List (List UInt8), ls.length = n ∧ n ≤ c ∧ c ≤ maxLen ∧ RowsAt W W.heap.size A ls := by
  obtain ⟨fuel, hf⟩ := h
  rcases Go.Deep.open_int_rows Tryd.underlying22 Tryd.underlying23 Tryd.underlying5 (by kernel_rfl) (by kernel_rfl) hf with ⟨hcs, hx⟩ | ⟨a, len', cap', A', L, C, Z, hcs, _, hl, hm, hx, hr⟩
  · simp [Value.cells] at hcs
    obtain ⟨rfl, rfl, rfl⟩ := hcs
    exact ⟨[], rfl, Nat.le_refl _, Nat.zero_le _, fun h => absurd h (by simp)⟩
  · simp [Value.cells] at hcs
    obtain ⟨rfl, rfl, rfl⟩ := hcs
    refine ⟨(List.range n).map fun r => u8s ((Z r).take (L r)), by simp, hl, hm, fun h0 => ⟨a, rfl, ?_, fun i hi => ?_⟩⟩
    · have h1 : 0 < n := by simpa using h0
      have := World.block_lt_of_cell? W _ (hr 0 (by omega)).1
      rwa [block_of_add] at this
    · have hi' : i < n := by simpa using hi
      obtain ⟨h1, h2, h3, h4, h5, h6, h7⟩ := hr i (by omega)
      have hlen : (u8s ((Z i).take (L i))).length = L i := by rw [u8s_len, List.length_take]; omega
      refine ⟨A' i, C i, ?_, ?_, ?_⟩
      · simpa [hlen] using h1
      · simpa [hlen] using h2
      · have := bytes_of_ints (W := W) (B := W.heap.size) (A := A' i) h4 h2 h5 (fun hp => by
          cases e : A' i with
          | none => have := h6 e; omega
          | some ad =>
            refine ⟨ad, rfl, ?_, (h7 ad e).2⟩
            have := World.block_lt_of_cell? W _ ((h7 ad e).2 0 (by omega))
            rwa [block_of_add] at this)
        simpa using this
end

/- an array of four octets, by value -/
theorem okWide_array4 {P : Program} {W : World} {r : Reach} {b0 n : Nat} {t e : TypeId} {v : Value} (ht : P.underlying t = some (.array n e)) (h : Value.okWide P W r b0 t v) : ∃ cs, v = .agg cs ∧ cs.size = P.cellsOf t := by
  simp only [Value.okWide, ht] at h
  obtain ⟨cs, h1, h2, _⟩ := h
  exact ⟨cs, h1, h2⟩
set_option maxRecDepth 100000 in
theorem open_four {H : Type} {enc : TypeId × Value → H} {W : World} {b0 : Nat} {v : Value} {d : DataW H} {p : List MemPlace} (hv : Value.okWide Tryd.prog W .any b0 34 v)
    (h : DataW.Trod enc Tryd.prog W 0 (fun _ => true) true 34 v d p) : ∃ y0 y1 y2 y3 : UInt8, v = .agg #[.int .u8 (y0.toNat : Int), .int .u8 (y1.toNat : Int), .int .u8 (y2.toNat : Int), .int .u8 (y3.toNat : Int)] := by
  obtain ⟨cs, rfl, hsz⟩ := okWide_array4 Tryd.underlying34 hv
  have c4 : Tryd.prog.cellsOf 34 = 4 := by kernel_rfl
  have c1 : Tryd.prog.cellsOf 5 = 1 := by kernel_rfl
  rw [c4] at hsz
  obtain ⟨l⟩ := cs
  match l, hsz with
  | [a, b, c, e], _ =>
    obtain ⟨fuel, hf⟩ := h
    obtain ⟨xs, m, _, _, _, hlen, hel⟩ := DataW.trod_array Tryd.underlying34 hf
    rw [c1] at hel
    have one : ∀ i u, i < 4 → ([a, b, c, e].drop (i * 1)).take 1 = [u] → ∃ y : UInt8, u = .int .u8 (y.toNat : Int) := fun i u hi hu => by
      have := hel i hi
      have hcs : (Value.agg ⟨[a, b, c, e]⟩).cells.toList = [a, b, c, e] := rfl
      rw [hcs, hu, List.getElem?_eq_getElem (by omega)] at this
      obtain ⟨z, e1, _, e3⟩ := DataW.trod_int Tryd.underlying5 this
      refine ⟨UInt8.ofNat z.toNat, ?_⟩
      rw [u8_back e3]
      simpa using e1
    obtain ⟨y0, rfl⟩ := one 0 a (by omega) rfl
    obtain ⟨y1, rfl⟩ := one 1 b (by omega) rfl
    obtain ⟨y2, rfl⟩ := one 2 c (by omega) rfl
    obtain ⟨y3, rfl⟩ := one 3 e (by omega) rfl
    exact ⟨y0, y1, y2, y3, rfl⟩

/- the table -/
def halfName : String := Rows.crcSumsRow.named.headD ""
theorem half_g : Tryd.prog.globalNamed halfName = some 0 := by kernel_rfl
theorem half_t : (Tryd.prog.globals[0]?).map (·.type) = some 79 := by kernel_rfl
def halfI : List Int := [0, 498536548, 997073096, 651767980, 1994146192, 1802195444, 1303535960, 1342533948, 3988292384, 4027552580, 3604390888, 3412177804, 2607071920, 2262029012, 2685067896, 3183342108]
theorem halfI_eq : ∀ i, i < 16 → halfI.getD i 0 = ((halfN i : Nat) : Int) := by decide
theorem laid_eq : Rows.crcSumsRow.laid = [(halfName, Lib.tabData .u32 halfI)] := rfl
theorem half_at {W : World} (h : laidMetH Tryd.prog Rows.crcSumsRow.laid W) : HalfAt W := by
  rw [MakeChecks.laidMetH_plain _ _ _ (by kernel_rfl), laid_eq] at h
  have hT := Lib.tabIs_of_head half_g half_t Tryd.underlying79 Tryd.underlying27 (by kernel_rfl) (by kernel_rfl) h
  have h16 : ∀ i, i < 16 → W.cell? ⟨0, i, none⟩ = some (.int .u32 (halfN i : Nat)) := fun i hi => by
    have := hT.cell half_g i (by simpa [halfI] using hi)
    rw [this, halfI_eq i hi]
  refine ⟨?_, h16⟩
  have := World.block_lt_of_cell? W _ (h16 0 (by decide))
  exact Nat.lt_of_le_of_lt (Nat.zero_le _) this
end Go.Proofs.YtenhjnicadjbaaaDoor
