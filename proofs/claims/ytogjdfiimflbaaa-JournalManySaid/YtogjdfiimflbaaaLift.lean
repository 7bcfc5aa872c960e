/-
  A law's row out of its walk: for every input the call returns true and writes nothing that was there. Conditions: those that each theorem names.
-/
import Derived.Test.YtogjdfiimflbaaaBase
import Derived.ProofKit
import Derived.LaidMore
import Derived.OpenShut
import Derived.Stop.Joined
import Derived.Lib.LaidTab
import Derived.Deep.Slices
import Derived.Deep.Matrix
namespace Go.Proofs.Ytogjdfiimflbaaa
open Go Go.RowKit Go.ChangeShapes Go.WideShapes

theorem lift_own : ownKnob Try.prog.godebug = none := by kernel_rfl
set_option maxRecDepth 100000 in
theorem lift_laidOut : laidOutB Try.prog = true := by kernel_rfl

/-- Every parameter's type can be read. -/
def readsAll (P : Program) (ts : List TypeId) : Bool := ts.all fun t => P.readableRec t && decide (t < P.types.size)

theorem trodAll_below {H : Type} {enc : TypeId × Value → H} {P : Program} (hl : laidOutB P = true) {W W' : World} (hb : Below W.heap.size W W') :
    ∀ {ts : List TypeId} {vs : List Value} {ds : List (DataW H)} {p : List MemPlace}, readsAll P ts = true → (∀ x ∈ p, x.block < W.heap.size) →
      DataW.TrodAll enc P W 0 (fun _ => true) true ts vs ds p → DataW.TrodAll enc P W' 0 (fun b => decide (b < W.heap.size)) true ts vs ds p
  | [], vs, ds, p, _, _, h => by
    obtain ⟨rfl, rfl, rfl⟩ := trodAll_nil h
    exact trodAll_mk0
  | t :: ts, vs, ds, p, hr, hlt, h => by
    obtain ⟨v, vs', d, ds', p1, q1, rfl, rfl, rfl, h0, h1⟩ := trodAll_cons h
    have h3 : (P.readableRec t = true ∧ t < P.types.size) ∧ readsAll P ts = true := by
      unfold readsAll at hr ⊢
      rw [List.all_cons, Bool.and_eq_true, Bool.and_eq_true, decide_eq_true_eq] at hr
      exact hr
    exact trodAll_cons_mk (Below.trod hl h3.1.1 h3.1.2 h0 hb fun x hx => hlt x (List.mem_append_left _ hx))
      (trodAll_below hl hb h3.2 (fun x hx => hlt x (List.mem_append_right _ hx)) h1)

theorem law_post {H : Type} {enc : TypeId × Value → H} {f : Func} {s : ChangeSpec} {W W' : World} {args : Array Value} {ds gs : List (DataW H)} {before : List MemPlace}
    (hr : readsAll Try.prog f.params.toList = true) (hv : s.vars = []) (hrt : f.resultTypes = #[4]) (hfn : s.fn H (ds ++ gs) = { results := [.lit (.bool true)], args := ds })
    (hW : DataW.Whole enc Try.prog f.params.toList s.vars false W args.toList ds gs before) (hb : Below W.heap.size W W') :
    s.post enc Try.prog f false true false false W args (.bool true) W' := by
  have hW0 := hW
  obtain ⟨p, q, hA, hV, rfl, hfz, hnd⟩ := hW
  refine ⟨ds, gs, _, [], p, [], hW0, ?_, ?_, ?_, hb.frame _, fun h => by cases h⟩
  · rw [hfn, hrt]
    exact trodAll_mk1 (shut_bool Try.underlying4 _)
  · rw [hfn]
    exact trodAll_below lift_laidOut hb hr (fun x hx => hW0.lt x (List.mem_append_left _ hx)) hA
  · rw [hfn, hv]
    exact rfl

set_option maxRecDepth 100000 in
theorem lift_plain {os : Os} (started : os.Started) {H : Type} {enc : TypeId × Value → H} {n : Nat} {f : Func} {s : ChangeSpec} (args0 : Array Value)
    (noInit : Try.prog.inits.idxOf? n = none) (hf : Try.prog.funcs[n]? = some f)
    (hr : readsAll Try.prog f.params.toList = true) (hv : s.vars = []) (hrt : f.resultTypes = #[4])
    (hfn : ∀ (H : Type) (ds : List (DataW H)), ds.length = f.params.size → s.fn H ds = { results := [.lit (.bool true)], args := ds })
    (k1 : (World.plainHolding Try.checked.prog os ⟨#[], args0, []⟩).variablesB Try.checked.prog = true)
    (k2 : ((World.plainHolding Try.checked.prog os ⟨#[], args0, []⟩).heap.toList.drop Try.checked.prog.globals.size).take ((begin Try.checked.prog (fun _ _ => 0) default).world.heap.size - Try.checked.prog.globals.size) =
      (begin Try.checked.prog (fun _ _ => 0) default).world.heap.toList.drop Try.checked.prog.globals.size)
    (k3 : Input.okWideB Try.checked.prog (World.plainHolding Try.checked.prog os ⟨#[], args0, []⟩) n ⟨#[], args0, []⟩ = true)
    (k4 : s.preB enc Try.checked.prog f [] false (World.plainHolding Try.checked.prog os ⟨#[], args0, []⟩).memory args0 8 = true)
    (k5 : s.sizedB enc Try.checked.prog f false (World.plainHolding Try.checked.prog os ⟨#[], args0, []⟩).memory args0 8 = true)
    (walk : ∀ (W : World) (base : Nat) (args : Array Value) (ds : List (DataW H)) (p : List MemPlace), (∀ (j : Nat) t v, f.params[j]? = some t → args[j]? = some v → Value.okWide Try.prog W .any base t v) →
      DataW.TrodAll enc Try.prog W 0 (fun _ => true) true f.params.toList args.toList ds p → (∀ x ∈ p, x.block < W.heap.size) →
      Calls Try.prog n args W fun e w' => e = .returned (.bool true) ∧ Below W.heap.size W w') :
    ReturnsInHanded {} Try.checked os n .any (s.pre6 enc Try.prog f [] false) (s.post enc Try.prog f false true false false) := by
  refine returnsInHanded_of_change (C := Try.checked) lift_own started noInit hf (ChangeSpec.witness6 (enc := enc) (C := Try.checked) false ⟨#[], args0, []⟩ 8 k1 k2 k3 k4 k5) ?_
  intro W base args ds gs before hval hW _ _
  have hW0 := hW
  obtain ⟨p, q, hA, hV, rfl, hfz, hnd⟩ := hW
  have hV' : DataW.TrodVars enc Try.prog W (fun _ => true) [] gs q := by rw [hv] at hV; exact hV
  obtain ⟨rfl, rfl⟩ := trodVars_none hV'
  have hlen : ds.length = f.params.size := by
    have : ∀ {ts : List TypeId} {vs : List Value} {ds : List (DataW H)} {p : List MemPlace}, DataW.TrodAll enc Try.prog W 0 (fun _ => true) true ts vs ds p → ds.length = ts.length := by
      intro ts
      induction ts with
      | nil => intro vs ds p h; obtain ⟨_, rfl, _⟩ := trodAll_nil h; rfl
      | cons t ts ih =>
        intro vs ds p h
        obtain ⟨v, vs', d, ds', p1, q1, rfl, rfl, rfl, h0, h1⟩ := trodAll_cons h
        simp [ih h1]
    rw [this hA, Array.length_toList]
  refine (walk W base args ds p hval hA (fun x hx => hW0.lt x (List.mem_append_left _ hx))).mono fun e W' ⟨he, bel⟩ => ?_
  have h5 : s.fn H (ds ++ []) = { results := [.lit (.bool true)], args := ds } := (congrArg (s.fn H) (List.append_nil ds)).trans (hfn H ds hlen)
  exact ⟨_, he, law_post hr hv hrt h5 hW0 bel⟩
/- arguments, opened -/
def u8s (zs : List Int) : List UInt8 := zs.map fun z => UInt8.ofNat z.toNat
theorem u8s_len (zs : List Int) : (u8s zs).length = zs.length := by simp [u8s]
theorem u8_back {z : Int} (h : (Lit.int .u8 z).wf = true) : ((UInt8.ofNat z.toNat).toNat : Int) = z := by
  have hb := bounds_u8 h
  rw [UInt8.toNat_ofNat']
  have : z.toNat % 2 ^ 8 = z.toNat := Nat.mod_eq_of_lt (by omega)
  rw [this]
  omega
theorem bytes_of_ints {W : World} {B : Nat} {A : Option Addr} {n c : Nat} {zs : List Int} (hz : zs.length = c) (hn : n ≤ c) (hwf : ∀ z ∈ zs, (Lit.int .u8 z).wf = true)
    (hc : 0 < n → ∃ ad, A = some ad ∧ ad.block < B ∧ ∀ i, i < c → W.cell? (ad.add i) = some (.int .u8 (zs.getD i 0))) : BytesAt W B A (u8s (zs.take n)) := by
  have hlen : (u8s (zs.take n)).length = n := by rw [u8s_len, List.length_take]; omega
  refine ⟨by rw [byts_length]; omega, fun h0 => ?_⟩
  obtain ⟨ad, e, hb, hcell⟩ := hc (by omega)
  refine ⟨ad, e, hb, fun j u hu => ?_⟩
  have hj : j < n := by
    have := (List.getElem?_eq_some_iff.1 hu).1
    rw [byts_length, hlen] at this
    exact this
  have hj2 : j < zs.length := by omega
  rw [hcell j (by omega), ← hu]
  have hw := u8_back (hwf _ (List.getElem_mem hj2))
  simp only [byts, u8s, List.map_map, List.getElem?_map, List.getElem?_take_of_lt hj, List.getElem?_eq_getElem hj2, Option.map_some, Function.comp, List.getD, Option.getD_some]
  rw [hw]

section
variable {H : Type} {enc : TypeId × Value → H}
theorem open_bytes {W : World} {A : Option Addr} {n c : Nat} {d : DataW H} {p : List MemPlace} (h : DataW.Trod enc Try.prog W 0 (fun _ => true) true 22 (.slice A n c) d p) :
    ∃ l : List UInt8, l.length = n ∧ n ≤ c ∧ c ≤ maxLen ∧ BytesAt W W.heap.size A l := by
  obtain ⟨fuel, hf⟩ := h
  rcases open_ints Try.underlying22 Try.underlying5 (by kernel_rfl) hf with ⟨hcs, hx⟩ | ⟨a, len', cap', zs, hcs, _, hl, hm, hz, hx, hcell, hwz⟩
  · simp [Value.cells] at hcs
    obtain ⟨rfl, rfl, rfl⟩ := hcs
    exact ⟨[], rfl, Nat.le_refl _, Nat.zero_le _, rfl, fun h => absurd h (by simp)⟩
  · simp [Value.cells] at hcs
    obtain ⟨rfl, rfl, rfl⟩ := hcs
    simp only [if_true] at hz
    refine ⟨u8s (zs.take n), by rw [u8s_len, List.length_take]; omega, hl, hm, bytes_of_ints hz hl hwz fun h0 => ⟨a, rfl, ?_, fun i hi => hcell i (by omega)⟩⟩
    have := World.block_lt_of_cell? W _ (hcell 0 (by omega))
    rwa [block_of_add] at this

end
end Go.Proofs.Ytogjdfiimflbaaa
