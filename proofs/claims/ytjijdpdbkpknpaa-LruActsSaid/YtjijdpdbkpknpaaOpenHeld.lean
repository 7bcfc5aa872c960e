/-
  The row's opening that hands on the reach: each string that is read before the call takes at most so many bytes. And responses, opened. No condition.
-/
import Derived.Test.YtjijdpdbkpknpaaLift
import Derived.Test.YtjijdpdbkpknpaaLruMem
import Derived.SizedLaws
import Derived.Deep.Strs
import Derived.Deep.Grids
namespace Go.Proofs.Ytjijdpdbkpknpaa
open Go Go.RowKit Go.ChangeShapes Go.WideShapes

section
variable {H : Type}
theorem weights_left {P : Program} (us : List TypeId) (gs : List (DataW H)) : ∀ {ts : List TypeId} {ds : List (DataW H)}, ts.length = ds.length → ∀ n ∈ DataW.weightsEach P ts ds, n ∈ DataW.weightsEach P (ts ++ us) (ds ++ gs)
  | [], [], _, n, hn => by simp [DataW.weightsEach] at hn
  | t :: ts, d :: ds, h, n, hn => by
    simp only [DataW.weightsEach, List.mem_append] at hn
    show n ∈ DataW.weightsEach P (t :: (ts ++ us)) (d :: (ds ++ gs))
    simp only [DataW.weightsEach, List.mem_append]
    rcases hn with hn | hn
    · exact .inl hn
    · exact .inr (weights_left us gs (by simpa using h) n hn)
end
set_option maxRecDepth 100000 in
theorem lift_sized {os : Os} (started : os.Started) {H : Type} {enc : TypeId × Value → H} {n : Nat} {f : Func} {s : ChangeSpec} (args0 : Array Value)
    (noInit : Try.prog.inits.idxOf? n = none) (hf : Try.prog.funcs[n]? = some f)
    (hr : readsAll Try.prog f.params.toList = true) (hv : s.vars = []) (hrt : f.resultTypes = #[4])
    (hfn : ∀ (H : Type) (ds : List (DataW H)), ds.length = f.params.size → s.fn H ds = { results := [.lit (.bool true)], args := ds })
    (k1 : (World.plainHolding Try.checked.prog os ⟨#[], args0, []⟩).variablesB Try.checked.prog = true)
    (k2 : ((World.plainHolding Try.checked.prog os ⟨#[], args0, []⟩).heap.toList.drop Try.checked.prog.globals.size).take ((begin Try.checked.prog (fun _ _ => 0) default).world.heap.size - Try.checked.prog.globals.size) =
      (begin Try.checked.prog (fun _ _ => 0) default).world.heap.toList.drop Try.checked.prog.globals.size)
    (k3 : Input.okWideB Try.checked.prog (World.plainHolding Try.checked.prog os ⟨#[], args0, []⟩) n ⟨#[], args0, []⟩ = true)
    (k4 : s.preB enc Try.checked.prog f [] false (World.plainHolding Try.checked.prog os ⟨#[], args0, []⟩).memory args0 8 = true)
    (k5 : s.sizedB enc Try.checked.prog f false (World.plainHolding Try.checked.prog os ⟨#[], args0, []⟩).memory args0 8 = true)
    (walk : ∀ (W : World) (base : Nat) (args : Array Value) (ds : List (DataW H)) (p : List MemPlace), (∀ (j : Nat) t v, f.params[j]? = some t → args[j]? = some v → Value.okWide Try.prog W .any base t v) →
      DataW.TrodAll enc Try.prog W 0 (fun _ => true) true f.params.toList args.toList ds p → (∀ x ∈ p, x.block < W.heap.size) → (∀ n ∈ DataW.weightsEach Try.prog f.params.toList ds, n ≤ reachBytes) →
      Calls Try.prog n args W fun e w' => e = .returned (.bool true) ∧ Below W.heap.size W w') :
    ReturnsInHanded {} Try.checked os n .any (s.pre6 enc Try.prog f [] false) (s.post enc Try.prog f false true false false) := by
  refine returnsInHanded_of_change_sized (C := Try.checked) lift_own started noInit hf (ChangeSpec.witness6 (enc := enc) (C := Try.checked) false ⟨#[], args0, []⟩ 8 k1 k2 k3 k4 k5) ?_
  intro W base args ds gs before hval hW _ hsz _
  have hW0 := hW
  obtain ⟨p, q, hA, hV, rfl, hfz, hnd⟩ := hW
  have hV' : DataW.TrodVars enc Try.prog W (fun _ => true) [] gs q := by rw [hv] at hV; exact hV
  obtain ⟨rfl, rfl⟩ := trodVars_none hV'
  have hlen : ds.length = f.params.size := by
    have : ∀ {ts : List TypeId} {vs : List Value} {ds : List (DataW H)} {p : List MemPlace}, DataW.TrodAll enc Try.prog W 0 (fun _ => true) true ts vs ds p → ds.length = ts.length := by
      intro ts
      induction ts with
      | nil => intro vs ds p h; obtain ⟨_, rfl, _⟩ := trodAll_nil h; rfl
      | cons t ts ih =>
        intro vs ds p h
        obtain ⟨v, vs', d, ds', p1, q1, rfl, rfl, rfl, h0, h1⟩ := trodAll_cons h
        simp [ih h1]
    rw [this hA, Array.length_toList]
  refine (walk W base args ds p hval hA (fun x hx => hW0.lt x (List.mem_append_left _ hx)) (fun n hn => by
    have := List.all_eq_true.1 hsz n (weights_left _ _ (by rw [hlen, Array.length_toList]) n hn)
    exact of_decide_eq_true this)).mono fun e W' ⟨he, bel⟩ => ?_
  have h5 : s.fn H (ds ++ []) = { results := [.lit (.bool true)], args := ds } := (congrArg (s.fn H) (List.append_nil ds)).trans (hfn H ds hlen)
  exact ⟨_, he, law_post hr hv hrt h5 hW0 bel⟩

section
variable {H : Type} {enc : TypeId × Value → H} {W : World} {fuel : Nat} {v : Value} {x : DataW H × List MemPlace}
def Sz (t : TypeId) (d : DataW H) : Prop := ∀ n ∈ d.weights Try.prog t, n ≤ reachBytes
theorem Sz.part {t u : TypeId} {fs : Array Field} {ps : List (DataW H)} {d : DataW H} (hu : Try.prog.underlying t = some (.struct fs)) (h : Sz t (.agg ps)) {j : Nat} {f : Field} (hj : fs[j]? = some f) (hf : f.type = u) (hp : ps[j]? = some d) : Sz u d := fun n hn => by
  refine h n ?_
  simp only [DataW.weights, hu]
  subst hf
  exact DataW.weights_mem_each (j := j) (by simp [hj]) hp n hn
theorem weightsAll_mem {P : Program} {e : TypeId} : ∀ {l : List (DataW H)} {d : DataW H}, d ∈ l → ∀ n ∈ d.weights P e, n ∈ DataW.weightsAll P e l
  | y :: l, d, hd, n, hn => by
    simp only [DataW.weightsAll, List.mem_append]
    rcases List.mem_cons.1 hd with e | e
    · subst e; exact .inl hn
    · exact .inr (weightsAll_mem e n hn)
theorem Sz.elem {t e : TypeId} {l s : List (DataW H)} {d : DataW H} (hu : Try.prog.underlying t = some (.slice e)) (h : Sz t (.slice l s)) (hd : d ∈ l) : Sz e d := fun n hn => by
  refine h n ?_
  simp only [DataW.weights, hu, List.mem_cons, List.mem_append]
  exact .inr (.inl (weightsAll_mem hd n hn))
set_option maxRecDepth 100000 in
theorem Sz.str {t : TypeId} {s : ByteArray} (h : Sz (H := H) t (.lit (.string s.data.toList))) : s.size ≤ 140737488355328 := by
  have h3 : s.size = s.data.toList.length := by show s.data.size = s.data.toList.length; rw [Array.length_toList]
  have := h s.data.toList.length (by simp [DataW.weights])
  have h2 := reachBytes_lt
  omega

theorem str_cell (h : DataW.trod enc Try.prog W 0 (fun _ => true) true fuel 9 [v] = some x) : ∃ s : ByteArray, v = .string s ∧ x.1 = .lit (.string s.data.toList) := by
  obtain ⟨s, e1, e2, _⟩ := DataW.trod_string Try.underlying9 h
  exact ⟨s, by simpa using e1, by rw [e2]⟩
theorem int_cell (h : DataW.trod enc Try.prog W 0 (fun _ => true) true fuel 3 [v] = some x) : ∃ z : Int, v = .int .i64 z := by
  obtain ⟨z, e1, _, e3⟩ := DataW.trod_int Try.underlying3 h
  exact ⟨z, by simpa using e1⟩
theorem u32_cell (h : DataW.trod enc Try.prog W 0 (fun _ => true) true fuel 35 [v] = some x) : ∃ z : Int, v = .int .u32 z := by
  obtain ⟨z, e1, _, e3⟩ := DataW.trod_int Try.underlying35 h
  exact ⟨z, by simpa using e1⟩
theorem bytes_cell (h : DataW.trod enc Try.prog W 0 (fun _ => true) true fuel 27 [v] = some x) : ∃ (A : Option Addr) (l : List UInt8) (c : Nat), v = .slice A l.length c ∧ BytesAt W W.heap.size A l := by
  rcases open_ints Try.underlying27 Try.underlying5 (by kernel_rfl) h with ⟨hcs, _⟩ | ⟨a, len, cap, zs, hcs, _, hl, hm, hz, _, hcell, hwz⟩
  · obtain rfl : v = .slice none 0 0 := by simpa using hcs
    exact ⟨none, [], 0, rfl, BytesAt.nil _ _ _⟩
  · obtain rfl : v = .slice (some a) len cap := by simpa using hcs
    simp only [if_true] at hz
    have hlen : (u8s (zs.take len)).length = len := by rw [u8s_len, List.length_take]; omega
    refine ⟨some a, u8s (zs.take len), cap, by rw [hlen], ?_⟩
    refine bytes_of_ints hz hl hwz fun h0 => ⟨a, rfl, ?_, fun i hi => hcell i (by omega)⟩
    have := World.block_lt_of_cell? W _ (hcell 0 (by omega))
    rwa [block_of_add] at this
set_option maxRecDepth 100000 in
theorem strs_cell (h : DataW.trod enc Try.prog W 0 (fun _ => true) true fuel 28 [v] = some x) : ∃ (A : Option Addr) (l : List ByteArray) (c : Nat), v = .slice A l.length c ∧ Reads W W.heap.size 1 A l.length (strs l) := by
  rcases Go.Deep.open_strs Try.underlying28 Try.underlying9 (by kernel_rfl) h with ⟨hcs, _⟩ | ⟨a, len, cap, m, Sx, hcs, _, hl, hm, hmm, _, hcell⟩
  · obtain rfl : v = .slice none 0 0 := by simpa using hcs
    exact ⟨none, [], 0, rfl, ⟨rfl, fun h => absurd h (by simp)⟩⟩
  · obtain rfl : v = .slice (some a) len cap := by simpa using hcs
    simp only [if_true] at hmm
    have hlen : ((List.range len).map Sx).length = len := by simp
    refine ⟨some a, (List.range len).map Sx, cap, by rw [hlen], by simp [strs], fun h0 => ?_⟩
    rw [hlen] at h0
    refine ⟨a, rfl, ?_, fun j u hu => ?_⟩
    · have := World.block_lt_of_cell? W _ (hcell 0 (by omega)).1
      rwa [block_of_add] at this
    · have hj : j < len := by
        have := (List.getElem?_eq_some_iff.1 hu).1
        simpa [strs] using this
      rw [(hcell j (by omega)).1, ← hu]
      simp [strs, hj]
theorem trod_at {fs : Array Field} {cs : List Value} {xs : List (DataW H × List MemPlace)} {n : Nat} (hg : ∀ (i : Nat) (f : Field), fs[i]? = some f → DataW.trod enc Try.prog W 0 (fun _ => true) true n f.type ((cs.drop f.offset).take (Try.prog.cellsOf f.type)) = xs[i]?)
    (i t o c : Nat) (f : Field) (h1 : fs[i]? = some f) (h2 : f.type = t) (h3 : f.offset = o) (h4 : Try.prog.cellsOf t = c) : DataW.trod enc Try.prog W 0 (fun _ => true) true n t ((cs.drop o).take c) = xs[i]? := by
  subst h2 h3 h4
  exact hg i f h1
/-- a slice of structs of two cells -/
theorem pairs_cell {t e : TypeId} {α : Type} (f : α → Value × Value) (g : α → Prop) (Q : DataW H → Prop) (ht : Try.prog.underlying t = some (.slice e)) (hc : Try.prog.cellsOf e = 2)
    (hq : ∀ l s, x.1 = .slice l s → ∀ d ∈ l, Q d)
    (one : ∀ (n : Nat) (v0 v1 : Value) (y : DataW H × List MemPlace), DataW.trod enc Try.prog W 0 (fun _ => true) true n e [v0, v1] = some y → Q y.1 → ∃ z : α, v0 = (f z).1 ∧ v1 = (f z).2 ∧ g z) [Inhabited α]
    (h : DataW.trod enc Try.prog W 0 (fun _ => true) true fuel t [v] = some x) : ∃ (A : Option Addr) (l : List α) (c : Nat), v = .slice A l.length c ∧ (0 < l.length → ∃ ad, A = some ad ∧ ad.block < W.heap.size ∧ ∀ i (hi : i < l.length), W.cell? (ad.add (i * 2)) = some (f l[i]).1 ∧ W.cell? (ad.add (i * 2 + 1)) = some (f l[i]).2) ∧ ∀ z ∈ l, g z := by
  rcases Go.Deep.open_slice ht h with ⟨hcs, _⟩ | ⟨a, len, cap, m, k, D, Pl, hcs, _, hl, hm, hmm, hx, hi⟩
  · obtain rfl : v = .slice none 0 0 := by simpa using hcs
    exact ⟨none, [], 0, rfl, fun h => absurd h (by simp), fun z hz => by simp at hz⟩
  · obtain rfl : v = .slice (some a) len cap := by simpa using hcs
    simp only [if_true] at hmm
    rw [hc] at hi
    have one' : ∀ i, i < len → ∃ z : α, (W.cell? (a.add (i * 2)) = some (f z).1 ∧ W.cell? (a.add (i * 2 + 1)) = some (f z).2) ∧ g z := fun i hin => by
      obtain ⟨cs, hc', ht'⟩ := hi i (by omega)
      obtain ⟨_, hcl, hat⟩ := World.cells?_some hc'
      match cs, hcl with
      | [v0, v1], _ =>
        obtain ⟨z, e0, e1, hz⟩ := one k v0 v1 (D i, Pl i) ht' (hq ((List.range len).map D) _ (by rw [hx]) (D i) (List.mem_map_of_mem (List.mem_range.2 hin)))
        refine ⟨z, ⟨?_, ?_⟩, hz⟩
        · have := hat 0 (by omega)
          rw [add_of_add] at this
          exact this.trans (by rw [← e0]; rfl)
        · have := hat 1 (by omega)
          rw [add_of_add] at this
          exact this.trans (by rw [← e1]; rfl)
    have hch : ∀ i : Nat, ∃ z : α, i < len → (W.cell? (a.add (i * 2)) = some (f z).1 ∧ W.cell? (a.add (i * 2 + 1)) = some (f z).2) ∧ g z := fun i => by
      by_cases h : i < len
      · obtain ⟨z, hz⟩ := one' i h
        exact ⟨z, fun _ => hz⟩
      · exact ⟨default, fun h' => absurd h' h⟩
    obtain ⟨F, hF⟩ := Classical.axiomOfChoice hch
    refine ⟨some a, (List.range len).map F, cap, by simp, fun h0 => ⟨a, rfl, ?_, fun i hi' => ?_⟩, fun z hz => ?_⟩
    · have h1 : 0 < len := by simpa using h0
      have h2 := (hF 0 h1).1.1
      have := World.block_lt_of_cell? W _ h2
      rwa [block_of_add] at this
    · have hi2 : i < len := by simpa using hi'
      rw [List.getElem_map, List.getElem_range]
      exact (hF i hi2).1
    · obtain ⟨i, hi2, rfl⟩ := List.mem_map.1 hz
      exact (hF i (List.mem_range.1 hi2)).2

instance : Inhabited (ByteArray × ByteArray) := ⟨(⟨#[]⟩, ⟨#[]⟩)⟩
theorem pairs_reads {α : Type} (f : α → Value × Value) (F : List α → List Value) (hlen : ∀ l, (F l).length = l.length * 2) (hget : ∀ (l : List α) (k : Nat) (h : k < l.length), (F l)[k * 2]? = some (f l[k]).1 ∧ (F l)[k * 2 + 1]? = some (f l[k]).2)
    {A : Option Addr} {l : List α} (h : 0 < l.length → ∃ ad, A = some ad ∧ ad.block < W.heap.size ∧ ∀ i (hi : i < l.length), W.cell? (ad.add (i * 2)) = some (f l[i]).1 ∧ W.cell? (ad.add (i * 2 + 1)) = some (f l[i]).2) : Reads W W.heap.size 2 A l.length (F l) := by
  refine ⟨hlen l, fun h0 => ?_⟩
  obtain ⟨ad, e, hb, hc⟩ := h h0
  refine ⟨ad, e, hb, fun j u hu => ?_⟩
  have hj : j < l.length * 2 := by rw [← hlen]; exact (List.getElem?_eq_some_iff.1 hu).1
  have hk : j / 2 < l.length := by omega
  obtain ⟨g1, g2⟩ := hget l (j / 2) hk
  obtain ⟨c1, c2⟩ := hc (j / 2) hk
  rcases Nat.mod_two_eq_zero_or_one j with e2 | e2
  · rw [show j = j / 2 * 2 by omega] at hu ⊢
    rw [c1, ← hu, g1]
  · rw [show j = j / 2 * 2 + 1 by omega] at hu ⊢
    rw [c2, ← hu, g2]

/-- a response's seventeen cells, opened -/
def HeldOk (W : World) (h : Hd) (l : Loc) : Prop := HeldD W (· < W.heap.size) h l ∧ ∀ e ∈ h.fields, e.1.size ≤ 140737488355328 ∧ e.2.size ≤ 140737488355328
set_option maxRecDepth 100000 in
set_option maxHeartbeats 1000000 in
theorem held_cells {cs : List Value} (hcs : cs.length = 17) (h : DataW.trod enc Try.prog W 0 (fun _ => true) true fuel 40 cs = some x) (hz : Sz 40 x.1) : ∃ hd l, cs = _root_.Go.Proofs.Ytjijdpdbkpknpaa.hcs hd l ∧ HeldOk W hd l := by
  have ch : Try.prog.cellsOf 40 = 17 := by kernel_rfl
  have ce : Try.prog.cellsOf 38 = 15 := by kernel_rfl
  have c5 : Try.prog.cellsOf 31 = 5 := by kernel_rfl
  have c2 : Try.prog.cellsOf 34 = 2 := by kernel_rfl
  have cS : Try.prog.cellsOf 9 = 1 := by kernel_rfl
  have cI : Try.prog.cellsOf 3 = 1 := by kernel_rfl
  have cU : Try.prog.cellsOf 35 = 1 := by kernel_rfl
  have cB : Try.prog.cellsOf 27 = 1 := by kernel_rfl
  have cN : Try.prog.cellsOf 28 = 1 := by kernel_rfl
  have cF : Try.prog.cellsOf 32 = 1 := by kernel_rfl
  have cE : Try.prog.cellsOf 36 = 1 := by kernel_rfl
  have cFF : Try.prog.cellsOf 101 = 2 := by kernel_rfl
  have cEE : Try.prog.cellsOf 146 = 2 := by kernel_rfl
  obtain ⟨xs, m, _, hx, _, hlen, hg⟩ := DataW.trod_struct Try.underlying40 h
  rw [hx] at hz
  match cs, hcs with
  | [v0, v1, v2, v3, v4, v5, v6, v7, v8, v9, v10, v11, v12, v13, v14, v15, v16], _ =>
    match xs, hlen with
    | [y0, y1, y2], _ =>
      have gg := fun (i t o c : Nat) (f : Field) h1 h2 h3 h4 => trod_at hg i t o c f h1 h2 h3 h4
      obtain ⟨key, rfl, _⟩ := str_cell (v := v0) (gg 0 9 0 1 _ rfl rfl rfl cS)
      obtain ⟨ay, bytes, cy, rfl, hby⟩ := bytes_cell (v := v16) (gg 2 27 16 1 _ rfl rfl rfl cB)
      have gE : DataW.trod enc Try.prog W 0 (fun _ => true) true m 38 [v1, v2, v3, v4, v5, v6, v7, v8, v9, v10, v11, v12, v13, v14, v15] = some y1 := gg 1 38 1 15 _ rfl rfl rfl ce
      have hz1 : Sz 38 y1.1 := hz.part Try.underlying40 (j := 1) (u := 38) rfl rfl rfl
      obtain ⟨es, m2, _, hx2, _, hlen2, hg2⟩ := DataW.trod_struct Try.underlying38 gE
      rw [hx2] at hz1
      match es, hlen2 with
      | [z0, z1, z2, z3, z4, z5, z6, z7, z8, z9], _ =>
        have g2 := fun (i t o c : Nat) (f : Field) h1 h2 h3 h4 => trod_at hg2 i t o c f h1 h2 h3 h4
        obtain ⟨uri, rfl, _⟩ := str_cell (v := v1) (g2 0 9 0 1 _ rfl rfl rfl cS)
        obtain ⟨an, names, cn, rfl, hna⟩ := strs_cell (v := v2) (g2 1 28 1 1 _ rfl rfl rfl cN)
        obtain ⟨variant, rfl, _⟩ := str_cell (v := v3) (g2 2 9 2 1 _ rfl rfl rfl cS)
        have gS : DataW.trod enc Try.prog W 0 (fun _ => true) true m2 31 [v4, v5, v6, v7, v8] = some z3 := g2 3 31 3 5 _ rfl rfl rfl c5
        have gT : DataW.trod enc Try.prog W 0 (fun _ => true) true m2 34 [v10, v11] = some z5 := g2 5 34 9 2 _ rfl rfl rfl c2
        obtain ⟨order, rfl⟩ := int_cell (v := v12) (g2 6 3 11 1 _ rfl rfl rfl cI)
        obtain ⟨size, rfl⟩ := int_cell (v := v13) (g2 7 3 12 1 _ rfl rfl rfl cI)
        obtain ⟨sum, rfl⟩ := u32_cell (v := v14) (g2 8 35 13 1 _ rfl rfl rfl cU)
        have hz4 : Sz 32 z4.1 := hz1.part Try.underlying38 (j := 4) (u := 32) rfl rfl rfl
        obtain ⟨af, fields, cf, rfl, hfi, hre⟩ := pairs_cell (v := v9) (fun e : ByteArray × ByteArray => (Value.string e.1, Value.string e.2)) (fun e => e.1.size ≤ 140737488355328 ∧ e.2.size ≤ 140737488355328) (fun d => Sz 101 d) Try.underlying32 cFF
          (fun l s e d hd => by
            rw [e] at hz4
            exact hz4.elem Try.underlying32 hd)
          (fun n v0 v1 y ht hy => by
            obtain ⟨ws, m3, _, hx3, _, hlen3, hg3⟩ := DataW.trod_struct Try.underlying101 ht
            rw [hx3] at hy
            match ws, hlen3 with
            | [w0, w1], _ =>
              obtain ⟨s0, rfl, e0⟩ := str_cell (v := v0) (trod_at hg3 0 9 0 1 _ rfl rfl rfl cS)
              obtain ⟨s1, rfl, e1⟩ := str_cell (v := v1) (trod_at hg3 1 9 1 1 _ rfl rfl rfl cS)
              have q0 : Sz 9 w0.1 := hy.part Try.underlying101 (j := 0) (u := 9) rfl rfl rfl
              have q1 : Sz 9 w1.1 := hy.part Try.underlying101 (j := 1) (u := 9) rfl rfl rfl
              rw [e0] at q0
              rw [e1] at q1
              exact ⟨(s0, s1), rfl, rfl, q0.str, q1.str⟩)
          (g2 4 32 8 1 _ rfl rfl rfl cF)
        obtain ⟨ab, body, cb, rfl, hbo, _⟩ := pairs_cell (v := v15) (fun e : Int × Int => (Value.int .i64 e.1, Value.int .i64 e.2)) (fun _ => True) (fun _ => True) Try.underlying36 cEE
          (fun _ _ _ _ _ => trivial)
          (fun n v0 v1 y ht _ => by
            obtain ⟨ws, m3, _, _, _, hlen3, hg3⟩ := DataW.trod_struct Try.underlying146 ht
            match ws, hlen3 with
            | [w0, w1], _ =>
              obtain ⟨s0, rfl⟩ := int_cell (v := v0) (trod_at hg3 0 3 0 1 _ rfl rfl rfl cI)
              obtain ⟨s1, rfl⟩ := int_cell (v := v1) (trod_at hg3 1 3 1 1 _ rfl rfl rfl cI)
              exact ⟨(s0, s1), rfl, rfl, trivial⟩)
          (g2 9 36 14 1 _ rfl rfl rfl cE)
        obtain ⟨ss, m4, _, _, _, hlen4, hg4⟩ := DataW.trod_struct Try.underlying31 gS
        obtain ⟨ts, m5, _, _, _, hlen5, hg5⟩ := DataW.trod_struct Try.underlying34 gT
        match ss, hlen4 with
        | [p0, p1, p2, p3, p4], _ =>
          match ts, hlen5 with
          | [q0, q1], _ =>
            obtain ⟨method, rfl, _⟩ := str_cell (v := v4) (trod_at hg4 0 9 0 1 _ rfl rfl rfl cS)
            obtain ⟨target, rfl, _⟩ := str_cell (v := v5) (trod_at hg4 1 9 1 1 _ rfl rfl rfl cS)
            obtain ⟨status, rfl⟩ := int_cell (v := v6) (trod_at hg4 2 3 2 1 _ rfl rfl rfl cI)
            obtain ⟨reason, rfl, _⟩ := str_cell (v := v7) (trod_at hg4 3 9 3 1 _ rfl rfl rfl cS)
            obtain ⟨minor, rfl⟩ := int_cell (v := v8) (trod_at hg4 4 3 4 1 _ rfl rfl rfl cI)
            obtain ⟨asked, rfl⟩ := int_cell (v := v10) (trod_at hg5 0 3 0 1 _ rfl rfl rfl cI)
            obtain ⟨got, rfl⟩ := int_cell (v := v11) (trod_at hg5 1 3 1 1 _ rfl rfl rfl cI)
            have rF := pairs_reads (fun e : ByteArray × ByteArray => (Value.string e.1, Value.string e.2)) flds flds_len flds_get hfi
            have rB := pairs_reads (fun e : Int × Int => (Value.int .i64 e.1, Value.int .i64 e.2)) exts exts_len exts_get hbo
            exact ⟨⟨key, uri, variant, method, target, reason, status, minor, asked, got, order, size, sum, names, fields, body, bytes⟩, ⟨an, cn, af, cf, ab, cb, ay, cy⟩, rfl,
              ⟨hna, rF, rB, hby⟩, hre⟩

/-- a slice of responses, opened -/
theorem open_helds {A : Option Addr} {n c : Nat} {d : DataW H} {p : List MemPlace} (h : DataW.Trod enc Try.prog W 0 (fun _ => true) true 46 (.slice A n c) d p) (hz : Sz 46 d) :
    ∃ L : List (Hd × Loc), L.length = n ∧ Reads W W.heap.size 17 A n (hrow L) ∧ ∀ x ∈ L, HeldOk W x.1 x.2 := by
  obtain ⟨fuel, hf⟩ := h
  have ch : Try.prog.cellsOf 40 = 17 := by kernel_rfl
  rcases Go.Deep.open_slice Try.underlying46 hf with ⟨hcs, hx⟩ | ⟨a, len, cap, m, k, D, Pl, hcs, _, hl, hm, hmm, hx, hi⟩
  · simp [Value.cells] at hcs
    obtain ⟨rfl, rfl, rfl⟩ := hcs
    exact ⟨[], rfl, ⟨rfl, fun h => absurd h (by simp)⟩, fun x hx => by simp at hx⟩
  · simp [Value.cells] at hcs
    obtain ⟨rfl, rfl, rfl⟩ := hcs
    simp only [if_true] at hmm
    rw [ch] at hi
    have hd : d = .slice ((List.range n).map D) ((List.range (m - n)).map fun j => D (n + j)) := congrArg Prod.fst hx
    rw [hd] at hz
    have one : ∀ i, i < n → ∃ z : Hd × Loc, (∀ j u, (hcs z.1 z.2)[j]? = some u → W.cell? ((a.add (i * 17)).add j) = some u) ∧ HeldOk W z.1 z.2 := fun i hin => by
      obtain ⟨cs, hc', ht'⟩ := hi i (by omega)
      obtain ⟨_, hcl, hat⟩ := World.cells?_some hc'
      obtain ⟨hd, l, e, hok⟩ := held_cells hcl ht' (hz.elem Try.underlying46 (List.mem_map_of_mem (List.mem_range.2 hin)))
      refine ⟨(hd, l), fun j u hu => ?_, hok⟩
      rw [hat j (by have := (List.getElem?_eq_some_iff.1 hu).1; exact this), e]
      exact hu
    have hch : ∀ i : Nat, ∃ z : Hd × Loc, i < n → (∀ j u, (hcs z.1 z.2)[j]? = some u → W.cell? ((a.add (i * 17)).add j) = some u) ∧ HeldOk W z.1 z.2 := fun i => by
      by_cases h : i < n
      · obtain ⟨z, hz⟩ := one i h
        exact ⟨z, fun _ => hz⟩
      · exact ⟨(⟨⟨#[]⟩, ⟨#[]⟩, ⟨#[]⟩, ⟨#[]⟩, ⟨#[]⟩, ⟨#[]⟩, 0, 0, 0, 0, 0, 0, 0, [], [], [], []⟩, ⟨none, 0, none, 0, none, 0, none, 0⟩), fun h' => absurd h' h⟩
    obtain ⟨F, hF⟩ := Classical.axiomOfChoice hch
    have hll : ((List.range n).map F).length = n := by simp
    refine ⟨(List.range n).map F, hll, ⟨by rw [hrow_len, hll], fun h0 => ⟨a, rfl, ?_, fun j u hu => ?_⟩⟩, fun x hx => ?_⟩
    · have h2 := (hF 0 h0).1 0 _ rfl
      have := World.block_lt_of_cell? W _ h2
      rwa [block_of_add, block_of_add] at this
    · have hj : j < n * 17 := by
        have := (List.getElem?_eq_some_iff.1 hu).1
        rwa [hrow_len, hll] at this
      have hk : j / 17 < n := by omega
      have hk' : j / 17 < ((List.range n).map F).length := by rw [hll]; exact hk
      have e17 : j = j / 17 * 17 + j % 17 := by omega
      have hget : ((List.range n).map F)[j / 17] = F (j / 17) := by simp
      have hj17 : j % 17 < (hcs (F (j / 17)).1 (F (j / 17)).2).length := by rw [hcs_len]; omega
      have hu2 := hrow_get ((List.range n).map F) (j / 17) hk' (j % 17) (hcs (F (j / 17)).1 (F (j / 17)).2)[j % 17] (by rw [hget]; exact List.getElem?_eq_getElem hj17)
      rw [← e17, hu] at hu2
      have := (hF (j / 17) hk).1 (j % 17) _ (List.getElem?_eq_getElem hj17)
      rw [add_of_add, ← e17] at this
      rw [this, hu2]
    · obtain ⟨i, hi2, rfl⟩ := List.mem_map.1 hx
      exact (hF i (List.mem_range.1 hi2)).2
end
end Go.Proofs.Ytjijdpdbkpknpaa
