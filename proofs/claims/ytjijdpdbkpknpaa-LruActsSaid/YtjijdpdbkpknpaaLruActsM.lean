/-
  Deeds in memory, and both caches side by side. No walk.
-/
import Derived.Test.YtjijdpdbkpknpaaRcNew
import Derived.Test.YtjijdpdbkpknpaaLruSameH
import Derived.Test.YtjijdpdbkpknpaaLruNone
namespace Go.Proofs.Ytjijdpdbkpknpaa
open Go Go.RowKit

structure AE where
  kind : Int
  h : Hd
  l : Loc
  ka : Option Addr
  ks : List ByteArray
  kc : Nat
def AE.cells (x : AE) : List Value := acs x.kind x.h x.l x.ka x.ks.length x.kc
theorem AE.len (x : AE) : x.cells.length = 19 := rfl
theorem AE.one (x : AE) : ∀ u ∈ x.cells, u.oneCell' = true := acs_one
theorem flat_get {α : Type} (f : α → List Value) (n : Nat) (hf : ∀ x, (f x).length = n) : ∀ (L : List α) (k : Nat) (hk : k < L.length) (j : Nat) (u : Value), (f L[k])[j]? = some u → ((L.map f).flatten)[k * n + j]? = some u
  | [], k, hk, _, _, _ => absurd hk (by simp)
  | x :: L, 0, _, j, u, hu => by
    have hu' : (f x)[j]? = some u := hu
    have hj := (List.getElem?_eq_some_iff.1 hu').1
    rw [List.map_cons, List.flatten_cons, Nat.zero_mul, Nat.zero_add, List.getElem?_append_left hj]
    exact hu'
  | x :: L, k + 1, hk, j, u, hu => by
    have ih := flat_get f n hf L k (by simpa using hk) j u (by simpa using hu)
    rw [List.map_cons, List.flatten_cons, List.getElem?_append_right (by rw [hf, Nat.succ_mul]; omega), hf, show (k + 1) * n + j - n = k * n + j by rw [Nat.succ_mul]; omega]
    exact ih
def arow (L : List AE) : List Value := (L.map AE.cells).flatten
def ActsAt (W : World) (B : Nat) (A : Option Addr) (L : List AE) : Prop :=
  Reads W B 19 A L.length (arow L) ∧ ∀ x ∈ L, HeldD W (fun q => q < B) x.h x.l ∧ Reach x.h ∧ Reads W B 1 x.ka x.ks.length (strs x.ks)
theorem ActsAt.below {W W' : World} {B : Nat} {A : Option Addr} {L : List AE} (h : ActsAt W B A L) (hb : Below B W W') : ActsAt W' B A L :=
  ⟨h.1.below hb, fun x hx => ⟨(h.2 x hx).1.keep (Same.of_below hb fun _ hq => hq), (h.2 x hx).2.1, (h.2 x hx).2.2.below hb⟩⟩
theorem act_info : (Try.prog.info? 49).map (·.size) = some 19 := by kernel_rfl
theorem act_desc : ∃ fs, Try.prog.underlying 49 = some (.struct fs) := ⟨_, Try.underlying49⟩
def actZero : Array Value := #[.int .i64 0, .string ⟨#[]⟩, .string ⟨#[]⟩, .slice none 0 0, .string ⟨#[]⟩, .string ⟨#[]⟩, .string ⟨#[]⟩, .int .i64 0, .string ⟨#[]⟩, .int .i64 0, .slice none 0 0, .int .i64 0, .int .i64 0, .int .i64 0, .int .i64 0, .int .u32 0, .slice none 0 0, .slice none 0 0, .slice none 0 0]
theorem act_zero : (Try.prog.info? 49).map (fun i => (i.zero, i.size)) = some (some (.agg actZero), 19) := by kernel_rfl
set_option maxRecDepth 100000 in
theorem zero_act (W : World) : (zeroValue 49).run Try.prog W = .ok (.agg actZero) W := by
  obtain ⟨i, hi, he⟩ := Option.map_eq_some_iff.1 act_zero
  injection he with h1 h2
  simp [zeroValue, typeInfo, hi, h1]
theorem cells_act_new (W : World) (x : AE) : (storeCells ⟨W.heap.size, 0, none⟩ x.cells).run Try.prog (W.alloc (.cells actZero 49)) = .ok () (W.alloc (.cells x.cells.toArray 49)) := by
  have := run_storeCells_new (P := Try.prog) W 49 actZero x.cells.toArray (by rw [act_info]; rfl) rfl (all_oneCell_toArray x.one)
  simpa using this
theorem load_act (W : World) (ad : Addr) (x : AE) (hc : ∀ j v, x.cells[j]? = some v → W.cell? (ad.add j) = some v) : (Instr.loadAt 49 (.pointer (some ad))).run Try.prog W = .ok (.agg x.cells.toArray) W := by
  obtain ⟨fs, he⟩ := act_desc
  exact run_loadAt_ad W ad _ x.cells _ hc he rfl (by rw [act_info, AE.len])
/-- a deed's block -/
def ABlk (W : World) (q : Nat) (x : AE) : Prop := Blk W q 49 x.cells.toArray
theorem ABlk.load {W : World} {q : Nat} {x : AE} (h : ABlk W q x) : (Instr.loadAt 49 (.pointer (some ⟨q, 0, none⟩))).run Try.prog W = .ok (.agg x.cells.toArray) W :=
  load_act W _ x fun j v hv => by
    rw [add_flat, Nat.zero_add, Blk.cell h, List.getElem?_toArray]
    exact hv
theorem ABlk.held {W : World} {q : Nat} {x : AE} (h : ABlk W q x) : (Instr.loadAt 40 (.pointer (some ⟨q, 1, none⟩))).run Try.prog W = .ok (.agg (hcs x.h x.l).toArray) W :=
  load_held W _ x.h x.l fun j v hv => by
    rw [add_flat, Blk.cell h, List.getElem?_toArray]
    show (acs x.kind x.h x.l x.ka x.ks.length x.kc)[1 + j]? = _
    unfold acs
    rw [show 1 + j = j + 1 by omega, List.getElem?_cons_succ, List.getElem?_append_left (List.getElem?_eq_some_iff.1 hv).1]
    exact hv
theorem ABlk.kind {W : World} {q : Nat} {x : AE} (h : ABlk W q x) : W.cell? ⟨q, 0, none⟩ = some (.int .i64 x.kind) := Blk.cell h 0
theorem ABlk.key {W : World} {q : Nat} {x : AE} (h : ABlk W q x) : W.cell? ⟨q, 1, none⟩ = some (.string x.h.key) := Blk.cell h 1
theorem ABlk.bytes {W : World} {q : Nat} {x : AE} (h : ABlk W q x) : W.cell? ⟨q, 17, none⟩ = some (.slice x.l.ay x.h.bytes.length x.l.cy) := Blk.cell h 17
theorem ABlk.keys {W : World} {q : Nat} {x : AE} (h : ABlk W q x) : W.cell? ⟨q, 18, none⟩ = some (.slice x.ka x.ks.length x.kc) := Blk.cell h 18

/-! both caches, the same of each -/
def TwoCR (B : Nat) (W0 : World) (gc gr : Nat) (S : CS) (W : World) : Prop :=
  ∃ Mc Mr, CacheAt W Mc gc S ∧ RefAt W Mr B gr S ∧ (∀ q, Mc q → ¬ Mr q) ∧ (∀ q, Mc q → B ≤ q) ∧ Below B W0 W
section
variable {B gc gr : Nat} {W0 W W' : World} {S S' : CS} {Mc Mr O : Nat → Prop}
theorem CacheAt.fr (H : CacheAt W Mc gc S) (hf : Fr O W W') (hO : ∀ q, O q → ¬ Mc q) : CacheAt W' Mc gc S := H.keep hf hO
theorem TwoCR.lift (H : TwoCR B W0 gc gr S W) (hb : Below W.heap.size W W') (hB : B ≤ W0.heap.size) : TwoCR B W0 gc gr S W' := by
  obtain ⟨Mc, Mr, h1, h2, h3, h4, h5⟩ := H
  exact ⟨Mc, Mr, h1.lift hb, h2.lift hb, h3, h4, h5.trans (hb.mono (Nat.le_trans hB h5.size))⟩
theorem TwoCR.below (H : TwoCR B W0 gc gr S W) : Below B W0 W := by
  obtain ⟨Mc, Mr, h1, h2, h3, h4, h5⟩ := H
  exact h5
theorem TwoCR.sok (H : TwoCR B W0 gc gr S W) : S.ok := by
  obtain ⟨Mc, Mr, h1, h2, h3, h4, h5⟩ := H
  exact h1.ok
/-- what is outside of both may be written, where it lies above B -/
theorem CacheTo.two {Mc' : Nat → Prop} (h1 : CacheAt W' Mc' gc S') (hM : ∀ q, Mc' q → Mc q ∨ W.heap.size ≤ q) (hf : Fr Mc W W') (hr : RefAt W Mr B gr S) (hd : ∀ q, Mc q → ¬ Mr q) (hB : ∀ q, Mc q → B ≤ q) :
    RefAt W' Mr B gr S ∧ (∀ q, Mc' q → ¬ Mr q) ∧ (B ≤ W.heap.size → ∀ q, Mc' q → B ≤ q) := by
  refine ⟨hr.fr hf fun q hq => ⟨hB q hq, hd q hq⟩, fun q hq e => ?_, fun hb q hq => ?_⟩
  · rcases hM q hq with k | k
    · exact hd q k e
    · have := (hr.low q e).2; omega
  · rcases hM q hq with k | k
    · exact hB q k
    · omega
theorem RefTo.two {Mr' : Nat → Prop} (hM : ∀ q, Mr' q → Mr q ∨ W.heap.size ≤ q) (hf : Fr Mr W W') (hc : CacheAt W Mc gc S) (hd : ∀ q, Mc q → ¬ Mr q) :
    CacheAt W' Mc gc S ∧ (∀ q, Mc q → ¬ Mr' q) := by
  refine ⟨hc.fr hf fun q hq e => hd q e hq, fun q hq e => ?_⟩
  rcases hM q e with k | k
  · exact hd q hq k
  · have := hc.low q hq; omega
end
/-- what the law's loop keeps -/
def ActsRel (B : Nat) (W0 : World) (gc gr bud i : Nat) (W : World) : Prop := ∃ S, TwoCR B W0 gc gr S W ∧ S.nd ∧ S.len ≤ i ∧ S.budget = bud ∧ sumC S.trial + sumC S.rest ≤ bud
end Go.Proofs.Ytjijdpdbkpknpaa
