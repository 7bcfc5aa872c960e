/-
  A response in memory: its seventeen cells, what its slices read; loads, stores and slices of such values. Conditions: each theorem's own.
-/
import Derived.Test.YtjijdpdbkpknpaaBase
import Derived.Deep.MidRow
import Derived.Laws.CopyRow
import Derived.Deep.WholeRow
import Derived.Great.FillDense
import Derived.Great.BuildSlice
import Derived.StillTailTactics
namespace Go.Proofs.Ytjijdpdbkpknpaa
open Go Go.RowKit Go.Great

structure Hd where
  key : ByteArray
  uri : ByteArray
  variant : ByteArray
  method : ByteArray
  target : ByteArray
  reason : ByteArray
  status : Int
  minor : Int
  asked : Int
  got : Int
  order : Int
  size : Int
  sum : Int
  names : List ByteArray
  fields : List (ByteArray × ByteArray)
  body : List (Int × Int)
  bytes : List UInt8

structure Loc where
  an : Option Addr
  cn : Nat
  af : Option Addr
  cf : Nat
  ab : Option Addr
  cb : Nat
  ay : Option Addr
  cy : Nat

def strs (l : List ByteArray) : List Value := l.map Value.string
def flds (l : List (ByteArray × ByteArray)) : List Value := (l.map fun e => [Value.string e.1, Value.string e.2]).flatten
def exts (l : List (Int × Int)) : List Value := (l.map fun e => [Value.int .i64 e.1, Value.int .i64 e.2]).flatten
def fcost (l : List (ByteArray × ByteArray)) : Nat := (l.map fun e => e.1.size + e.2.size).sum
def costN (h : Hd) : Nat := 64 + h.key.size + h.bytes.length + fcost h.fields

/-- the seventeen cells -/
def hcs (h : Hd) (l : Loc) : List Value :=
  [.string h.key, .string h.uri, .slice l.an h.names.length l.cn, .string h.variant, .string h.method, .string h.target, .int .i64 h.status, .string h.reason, .int .i64 h.minor,
   .slice l.af h.fields.length l.cf, .int .i64 h.asked, .int .i64 h.got, .int .i64 h.order, .int .i64 h.size, .int .u32 h.sum, .slice l.ab h.body.length l.cb, .slice l.ay h.bytes.length l.cy]
theorem hcs_len (h : Hd) (l : Loc) : (hcs h l).length = 17 := rfl
theorem hcs_size (h : Hd) (l : Loc) : (hcs h l).toArray.size = 17 := rfl
theorem hcs_one {h : Hd} {l : Loc} : ∀ u ∈ hcs h l, u.oneCell' = true := by
  intro u hu
  simp only [hcs, List.mem_cons, List.not_mem_nil, or_false] at hu
  rcases hu with rfl | rfl | rfl | rfl | rfl | rfl | rfl | rfl | rfl | rfl | rfl | rfl | rfl | rfl | rfl | rfl | rfl <;> rfl
theorem hcs_all {h : Hd} {l : Loc} : (hcs h l).toArray.all (·.oneCell') = true := all_oneCell_toArray hcs_one
theorem strs_one {l : List ByteArray} : ∀ u ∈ strs l, u.oneCell' = true := by
  intro u hu
  obtain ⟨x, _, rfl⟩ := List.mem_map.1 hu
  rfl
theorem flds_one {l : List (ByteArray × ByteArray)} : ∀ u ∈ flds l, u.oneCell' = true := by
  intro u hu
  obtain ⟨s, hs, hu⟩ := List.mem_flatten.1 hu
  obtain ⟨x, _, rfl⟩ := List.mem_map.1 hs
  simp only [List.mem_cons, List.not_mem_nil, or_false] at hu
  rcases hu with rfl | rfl <;> rfl
theorem exts_one {l : List (Int × Int)} : ∀ u ∈ exts l, u.oneCell' = true := by
  intro u hu
  obtain ⟨s, hs, hu⟩ := List.mem_flatten.1 hu
  obtain ⟨x, _, rfl⟩ := List.mem_map.1 hs
  simp only [List.mem_cons, List.not_mem_nil, or_false] at hu
  rcases hu with rfl | rfl <;> rfl
theorem flds_len (l : List (ByteArray × ByteArray)) : (flds l).length = l.length * 2 := by
  induction l with
  | nil => rfl
  | cons a r ih =>
    have e : flds (a :: r) = Value.string a.1 :: Value.string a.2 :: flds r := rfl
    rw [e, List.length_cons, List.length_cons, ih, List.length_cons]
    omega
theorem exts_len (l : List (Int × Int)) : (exts l).length = l.length * 2 := by
  induction l with
  | nil => rfl
  | cons a r ih =>
    have e : exts (a :: r) = Value.int .i64 a.1 :: Value.int .i64 a.2 :: exts r := rfl
    rw [e, List.length_cons, List.length_cons, ih, List.length_cons]
    omega
theorem flds_get : ∀ (l : List (ByteArray × ByteArray)) (k : Nat) (h : k < l.length), (flds l)[k * 2]? = some (.string l[k].1) ∧ (flds l)[k * 2 + 1]? = some (.string l[k].2)
  | [], k, h => absurd h (by simp)
  | a :: r, 0, _ => ⟨rfl, rfl⟩
  | a :: r, k + 1, h => by
    have ih := flds_get r k (by simpa using h)
    have e : flds (a :: r) = Value.string a.1 :: Value.string a.2 :: flds r := rfl
    rw [e, show (k + 1) * 2 = k * 2 + 1 + 1 by omega, List.getElem?_cons_succ, List.getElem?_cons_succ, show k * 2 + 1 + 1 + 1 = (k * 2 + 1) + 1 + 1 by omega, List.getElem?_cons_succ, List.getElem?_cons_succ]
    exact ih
theorem exts_get : ∀ (l : List (Int × Int)) (k : Nat) (h : k < l.length), (exts l)[k * 2]? = some (.int .i64 l[k].1) ∧ (exts l)[k * 2 + 1]? = some (.int .i64 l[k].2)
  | [], k, h => absurd h (by simp)
  | a :: r, 0, _ => ⟨rfl, rfl⟩
  | a :: r, k + 1, h => by
    have ih := exts_get r k (by simpa using h)
    have e : exts (a :: r) = Value.int .i64 a.1 :: Value.int .i64 a.2 :: exts r := rfl
    rw [e, show (k + 1) * 2 = k * 2 + 1 + 1 by omega, List.getElem?_cons_succ, List.getElem?_cons_succ, show k * 2 + 1 + 1 + 1 = (k * 2 + 1) + 1 + 1 by omega, List.getElem?_cons_succ, List.getElem?_cons_succ]
    exact ih
theorem fcost_snoc (l : List (ByteArray × ByteArray)) (k : Nat) (h : k < l.length) : fcost (l.take (k + 1)) = fcost (l.take k) + (l[k].1.size + l[k].2.size) := by
  unfold fcost
  rw [List.take_succ_eq_append_getElem h, List.map_append, List.sum_append]
  simp
theorem fcost_take (l : List (ByteArray × ByteArray)) (k : Nat) : fcost (l.take k) ≤ fcost l := by
  have : fcost l = fcost (l.take k) + fcost (l.drop k) := by
    conv => lhs; rw [← List.take_append_drop k l]
    unfold fcost
    rw [List.map_append, List.sum_append]
  omega

/-! a slice that reads so, in blocks of which D holds -/
def ReadsD (w : World) (D : Nat → Prop) (size : Nat) (A : Option Addr) (n : Nat) (xs : List Value) : Prop :=
  xs.length = n * size ∧ (0 < n → ∃ ad, A = some ad ∧ D ad.block ∧ ∀ j u, xs[j]? = some u → w.cell? (ad.add j) = some u)
/-- the blocks of which D holds stay -/
def Same (D : Nat → Prop) (w w' : World) : Prop := ∀ q, D q → w'.heap[q]? = w.heap[q]?
theorem Same.refl (D : Nat → Prop) (w : World) : Same D w w := fun _ _ => rfl
theorem Same.trans {D : Nat → Prop} {a b c : World} (h : Same D a b) (k : Same D b c) : Same D a c := fun q hq => (k q hq).trans (h q hq)
theorem Same.weak {D E : Nat → Prop} {a b : World} (h : Same D a b) (hE : ∀ q, E q → D q) : Same E a b := fun q hq => h q (hE q hq)
theorem Same.of_below {B : Nat} {a b : World} {D : Nat → Prop} (h : Below B a b) (hD : ∀ q, D q → q < B) : Same D a b := fun q hq => h.block q (hD q hq)
section
variable {w w' : World} {D D' : Nat → Prop} {size n : Nat} {A : Option Addr} {xs : List Value}
theorem ReadsD.keep (h : ReadsD w D size A n xs) (hs : Same D w w') : ReadsD w' D size A n xs :=
  ⟨h.1, fun hn => by
    obtain ⟨ad, e, hd, hc⟩ := h.2 hn
    refine ⟨ad, e, hd, fun j u hu => ?_⟩
    have hb := hs ad.block hd
    rw [← hc j u hu]
    exact World.cell?_of_block (by rw [block_of_add]; exact hb)⟩
theorem ReadsD.weak (h : ReadsD w D size A n xs) (hD : ∀ q, D q → D' q) : ReadsD w D' size A n xs :=
  ⟨h.1, fun hn => by
    obtain ⟨ad, e, hd, hc⟩ := h.2 hn
    exact ⟨ad, e, hD _ hd, hc⟩⟩
theorem ReadsD.reads {B : Nat} (h : ReadsD w D size A n xs) (hD : ∀ q, D q → q < B) : Reads w B size A n xs := ⟨h.1, fun hn => by
    obtain ⟨ad, e, hd, hc⟩ := h.2 hn
    exact ⟨ad, e, hD _ hd, hc⟩⟩
theorem ReadsD.of_reads {B : Nat} (h : Reads w B size A n xs) : ReadsD w (· < B) size A n xs := h
theorem ReadsD.of_own {base : Nat} {e : TypeId} {c : Nat} (h : w.ownsRow base e size (.slice A n c) n xs) : ReadsD w (fun q => base ≤ q ∧ q < w.heap.size) size A n xs := by
  refine ⟨h.1, fun hn => ?_⟩
  obtain ⟨g, cap, hv, hb, hlt⟩ := h.form hn
  have hA : A = some ⟨g, 0, none⟩ := by injection hv
  subst hA
  refine ⟨_, rfl, ⟨?_, hlt⟩, h.cells (g := g) rfl⟩
  rcases h.2 with ⟨_, h0⟩ | ⟨g', cap', cur, hv', hb', _⟩
  · omega
  · cases hv'
    exact hb'
end

structure HeldD (w : World) (D : Nat → Prop) (h : Hd) (l : Loc) : Prop where
  names : ReadsD w D 1 l.an h.names.length (strs h.names)
  fields : ReadsD w D 2 l.af h.fields.length (flds h.fields)
  body : ReadsD w D 2 l.ab h.body.length (exts h.body)
  bytes : ReadsD w D 1 l.ay h.bytes.length (byts h.bytes)
theorem HeldD.keep {w w' : World} {D : Nat → Prop} {h : Hd} {l : Loc} (H : HeldD w D h l) (hs : Same D w w') : HeldD w' D h l := ⟨H.names.keep hs, H.fields.keep hs, H.body.keep hs, H.bytes.keep hs⟩
theorem HeldD.weak {w : World} {D D' : Nat → Prop} {h : Hd} {l : Loc} (H : HeldD w D h l) (hD : ∀ q, D q → D' q) : HeldD w D' h l := ⟨H.names.weak hD, H.fields.weak hD, H.body.weak hD, H.bytes.weak hD⟩

/-- not too great -/
def Hd.ok (h : Hd) : Prop := h.names.length ≤ 1000 ∧ h.fields.length ≤ 1000 ∧ h.body.length ≤ 1000 ∧ h.bytes.length ≤ 1000000 ∧ costN h ≤ 1048576

/-! rows of such values -/
def hrow (L : List (Hd × Loc)) : List Value := (L.map fun x => hcs x.1 x.2).flatten
theorem hrow_nil : hrow [] = [] := rfl
theorem hrow_cons (x : Hd × Loc) (L : List (Hd × Loc)) : hrow (x :: L) = hcs x.1 x.2 ++ hrow L := rfl
theorem hrow_append (a b : List (Hd × Loc)) : hrow (a ++ b) = hrow a ++ hrow b := by simp [hrow]
theorem hrow_len : ∀ (L : List (Hd × Loc)), (hrow L).length = L.length * 17
  | [] => rfl
  | x :: L => by rw [hrow_cons, List.length_append, hcs_len, hrow_len L, List.length_cons]; omega
theorem hrow_one {L : List (Hd × Loc)} : ∀ u ∈ hrow L, u.oneCell' = true := by
  intro u hu
  obtain ⟨s, hs, hu⟩ := List.mem_flatten.1 hu
  obtain ⟨x, _, rfl⟩ := List.mem_map.1 hs
  exact hcs_one u hu
theorem hrow_drop : ∀ (L : List (Hd × Loc)) (k : Nat), (hrow L).drop (k * 17) = hrow (L.drop k)
  | L, 0 => by simp
  | [], k + 1 => by simp [hrow]
  | x :: L, k + 1 => by
    rw [hrow_cons, List.drop_append, List.drop_of_length_le (by rw [hcs_len]; omega), List.nil_append, hcs_len, show (k + 1) * 17 - 17 = k * 17 by omega, hrow_drop L k, List.drop_succ_cons]
theorem hrow_take : ∀ (L : List (Hd × Loc)) (k : Nat), (hrow L).take (k * 17) = hrow (L.take k)
  | L, 0 => by simp [hrow]
  | [], k + 1 => by simp [hrow]
  | x :: L, k + 1 => by
    rw [hrow_cons, List.take_append, List.take_of_length_le (by rw [hcs_len]; omega), hcs_len, show (k + 1) * 17 - 17 = k * 17 by omega, hrow_take L k, List.take_succ_cons, hrow_cons]
theorem hrow_get (L : List (Hd × Loc)) (k : Nat) (hk : k < L.length) (j : Nat) (u : Value) (hu : (hcs L[k].1 L[k].2)[j]? = some u) : (hrow L)[k * 17 + j]? = some u := by
  have h := hrow_drop L k
  rw [List.drop_eq_getElem_cons hk, hrow_cons] at h
  rw [← List.getElem?_drop, h, List.getElem?_append_left (List.getElem?_eq_some_iff.1 hu).1]
  exact hu

/-! the type -/
theorem held_info : (Try.prog.info? 40).map (·.size) = some 17 := by kernel_rfl
theorem held_desc : ∃ fs, Try.prog.underlying 40 = some (.struct fs) := ⟨_, Try.underlying40⟩
theorem fld_info : (Try.prog.info? 101).map (·.size) = some 2 := by kernel_rfl
def heldZero : Array Value := #[.string ⟨#[]⟩, .string ⟨#[]⟩, .slice none 0 0, .string ⟨#[]⟩, .string ⟨#[]⟩, .string ⟨#[]⟩, .int .i64 0, .string ⟨#[]⟩, .int .i64 0, .slice none 0 0, .int .i64 0, .int .i64 0, .int .i64 0, .int .i64 0, .int .u32 0, .slice none 0 0, .slice none 0 0]
theorem held_zero : (Try.prog.info? 40).map (fun i => (i.zero, i.size, i.bytes)) = some (some (.agg heldZero), 17, 248) := by kernel_rfl

section
variable {P : Program}
theorem run_loadAt_ad (w : World) (ad : Addr) (ty : TypeId) (cs : List Value) (d : TypeDesc) (hc : ∀ j v, cs[j]? = some v → w.cell? (ad.add j) = some v)
    (hu : P.underlying ty = some d) (hd : d.isRow = true) (hi : (P.info? ty).map (·.size) = some cs.length) :
    (Instr.loadAt ty (.pointer (some ad))).run P w = .ok (.agg cs.toArray) w := by
  have hl : (loadCells ad cs.length).run P w = .ok cs.toArray w := run_loadCells_list (P := P) w ad cs hc
  have hv : (loadVar ty ad).run P w = .ok (.agg cs.toArray) w := by
    cases hq : P.info? ty with
    | none => simp [hq] at hi
    | some i =>
      have hs : i.size = cs.length := by simpa [hq] using hi
      have hagg : (isAgg ty).run P w = .ok true w := by
        unfold isAgg
        rw [Sem.run_bind, run_underlying hu w]
        cases d <;> simp_all
      simp [loadVar, Sem.run_bind, hagg, sizeOf, typeInfo, hq, hs, hl]
  simp only [Instr.loadAt, Instr.sureAddr, Sem.run_bind, Sem.run_pure, Result.andThen_ok, hv]
theorem wpList_load_run {ops : Array Oper} {rest : List Oper} {o : Oper} {a : Act} {w : World} {Q : Exit → Act → World → Prop} (hgd : o.guard = none) (ty : TypeId) (p : Operand) (ho : o.op = .load ty p) {x v : Value}
    (hl : (Instr.loadAt ty x).run P w = .ok v w) (hx : a.eval p = x) (h : wpList P ops Q rest (a.put o.dst v) w) : wpList P ops Q (o :: rest) a w :=
  wpList_plain hgd fun _ hK => by
    unfold Oper.wp execOp
    simp only [ho, hx, Sem.run_bind, hl, Result.andThen_ok, Sem.run_pure]
    exact hK _ _ h
end

theorem load_held (W : World) (ad : Addr) (h : Hd) (l : Loc) (hc : ∀ j v, (hcs h l)[j]? = some v → W.cell? (ad.add j) = some v) : (Instr.loadAt 40 (.pointer (some ad))).run Try.prog W = .ok (.agg (hcs h l).toArray) W := by
  obtain ⟨fs, he⟩ := held_desc
  exact run_loadAt_ad W ad _ (hcs h l) _ hc he rfl (by rw [held_info, hcs_len])
theorem blk_held {W : World} {g : Nat} {t : TypeId} {h : Hd} {l : Loc} (hb : Blk W g t (hcs h l).toArray) : ∀ j v, (hcs h l)[j]? = some v → W.cell? ((⟨g, 0, none⟩ : Addr).add j) = some v := fun j v hv => by
  rw [add_flat, Nat.zero_add, hb.cell, List.getElem?_toArray]
  exact hv
theorem load_held_blk (W : World) (g : Nat) (t : TypeId) (h : Hd) (l : Loc) (hb : Blk W g t (hcs h l).toArray) : (Instr.loadAt 40 (.pointer (some ⟨g, 0, none⟩))).run Try.prog W = .ok (.agg (hcs h l).toArray) W := load_held W _ h l (blk_held hb)
theorem store_held_new (W : World) (h : Hd) (l : Loc) : (Instr.storeAt 40 (.pointer (some ⟨W.heap.size, 0, none⟩)) (.agg (hcs h l).toArray)).run Try.prog (W.alloc (.cells heldZero 40)) = .ok () (W.alloc (.cells (hcs h l).toArray 40)) :=
  run_storeAt_new W _ heldZero (hcs h l).toArray (by rw [held_info]; rfl) rfl hcs_all
theorem cells_held_new (W : World) (h : Hd) (l : Loc) : (storeCells ⟨W.heap.size, 0, none⟩ (hcs h l)).run Try.prog (W.alloc (.cells heldZero 40)) = .ok () (W.alloc (.cells (hcs h l).toArray 40)) := by
  have := run_storeCells_new (P := Try.prog) W 40 heldZero (hcs h l).toArray (by rw [held_info]; rfl) rfl hcs_all
  simpa using this
/-- seventeen cells over a block's seventeen -/
theorem store_held_blk (W : World) (g : Nat) (t : TypeId) (cur : Array Value) (h : Hd) (l : Loc) (hb : Blk W g t cur) (hn : cur.size = 17) :
    (Instr.storeAt 40 (.pointer (some ⟨g, 0, none⟩)) (.agg (hcs h l).toArray)).run Try.prog W = .ok () (W.setRow g (hcs h l).toArray) := by
  have := run_storeCells_at (P := Try.prog) g 0 t (hcs h l) 0 cur W hb (by rw [hcs_len]; omega) hcs_one
  rw [show 0 + 0 = 0 from rfl, hcs_len, List.take_zero, List.nil_append, List.drop_of_length_le (by rw [Array.length_toList]; omega), List.append_nil] at this
  obtain ⟨i, hi, he⟩ := Option.map_eq_some_iff.1 held_info
  simp [Instr.storeAt, Instr.sureAddr, storeVar, sizeOf, typeInfo, hi, Value.cells, he, hcs_len, this]
theorem cells_held_blk (W : World) (g : Nat) (t : TypeId) (cur : Array Value) (h : Hd) (l : Loc) (hb : Blk W g t cur) (hn : cur.size = 17) :
    (storeCells ⟨g, 0, none⟩ (hcs h l)).run Try.prog W = .ok () (W.setRow g (hcs h l).toArray) := by
  have := run_storeCells_at (P := Try.prog) g 0 t (hcs h l) 0 cur W hb (by rw [hcs_len]; omega) hcs_one
  rw [show 0 + 0 = 0 from rfl, hcs_len, List.take_zero, List.nil_append, List.drop_of_length_le (by rw [Array.length_toList]; omega), List.append_nil] at this
  exact this
/-- a result that lies in a block -/
theorem load_var_blk (W : World) (g : Nat) (t : TypeId) (h : Hd) (l : Loc) (hb : Blk W g t (hcs h l).toArray) : (loadVar 40 ⟨g, 0, none⟩).run Try.prog W = .ok (.agg (hcs h l).toArray) W := by
  obtain ⟨fs, he⟩ := held_desc
  exact run_loadVar_mid W g 0 _ (hcs h l) _ (fun j v hv => by rw [Nat.zero_add, hb.cell, List.getElem?_toArray]; exact hv) he rfl (by rw [held_info, hcs_len])
theorem held_zero4 : ∃ i z, Try.prog.info? 40 = some i ∧ i.zero = some z ∧ z.cells = heldZero ∧ i.size = 17 ∧ i.bytes = 248 := by
  obtain ⟨i, hi, he⟩ := Option.map_eq_some_iff.1 held_zero
  injection he with h1 h2
  injection h2 with h2 h3
  exact ⟨i, _, hi, h1, rfl, h2, h3⟩
set_option maxRecDepth 100000 in
theorem zero_held (W : World) : (zeroValue 40).run Try.prog W = .ok (.agg heldZero) W := by
  obtain ⟨i, hi, he⟩ := Option.map_eq_some_iff.1 held_zero
  injection he with h1 h2
  simp [zeroValue, typeInfo, hi, h1]
/-- one response in a new slice -/
theorem slice_held (h : Hd) (l : Loc) (W : World) :
    (Instr.buildSlice 46 1 #[(0, .agg (hcs h l).toArray)]).run Try.prog W = .ok (.slice (some ⟨W.heap.size, 0, none⟩) 1 1) (W.alloc (.cells (hcs h l).toArray 40)) := by
  obtain ⟨i, z, hi, hz, hzc, hsz, _⟩ := held_zero4
  have hf := fill_whole (s := 17) (by omega) [.agg (hcs h l).toArray] ((Array.range (1 * i.size)).map (z.cells[· % z.cells.size]!)) (fun v hv => by
    rw [List.mem_singleton.1 hv]
    rfl) (by simp [hsz])
  refine run_buildSlice W _ 40 1 _ _ i z Try.underlying46 hi hz (by rw [hsz]; decide) (by rw [hsz]; decide) ?_
  rw [hsz] at hf ⊢
  refine hf.trans ?_
  simp [Value.cells]
end Go.Proofs.Ytjijdpdbkpknpaa
