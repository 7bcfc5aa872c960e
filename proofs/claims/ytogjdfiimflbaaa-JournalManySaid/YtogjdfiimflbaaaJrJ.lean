/-
  A journal in memory; what its calls keep. No walk.
-/
import Derived.Test.YtogjdfiimflbaaaJrFound
namespace Go.Proofs.Ytogjdfiimflbaaa
open Go Go.RowKit

/-- what a journal's calls keep -/
def JKeep (B : Nat) (W W' : World) : Prop := Below B W W' ∧ ∀ q cs t, Blk W q t cs → t ≠ 54 → t ≠ 77 → t ≠ 79 → t ≠ 68 → t ≠ 37 → Blk W' q t cs
theorem JKeep.refl (B : Nat) (W : World) : JKeep B W W := ⟨Below.refl _ _, fun _ _ _ h _ _ _ _ _ => h⟩
theorem JKeep.trans {B : Nat} {X Y Z : World} (h : JKeep B X Y) (k : JKeep B Y Z) : JKeep B X Z := ⟨h.1.trans k.1, fun q cs t hb h1 h2 h3 h4 h5 => k.2 q cs t (h.2 q cs t hb h1 h2 h3 h4 h5) h1 h2 h3 h4 h5⟩
theorem JKeep.of_dkeep {B : Nat} {X Y : World} (h : DKeep B X Y) : JKeep B X Y := ⟨h.1, fun q cs t hb h1 h2 h3 _ _ => h.2 q cs t hb h1 h2 h3⟩
theorem JKeep.of_below {B : Nat} {X Y : World} (h : Below X.heap.size X Y) (hB : B ≤ X.heap.size) : JKeep B X Y := .of_dkeep (DKeep.of_below h hB)
theorem JKeep.set {B : Nat} {W : World} {j : Nat} {cs : Array Value} (hB : B ≤ j) (h : Blk W j 68 cs) (i : Nat) (u : Value) : JKeep B W (W.setCell ⟨j, i, none⟩ u) :=
  ⟨(Below.refl _ _).setCell (p := ⟨j, i, none⟩) hB _, fun q cs t hb _ _ _ h4 _ => hb.far (fun e => Blk.ne_ h hb (fun e => h4 e.symm) e.symm) u⟩
theorem JKeep.grown {B : Nat} {W W' : World} {v : Value} {n : Nat} {xs : List Value} (hB : B ≤ W.heap.size) (h : W.ownsRow B 37 2 v n xs) (hg : W.grownBy W' v.ownBlock) : JKeep B W W' :=
  ⟨(Fr.of_grown hg).below hB (fun q e => (h.lt q e).1), fun q cs t hb _ _ _ _ h5 => (Fr.of_grown hg).blk hb (fun e => own_blk_ne h hb (fun e => h5 e.symm) e)⟩
theorem RowsBlk.jkeep {B : Nat} {W W' : World} {A : Option Addr} {ls : List (List UInt8)} (h : RowsBlk W A ls) (hk : JKeep B W W') : RowsBlk W' A ls := fun hp => by
  obtain ⟨gr, cur, rfl, hb, hc⟩ := h hp
  refine ⟨gr, cur, rfl, hk.2 _ _ _ hb (by decide) (by decide) (by decide) (by decide) (by decide), fun i hi => ?_⟩
  obtain ⟨gi, ci, cu, h1, h2, h3, h4⟩ := hc i hi
  exact ⟨gi, ci, cu, h1, h2, hk.2 _ _ _ h3 (by decide) (by decide) (by decide) (by decide) (by decide), h4⟩
theorem SecV.jkeep {B : Nat} {W W' : World} {D : Nat → Prop} {u : Value} {b : List UInt8} (h : SecV W D u b) (k : JKeep B W W') : SecV W' D u b := by
  obtain ⟨gi, ci, cu, h1, h2, h3, h4, h5⟩ := h
  exact ⟨gi, ci, cu, h1, h2, k.2 _ _ _ h3 (by decide) (by decide) (by decide) (by decide) (by decide), h4, h5⟩
theorem SecVs.jkeep {B : Nat} {W W' : World} {D : Nat → Prop} {vs : List Value} {ls : List (List UInt8)} (h : SecVs W D vs ls) (k : JKeep B W W') : SecVs W' D vs ls := ⟨h.1, fun i u b h1 h2 => (h.2 i u b h1 h2).jkeep k⟩
theorem SecVs.dkeep {B : Nat} {W W' : World} {D : Nat → Prop} {vs : List Value} {ls : List (List UInt8)} (h : SecVs W D vs ls) (k : DKeep B W W') : SecVs W' D vs ls := ⟨h.1, fun i u b h1 h2 => (h.2 i u b h1 h2).dkeep k⟩
theorem own_dkeep {B base s n : Nat} {W W' : World} {e : TypeId} {v : Value} {xs : List Value} (h : W.ownsRow base e s v n xs) (k : DKeep B W W') (h1 : e ≠ 54) (h2 : e ≠ 77) (h3 : e ≠ 79) : W'.ownsRow base e s v n xs := by
  refine ⟨h.1, ?_⟩
  rcases h.2 with hn | ⟨g, cap, cur, rfl, hb, hgg, rest⟩
  · exact .inl hn
  · exact .inr ⟨g, cap, cur, rfl, hb, k.2 _ _ _ hgg h1 h2 h3, rest⟩

/-- the rows of puts stay -/
def PKeep (W W' : World) : Prop := ∀ q cs, Blk W q 37 cs → Blk W' q 37 cs
theorem PKeep.refl (W : World) : PKeep W W := fun _ _ h => h
theorem PKeep.trans {X Y Z : World} (h : PKeep X Y) (k : PKeep Y Z) : PKeep X Z := fun q cs hb => k q cs (h q cs hb)
theorem PKeep.of_dkeep {B : Nat} {X Y : World} (h : DKeep B X Y) : PKeep X Y := fun q cs hb => h.2 q cs _ hb (by decide) (by decide) (by decide)
theorem PKeep.of_below {X Y : World} (h : Below X.heap.size X Y) : PKeep X Y := fun q cs hb => hb.below h hb.lt
theorem PKeep.set {W : World} {j : Nat} {t : TypeId} {cs : Array Value} (h : Blk W j t cs) (ht : t ≠ 37) (i : Nat) (u : Value) : PKeep W (W.setCell ⟨j, i, none⟩ u) := fun q cs hb => hb.far (fun e => Blk.ne_ h hb ht e.symm) u
theorem PutsAt.keep2 {B : Nat} {W W' : World} {A : Option Addr} {ps : List PutL} (h : PutsAt W A ps) (k : PKeep W W') (kj : JKeep B W W') : PutsAt W' A ps := fun h0 => by
  obtain ⟨gr, cur, h1, h2, h3⟩ := h h0
  exact ⟨gr, cur, h1, k _ _ h2, fun i p hp => by
    obtain ⟨u, k1, k2, k3⟩ := h3 i p hp
    exact ⟨u, k1, k2, k3.jkeep kj⟩⟩

/-- a journal's words -/
structure JS where
  z : Nat
  m : Nat
  f : Nat
  a : Nat
  next : Nat
  pos : Nat
  base : Nat
  count : Nat
  owed : List PutL
def jrnC (g : Nat) (J : JS) (v : Value) : Array Value := #[.pointer (some ⟨g, 0, none⟩), .int .i64 0, .int .i64 (J.z : Int), .int .i64 (J.m : Int), .int .i64 (J.f : Int), .int .i64 (J.a : Int), .int .i64 (J.next : Int), .int .i64 (J.pos : Int), .int .i64 (J.base : Int), .bool false, v, .int .i64 (J.count : Int)]
/-- the puts that are owed, in a row of their own below T -/
def OwedAt (W : World) (B T : Nat) (v : Value) (ps : List PutL) : Prop := ∃ us, W.ownsRow B 37 2 v ps.length (putsC ps us) ∧ SecVs W (fun _ => True) us (ps.map (·.2)) ∧ ∀ q, v.ownBlock = some q → q < T
def JAt (W : World) (B T j g : Nat) (J : JS) : Prop := B ≤ j ∧ ∃ v, Blk W j 68 (jrnC g J v) ∧ OwedAt W B T v J.owed
section
variable {W W' : World} {B T T' j g : Nat} {J : JS} {v : Value} {ps : List PutL}
theorem OwedAt.lift (h : OwedAt W B T v ps) (k : Below W.heap.size W W') : OwedAt W' B T v ps := by
  obtain ⟨us, h1, h2, h3⟩ := h
  exact ⟨us, own_keep h1 k, h2.below k, h3⟩
theorem OwedAt.dkeep {B' : Nat} (h : OwedAt W B T v ps) (k : DKeep B' W W') : OwedAt W' B T v ps := by
  obtain ⟨us, h1, h2, h3⟩ := h
  exact ⟨us, own_dkeep h1 k (by decide) (by decide) (by decide), h2.dkeep k, h3⟩
theorem OwedAt.top (h : OwedAt W B T v ps) (hT : T ≤ T') : OwedAt W B T' v ps := by
  obtain ⟨us, h1, h2, h3⟩ := h
  exact ⟨us, h1, h2, fun q e => Nat.lt_of_lt_of_le (h3 q e) hT⟩
theorem OwedAt.nil : OwedAt W B T (.slice none 0 0) [] := ⟨[], World.ownsRow_nil _ _ _ _, .nil, fun q e => by cases e⟩
theorem OwedAt.far {i : Nat} {t : TypeId} {cs : Array Value} (h : OwedAt W B T v ps) (hb : Blk W i t cs) (h1 : t ≠ 37) (h2 : t ≠ 5) (k : Nat) (x : Value) : OwedAt (W.setCell ⟨i, k, none⟩ x) B T v ps := by
  obtain ⟨us, k1, k2, k3⟩ := h
  exact ⟨us, own_far k1 hb (fun e => h1 e.symm) x, k2.far hb h2 x, k3⟩
theorem OwedAt.keep2 (h : OwedAt W B T v ps) (k : PKeep W W') (kj : JKeep B W W') : OwedAt W' B T v ps := by
  obtain ⟨us, h1, h2, h3⟩ := h
  refine ⟨us, ⟨h1.1, ?_⟩, h2.jkeep kj, h3⟩
  rcases h1.2 with hn | ⟨g, cap, cur, rfl, hb, hgg, rest⟩
  · exact .inl hn
  · exact .inr ⟨g, cap, cur, rfl, hb, k _ _ hgg, rest⟩
theorem OwedAt.one (h : OwedAt W B T v ps) : ∃ A c, v = .slice A ps.length c := by
  obtain ⟨us, h1, h2, _⟩ := h
  obtain ⟨A, c, e, _⟩ := puts_of_own h1 h2
  exact ⟨A, c, e⟩
theorem OwedAt.puts (h : OwedAt W B T v ps) : ∃ A c, v = .slice A ps.length c ∧ PutsAt W A ps := by
  obtain ⟨us, h1, h2, _⟩ := h
  exact puts_of_own h1 h2
theorem JAt.lift (h : JAt W B T j g J) (k : Below W.heap.size W W') : JAt W' B T j g J := by
  obtain ⟨h1, v, h2, h3⟩ := h
  exact ⟨h1, v, h2.below k h2.lt, h3.lift k⟩
theorem JAt.dkeep {B' : Nat} (h : JAt W B T j g J) (k : DKeep B' W W') : JAt W' B T j g J := by
  obtain ⟨h1, v, h2, h3⟩ := h
  exact ⟨h1, v, k.2 _ _ _ h2 (by decide) (by decide) (by decide), h3.dkeep k⟩
theorem JAt.top (h : JAt W B T j g J) (hT : T ≤ T') : JAt W B T' j g J := by
  obtain ⟨h1, v, h2, h3⟩ := h
  exact ⟨h1, v, h2, h3.top hT⟩
theorem JAt.cells (h : JAt W B T j g J) : ∃ A c, PutsAt W A J.owed ∧ Blk W j 68 (jrnC g J (.slice A J.owed.length c)) := by
  obtain ⟨_, v, h2, h3⟩ := h
  obtain ⟨A, c, rfl, hp⟩ := h3.puts
  exact ⟨A, c, hp, h2⟩
end
/-- all that is owed written -/
def homeN : List (List UInt8) → List PutL → List (List UInt8)
  | N, [] => N
  | N, p :: r => homeN (wsec N p.1 [p.2]) r
theorem homeN_len : ∀ (ps : List PutL) (N : List (List UInt8)), (homeN N ps).length = N.length
  | [], _ => rfl
  | p :: r, N => by rw [homeN, homeN_len r, wsec_len]
theorem homeN_snoc : ∀ (ps : List PutL) (N : List (List UInt8)) (p : PutL), homeN N (ps ++ [p]) = wsec (homeN N ps) p.1 [p.2]
  | [], _, _ => rfl
  | q :: r, N, p => by rw [List.cons_append, homeN, homeN_snoc r, homeN]
end Go.Proofs.Ytogjdfiimflbaaa
