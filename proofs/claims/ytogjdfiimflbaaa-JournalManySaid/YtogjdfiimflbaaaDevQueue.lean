/-
  A write put behind the queue: the device behind the append and the store. Conditions: what the append's law gives.
-/
import Derived.Test.YtogjdfiimflbaaaTail
namespace Go.Proofs.Ytogjdfiimflbaaa
open Go Go.RowKit

theorem DevIn.enqueue {W w3 : World} {B g gk gn : Nat} {bv qv v' : Value} {S : DS} {e : Nat × List UInt8} {tmp : Obj} (h : DevIn W B g gk gn bv qv S) (he : e.1 < S.kept.length ∧ e.2.length = 64) (hq : S.q.length + 1 ≤ 1048576)
    (hgrow : (W.alloc tmp).grownBy w3 qv.ownBlock) (hown : w3.ownsRow B 79 65 v' (S.q.length + 1) (qcells S.q ++ wcell e)) :
    DevIn (w3.setCell ⟨g, 5, none⟩ v') B g gk gn bv v' { S with q := S.q ++ [e] } ∧ DKeep B W (w3.setCell ⟨g, 5, none⟩ v') := by
  obtain ⟨hS1, hS2, hS3, hS4, hS5, hS6, hS7, hS8, hS9, hS10, hS11⟩ := h.ok
  have hd3 : Blk w3 g 54 (devCells S gk gn bv qv) := (h.dev.alloc tmp).grown hgrow (own_blk_ne h.queue h.dev (by decide)).symm
  have step : ∀ q cs t, Blk W q t cs → t ≠ 54 → t ≠ 79 → Blk (w3.setCell ⟨g, 5, none⟩ v') q t cs := fun q cs t hb h1 h2 =>
    ((hb.alloc tmp).grown hgrow (own_blk_ne h.queue hb (fun e => h2 e.symm)).symm).far (fun e => Blk.ne_ ((hb.alloc tmp).grown hgrow (own_blk_ne h.queue hb (fun e => h2 e.symm)).symm) hd3 h1 (by exact e)) v'
  have hbel : Below B W (w3.setCell ⟨g, 5, none⟩ v') := by
    have hB : B ≤ W.heap.size := Nat.le_trans h.bg (Nat.le_of_lt h.dev.lt)
    exact (((Below.refl B W).alloc hB tmp).grown hgrow (by rw [World.size_alloc]; omega) (fun k hk => (World.ownsRow.lt h.queue k hk).1)).setCell (p := ⟨g, 5, none⟩) h.bg v'
  have hset : w3.grownBy (w3.setCell ⟨g, 5, none⟩ v') (some g) := only_setCell (World.grownBy.refl w3 (some g)) (.inl rfl) v'
  have hqc : qcells (S.q ++ [e]) = qcells S.q ++ wcell e := by simp [qcells]
  refine ⟨⟨⟨hS1, hS2, hS3, fun x hx => ?_, hS5, ?_, hS7, hS8, hS9, hS10, hS11⟩, h.bg, h.bk, h.bn, h.ne, ?_, step _ _ _ h.kept (by decide) (by decide), step _ _ _ h.now (by decide) (by decide), ?_, ?_⟩, hbel, fun q cs t hb h1 _ h3 => step q cs t hb h1 h3⟩
  · rcases List.mem_append.1 hx with hx | hx
    · exact hS4 x hx
    · rw [List.mem_singleton.1 hx]
      exact he
  · show (S.q ++ [e]).length ≤ _
    rw [List.length_append, List.length_singleton]
    exact hq
  · exact hd3.set_ 5 v'
  · have hb3 : w3.ownsRow B 3 1 bv S.bad.length (ints S.bad) := by
      refine (h.bad.alloc tmp).kept hgrow ?_
      rcases h.bad.2 with ⟨rfl, _⟩ | ⟨gb, cap, cur, rfl, _, hb, _⟩
      · exact .inl rfl
      · exact .inr (by
          intro e'
          have := own_blk_ne h.queue (show Blk W gb 3 cur from hb) (by decide)
          exact this (by rw [← e']; rfl))
    exact hb3.kept hset (.inr (own_blk_ne hb3 hd3 (by decide)))
  · show World.ownsRow _ _ _ _ _ (S.q ++ [e]).length (qcells (S.q ++ [e]))
    rw [hqc, List.length_append, List.length_singleton]
    exact hown.kept hset (.inr (own_blk_ne hown hd3 (by decide)))

theorem only_setRow (W : World) (b : Nat) (cs : Array Value) : W.grownBy (W.setRow b cs) (some b) :=
  ⟨rfl, rfl, rfl, by rw [setRow_size]; exact Nat.le_refl _, fun k _ hne => setRow_other W b k cs (fun e => hne (by rw [e]))⟩
theorem Blk.setRow_ {W : World} {b : Nat} {t : TypeId} {cur : Array Value} (h : Blk W b t cur) (cs : Array Value) : Blk (W.setRow b cs) b t cs := setRow_heap W b cur cs t (0, 0) h
theorem Blk.rowFar {W : World} {b q : Nat} {t : TypeId} {cs : Array Value} (h : Blk W q t cs) (hne : q ≠ b) (cs' : Array Value) : Blk (W.setRow b cs') q t cs := (setRow_other W b q cs' hne).trans h
theorem secs_cells {K : List (List UInt8)} {i : Nat} {s : List UInt8} (hK : All64 K) (hi : i < K.length) (hs : s.length = 64) :
    ((byts K.flatten).toArray.toList.take (64 * i) ++ byts s ++ (byts K.flatten).toArray.toList.drop (64 * i + 64)).toArray = (byts (K.set i s).flatten).toArray := by
  rw [flat_set K i s hK hi hs]
  simp [byts, List.map_take, List.map_drop]
theorem All64.set {K : List (List UInt8)} {i : Nat} {s : List UInt8} (hK : All64 K) (hs : s.length = 64) : All64 (K.set i s) := fun x hx => by
  rcases List.mem_or_eq_of_mem_set hx with h | rfl
  · exact hK x h
  · exact hs

/-- a sector of the present state set -/
theorem DevIn.setNow {W : World} {B g gk gn : Nat} {bv qv : Value} {S : DS} {i : Nat} {s : List UInt8} (h : DevIn W B g gk gn bv qv S) (hi : i < S.kept.length) (hs : s.length = 64) (X : World)
    (hX : X = W.setRow gn ((byts S.now.flatten).toArray.toList.take (64 * i) ++ byts s ++ (byts S.now.flatten).toArray.toList.drop (64 * i + 64)).toArray) :
    DevIn X B g gk gn bv qv { S with now := S.now.set i s } ∧ DKeep B W X := by
  obtain ⟨hS1, hS2, hS3, hS4, hS5, hS6, hS7, hS8, hS9, hS10, hS11⟩ := h.ok
  rw [secs_cells hS3 (by omega) hs] at hX
  subst hX
  have far : ∀ q cs t, Blk W q t cs → q ≠ gn → Blk (W.setRow gn (byts (S.now.set i s).flatten).toArray) q t cs := fun q cs t hb hne => hb.rowFar hne _
  have own : ∀ {e : TypeId} {z n : Nat} {v : Value} {xs : List Value}, W.ownsRow B e z v n xs → e ≠ 77 → (W.setRow gn (byts (S.now.set i s).flatten).toArray).ownsRow B e z v n xs := fun ho he => ho.kept (only_setRow W gn _) (.inr (own_blk_ne ho h.now he))
  refine ⟨⟨⟨by show (S.now.set i s).length = _; rw [List.length_set]; exact hS1, hS2, hS3.set hs, hS4, hS5, hS6, hS7, hS8, hS9, hS10, hS11⟩, h.bg, h.bk, h.bn, h.ne, far _ _ _ h.dev (fun e => Blk.ne_ h.dev h.now (by decide) e), far _ _ _ h.kept h.ne, h.now.setRow_ _, own h.bad (by decide), own h.queue (by decide)⟩, ?_, fun q cs t hb _ h2 _ => far q cs t hb (fun e => Blk.ne_ hb h.now h2 e)⟩
  exact (Below.refl B W).grown (only_setRow W gn _) (Nat.le_trans h.bg (Nat.le_of_lt h.dev.lt)) (fun k hk => by cases hk; exact h.bn)

/-- a sector of the kept state set -/
theorem DevIn.setKept {W : World} {B g gk gn : Nat} {bv qv : Value} {S : DS} {i : Nat} {s : List UInt8} (h : DevIn W B g gk gn bv qv S) (hi : i < S.kept.length) (hs : s.length = 64) (X : World)
    (hX : X = W.setRow gk ((byts S.kept.flatten).toArray.toList.take (64 * i) ++ byts s ++ (byts S.kept.flatten).toArray.toList.drop (64 * i + 64)).toArray) :
    DevIn X B g gk gn bv qv { S with kept := S.kept.set i s } ∧ DKeep B W X := by
  obtain ⟨hS1, hS2, hS3, hS4, hS5, hS6, hS7, hS8, hS9, hS10, hS11⟩ := h.ok
  rw [secs_cells hS2 hi hs] at hX
  subst hX
  have hl : (S.kept.set i s).length = S.kept.length := List.length_set
  have hdc : devCells { S with kept := S.kept.set i s } gk gn bv qv = devCells S gk gn bv qv := by
    unfold devCells
    simp only [hl]
  have far : ∀ q cs t, Blk W q t cs → q ≠ gk → Blk (W.setRow gk (byts (S.kept.set i s).flatten).toArray) q t cs := fun q cs t hb hne => hb.rowFar hne _
  have own : ∀ {e : TypeId} {z n : Nat} {v : Value} {xs : List Value}, W.ownsRow B e z v n xs → e ≠ 77 → (W.setRow gk (byts (S.kept.set i s).flatten).toArray).ownsRow B e z v n xs := fun ho he => ho.kept (only_setRow W gk _) (.inr (own_blk_ne ho h.kept he))
  refine ⟨⟨⟨by show S.now.length = (S.kept.set i s).length; rw [hl]; exact hS1, hS2.set hs, hS3, fun e he => by show e.1 < (S.kept.set i s).length ∧ _; rw [hl]; exact hS4 e he, by show (S.kept.set i s).length ≤ _; rw [hl]; exact hS5, hS6, hS7, hS8, hS9, hS10, hS11⟩, h.bg, h.bk, h.bn, h.ne, ?_, h.kept.setRow_ _, far _ _ _ h.now (fun e => h.ne e.symm), own h.bad (by decide), own h.queue (by decide)⟩, ?_, fun q cs t hb _ h2 _ => far q cs t hb (fun e => Blk.ne_ hb h.kept h2 e)⟩
  · rw [hdc]
    exact far _ _ _ h.dev (fun e => Blk.ne_ h.dev h.kept (by decide) e)
  · exact (Below.refl B W).grown (only_setRow W gk _) (Nat.le_trans h.bg (Nat.le_of_lt h.dev.lt)) (fun k hk => by cases hk; exact h.bk)
end Go.Proofs.Ytogjdfiimflbaaa
