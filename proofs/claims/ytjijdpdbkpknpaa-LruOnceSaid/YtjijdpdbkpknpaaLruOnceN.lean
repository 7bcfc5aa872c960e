/-
  What LruOnce's last loop needs: a slice of one key twice, and the plain law of letting go key by key. No walk.
-/
import Derived.Test.YtjijdpdbkpknpaaLruOnceM
import Derived.Test.YtjijdpdbkpknpaaTailV
namespace Go.Proofs.Ytjijdpdbkpknpaa
open Go Go.RowKit

theorem slice_two (k : ByteArray) (W : World) :
    (Instr.buildSlice 28 2 #[(0, .string k), (1, .string k)]).run Try.prog W = .ok (.slice (some ⟨W.heap.size, 0, none⟩) 2 2) (W.alloc (.cells #[.string k, .string k] 9)) := by
  obtain ⟨i, hi, hz, hs, _⟩ := info_parts info_str
  have hf := Go.Great.fill_whole (s := 1) (by omega) [.string k, .string k] ((Array.range (2 * i.size)).map ((Value.string ⟨#[]⟩).cells[· % (Value.string ⟨#[]⟩).cells.size]!)) (fun v hv => by
    rcases List.mem_cons.1 hv with e | hv
    · rw [e]; rfl
    · rw [List.mem_singleton.1 hv]; rfl) (by simp [hs])
  refine Go.run_buildSlice W _ 9 2 _ _ i _ Try.underlying28 hi hz (by rw [hs]; decide) (by rw [hs]; decide) ?_
  rw [hs] at hf ⊢
  refine hf.trans ?_
  simp [Value.cells]
theorem exec_slice2 {P : Program} {o : Oper} {a : Act} {w w' : World} {v x y : Value} (ty : TypeId) (p q : Operand) (ho : o.op = .buildSlice ty 2 #[(0, p), (1, q)]) (hs : (Instr.buildSlice ty 2 #[(0, x), (1, y)]).run P w = .ok v w') (hx : a.eval p = x) (hy : a.eval q = y) : (execOp a.eval o).run P w = .ok (.value v) w' := by
  unfold execOp
  simp only [ho, List.map_toArray, List.map_cons, List.map_nil, hx, hy, Sem.run_bind, hs, Result.andThen_ok, Sem.run_pure]

/-- behind r drops -/
structure DropOk (hs : List Hd) (r : Nat) (S : CS) : Prop where
  nd : S.nd
  gone : ∀ k, cnt k (hs.take r) ≠ 0 → cnt k S.trial + cnt k S.rest = 0
  never : ∀ k, cnt k hs = 0 → cnt k S.trial + cnt k S.rest = 0
theorem DropOk.start {hs : List Hd} {S : CS} (H : OnceOk hs hs.length S) : DropOk hs 0 S :=
  ⟨H.nd, fun k h => absurd rfl h, fun k h => by
    have := H.cnt k
    rw [List.take_length, if_pos h] at this
    exact this⟩
theorem DropOk.drop {hs : List Hd} {r : Nat} {S : CS} (H : DropOk hs r S) (hr : r < hs.length) : peekS (dropS S [hs[r].key, hs[r].key]).1 hs[r].key = none ∧ DropOk hs (r + 1) (dropS S [hs[r].key, hs[r].key]).1 := by
  obtain ⟨h1, h2, h3⟩ := drop_two S hs[r].key H.nd
  refine ⟨h1, h3, fun k hk => ?_, fun k hk => ?_⟩
  · rw [h2 k]
    by_cases e : k = hs[r].key
    · rw [if_pos e]
    · rw [if_neg e]
      rw [cnt_take_succ hs k r hr, if_neg (fun x => e x.symm)] at hk
      exact H.gone k hk
  · rw [h2 k]
    split
    · rfl
    · exact H.never k hk
theorem DropOk.done {hs : List Hd} {S : CS} (H : DropOk hs hs.length S) : sumC S.trial + sumC S.rest = 0 := by
  have hz : ∀ k, cnt k S.trial + cnt k S.rest = 0 := fun k => by
    by_cases e : cnt k hs = 0
    · exact H.never k e
    · exact H.gone k (by rw [List.take_length]; exact e)
  have h1 : S.trial = [] := nil_of_cnt fun k => by have := hz k; omega
  have h2 : S.rest = [] := nil_of_cnt fun k => by have := hz k; omega
  rw [h1, h2]
  rfl
end Go.Proofs.Ytjijdpdbkpknpaa
