/-
  No cell of these rows narrows 'for every input' (looked for: loops, veiled, ifaces, maps, wideKeys, modest, calm, conditions, laid).
  DERIVED. THE GIVEN ROWS OF THIS SEAT. 5 by the template 'for every input the law returns true; each argument reads behind the call as it read before'; 0 by the template 'total and deterministic' (their statements: YtjijdpdbkpknpaaTotals.lean).
  GIVEN WITH THE SEED: the statements are not yours to turn. If you find one false, say at which input.
  Laid BY PROGRAM, IN A SANDBOX (cutbox-rows.mjs): the forced cells as the released guide's own fill.sh prints them over the translation 0982e72194f06aa3… (all of the seat's roots in one cut). By AI agents, Wed Nov 11 2026. No macro, syntax, notation, axiom, sorry.
-/
import Derived.Test.YtjijdpdbkpknpaaChecked
import GoSem.Claim
import GoSem.ClaimJoined
import GoSem.ClaimMapViews
import Derived.JoinedTies
import Derived.KernelRfl
namespace Go.Proofs.Ytjijdpdbkpknpaa
/- THE CELL 'sum', in the pinned program and in every row, IS THE sha256 OF THE DUMP (.gsa) THAT YtjijdpdbkpknpaaProg.lean LOADS. Nothing in Lean hashes anything: it is a label: what it is worth is what the hold of that sum in a sandbox is worth. -/
noncomputable def Try.pinned : Pinned := { name := "ytjijdpdbkpknpaa", sum := "0982e72194f06aa3cc7e5707bc9ec87f297921585d990aaac44d9571cdb47127", checked := Try.checked }
namespace Rows
def none {H : Type} : Left H := { results := [], args := [] }

/-- 'icehouselaw21.LruScans': WHATEVER THE INPUT: true; the input reads as it did. -/
def lruScansSpec : ChangeSpec := { name := "lruScans", fn := fun _ => fun
  | [d1, d2] => { results := [.lit (.bool true)], args := [d1, d2] }
  | _ => none }
def lruScansRow : OpenClaim := { program := "ytjijdpdbkpknpaa", sum := "0982e72194f06aa3cc7e5707bc9ec87f297921585d990aaac44d9571cdb47127", func := "icehouse/icehouselaw21.LruScans", spec := "lruScans", unfollowed := true, recurses := true, apart := false }
def LruScansSaid : Prop := lruScansRow.holds Try.pinned (OpenSpec.ofChange lruScansSpec)

/-- ITS FALSE NEIGHBOUR: 'it returns false'. Refute it at one input. -/
def lruScansWrong : ChangeSpec := { name := "lruScans", fn := fun _ => fun
  | [d1, d2] => { results := [.lit (.bool false)], args := [d1, d2] }
  | _ => none }
def LruScansWrongFalsely : Prop := lruScansRow.holds Try.pinned (OpenSpec.ofChange lruScansWrong)

/-- 'icehouselaw21.LruNone': WHATEVER THE INPUT: true; the input reads as it did. -/
def lruNoneSpec : ChangeSpec := { name := "lruNone", fn := fun _ => fun
  | [d1, d2] => { results := [.lit (.bool true)], args := [d1, d2] }
  | _ => none }
def lruNoneRow : OpenClaim := { program := "ytjijdpdbkpknpaa", sum := "0982e72194f06aa3cc7e5707bc9ec87f297921585d990aaac44d9571cdb47127", func := "icehouse/icehouselaw21.LruNone", spec := "lruNone", unfollowed := true, recurses := true, apart := false }
def LruNoneSaid : Prop := lruNoneRow.holds Try.pinned (OpenSpec.ofChange lruNoneSpec)

/-- ITS FALSE NEIGHBOUR: 'it returns false'. Refute it at one input. -/
def lruNoneWrong : ChangeSpec := { name := "lruNone", fn := fun _ => fun
  | [d1, d2] => { results := [.lit (.bool false)], args := [d1, d2] }
  | _ => none }
def LruNoneWrongFalsely : Prop := lruNoneRow.holds Try.pinned (OpenSpec.ofChange lruNoneWrong)

/-- 'icehouselaw21.LruActs': WHATEVER THE INPUT: true; the input reads as it did. -/
def lruActsSpec : ChangeSpec := { name := "lruActs", fn := fun _ => fun
  | [d1, d2, d3] => { results := [.lit (.bool true)], args := [d1, d2, d3] }
  | _ => none }
def lruActsRow : OpenClaim := { program := "ytjijdpdbkpknpaa", sum := "0982e72194f06aa3cc7e5707bc9ec87f297921585d990aaac44d9571cdb47127", func := "icehouse/icehouselaw21.LruActs", spec := "lruActs", unfollowed := true, recurses := true, apart := false }
def LruActsSaid : Prop := lruActsRow.holds Try.pinned (OpenSpec.ofChange lruActsSpec)

/-- ITS FALSE NEIGHBOUR: 'it returns false'. Refute it at one input. -/
def lruActsWrong : ChangeSpec := { name := "lruActs", fn := fun _ => fun
  | [d1, d2, d3] => { results := [.lit (.bool false)], args := [d1, d2, d3] }
  | _ => none }
def LruActsWrongFalsely : Prop := lruActsRow.holds Try.pinned (OpenSpec.ofChange lruActsWrong)

/-- 'icehouselaw21.LruOnce': WHATEVER THE INPUT: true; the input reads as it did. -/
def lruOnceSpec : ChangeSpec := { name := "lruOnce", fn := fun _ => fun
  | [d1, d2] => { results := [.lit (.bool true)], args := [d1, d2] }
  | _ => none }
def lruOnceRow : OpenClaim := { program := "ytjijdpdbkpknpaa", sum := "0982e72194f06aa3cc7e5707bc9ec87f297921585d990aaac44d9571cdb47127", func := "icehouse/icehouselaw21.LruOnce", spec := "lruOnce", unfollowed := true, recurses := true, apart := false }
def LruOnceSaid : Prop := lruOnceRow.holds Try.pinned (OpenSpec.ofChange lruOnceSpec)

/-- ITS FALSE NEIGHBOUR: 'it returns false'. Refute it at one input. -/
def lruOnceWrong : ChangeSpec := { name := "lruOnce", fn := fun _ => fun
  | [d1, d2] => { results := [.lit (.bool false)], args := [d1, d2] }
  | _ => none }
def LruOnceWrongFalsely : Prop := lruOnceRow.holds Try.pinned (OpenSpec.ofChange lruOnceWrong)

/-- 'icehouselaw15.JournalMany': WHATEVER THE INPUT: true; the input reads as it did. -/
def journalManySpec : ChangeSpec := { name := "journalMany", fn := fun _ => fun
  | [d1, d2] => { results := [.lit (.bool true)], args := [d1, d2] }
  | _ => none }
def journalManyRow : OpenClaim := { program := "ytjijdpdbkpknpaa", sum := "0982e72194f06aa3cc7e5707bc9ec87f297921585d990aaac44d9571cdb47127", func := "icehouse/icehouselaw15.JournalMany", spec := "journalMany", unfollowed := true, recurses := true, apart := false }
def JournalManySaid : Prop := journalManyRow.holds Try.pinned (OpenSpec.ofChange journalManySpec)

/-- ITS FALSE NEIGHBOUR: 'it returns false'. Refute it at one input. -/
def journalManyWrong : ChangeSpec := { name := "journalMany", fn := fun _ => fun
  | [d1, d2] => { results := [.lit (.bool false)], args := [d1, d2] }
  | _ => none }
def JournalManyWrongFalsely : Prop := journalManyRow.holds Try.pinned (OpenSpec.ofChange journalManyWrong)

/- THE SECOND FORM. 'bulk': how many values and letters a reading holds, each counted each time it is reached (what is shared counts as often as it is met; a slice's spare places count too). A statement '..UptoSaid' is the law's where the arguments, and the package variables that the reading takes, are together of bulk at most 1048576: NARROWER than '..Said'. Prove '..Said' where nothing that the law and all that it calls make is longer than what came in: it says more and counts as full. Else prove '..UptoSaid'. A law counts once. -/
mutual
def uptoBulk {H : Type} : DataW H → Nat
  | .lit (.string bytes) => bytes.length + 1
  | .lit _ => 1
  | .nil => 1
  | .ptr d => uptoBulk d + 1
  | .slice elems spare => uptoBulkAll elems + uptoBulkAll spare + 1
  | .agg parts => uptoBulkAll parts + 1
  | .iface _ d => uptoBulk d + 1
  | .map entries => uptoBulkEntries entries + 1
  | .held _ => 1
def uptoBulkAll {H : Type} : List (DataW H) → Nat
  | [] => 0
  | d :: r => uptoBulk d + uptoBulkAll r
def uptoBulkEntries {H : Type} : List (Lit × DataW H) → Nat
  | [] => 0
  | x :: r => uptoBulkEntry x + uptoBulkEntries r
def uptoBulkEntry {H : Type} : Lit × DataW H → Nat
  | (.string bytes, d) => bytes.length + uptoBulk d + 1
  | (_, d) => uptoBulk d + 1
 end
def uptoSmall : (H : Type) → List (DataW H) → Bool := fun _ ds => decide (uptoBulkAll ds ≤ 1048576)
def OpenSpec.upto (s : _root_.Go.ChangeSpec) : _root_.Go.OpenSpec := { _root_.Go.OpenSpec.ofChange s with cond := some uptoSmall }

/-- 'icehouselaw21.LruScans', WHERE WHAT IT READS IS OF BULK AT MOST 1048576: true; the input reads as it did. -/
def lruScansUptoRow : OpenClaim := { program := "ytjijdpdbkpknpaa", sum := "0982e72194f06aa3cc7e5707bc9ec87f297921585d990aaac44d9571cdb47127", func := "icehouse/icehouselaw21.LruScans", spec := "lruScans", unfollowed := true, recurses := true, apart := false, narrowed := true }
def LruScansUptoSaid : Prop := lruScansUptoRow.holds Try.pinned (OpenSpec.upto lruScansSpec)

/-- 'icehouselaw21.LruNone', WHERE WHAT IT READS IS OF BULK AT MOST 1048576: true; the input reads as it did. -/
def lruNoneUptoRow : OpenClaim := { program := "ytjijdpdbkpknpaa", sum := "0982e72194f06aa3cc7e5707bc9ec87f297921585d990aaac44d9571cdb47127", func := "icehouse/icehouselaw21.LruNone", spec := "lruNone", unfollowed := true, recurses := true, apart := false, narrowed := true }
def LruNoneUptoSaid : Prop := lruNoneUptoRow.holds Try.pinned (OpenSpec.upto lruNoneSpec)

/-- 'icehouselaw21.LruActs', WHERE WHAT IT READS IS OF BULK AT MOST 1048576: true; the input reads as it did. -/
def lruActsUptoRow : OpenClaim := { program := "ytjijdpdbkpknpaa", sum := "0982e72194f06aa3cc7e5707bc9ec87f297921585d990aaac44d9571cdb47127", func := "icehouse/icehouselaw21.LruActs", spec := "lruActs", unfollowed := true, recurses := true, apart := false, narrowed := true }
def LruActsUptoSaid : Prop := lruActsUptoRow.holds Try.pinned (OpenSpec.upto lruActsSpec)

/-- 'icehouselaw21.LruOnce', WHERE WHAT IT READS IS OF BULK AT MOST 1048576: true; the input reads as it did. -/
def lruOnceUptoRow : OpenClaim := { program := "ytjijdpdbkpknpaa", sum := "0982e72194f06aa3cc7e5707bc9ec87f297921585d990aaac44d9571cdb47127", func := "icehouse/icehouselaw21.LruOnce", spec := "lruOnce", unfollowed := true, recurses := true, apart := false, narrowed := true }
def LruOnceUptoSaid : Prop := lruOnceUptoRow.holds Try.pinned (OpenSpec.upto lruOnceSpec)

/-- 'icehouselaw15.JournalMany', WHERE WHAT IT READS IS OF BULK AT MOST 1048576: true; the input reads as it did. -/
def journalManyUptoRow : OpenClaim := { program := "ytjijdpdbkpknpaa", sum := "0982e72194f06aa3cc7e5707bc9ec87f297921585d990aaac44d9571cdb47127", func := "icehouse/icehouselaw15.JournalMany", spec := "journalMany", unfollowed := true, recurses := true, apart := false, narrowed := true }
def JournalManyUptoSaid : Prop := journalManyUptoRow.holds Try.pinned (OpenSpec.upto journalManySpec)

end Rows
end Go.Proofs.Ytjijdpdbkpknpaa
