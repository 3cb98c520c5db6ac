/-
  No cell of these rows narrows 'for every input' (looked for: loops, veiled, ifaces, maps, wideKeys, modest, calm, conditions, laid).
  DERIVED. THE GIVEN ROWS OF THIS SEAT. 8 by the template 'for every input the law returns true; each argument reads behind the call as it read before'; 0 by the template 'total and deterministic' (their statements: YtoahjhkfnchdhaaTotals.lean).
  GIVEN WITH THE SEED: the statements are not yours to turn. If you find one false, say at which input.
  Laid BY PROGRAM, IN A SANDBOX (cutbox-rows.mjs): the forced cells as the released guide's own fill.sh prints them over the translation 8e7d746d3edd9026… (all of the seat's roots in one cut). By AI agents, Wed Nov 11 2026. No macro, syntax, notation, axiom, sorry.
-/
import Derived.Test.YtoahjhkfnchdhaaChecked
import GoSem.Claim
import GoSem.ClaimJoined
import GoSem.ClaimMapViews
import Derived.JoinedTies
import Derived.KernelRfl
namespace Go.Proofs.Ytoahjhkfnchdhaa
/- THE CELL 'sum', in the pinned program and in every row, IS THE sha256 OF THE DUMP (.gsa) THAT YtoahjhkfnchdhaaProg.lean LOADS. Nothing in Lean hashes anything: it is a label: what it is worth is what the hold of that sum in a sandbox is worth. -/
noncomputable def Try.pinned : Pinned := { name := "ytoahjhkfnchdhaa", sum := "8e7d746d3edd9026270780ebc5288835bda313aa890764efa41970602e03dbb5", checked := Try.checked }
namespace Rows
def none {H : Type} : Left H := { results := [], args := [] }

/-- 'mandolinelaw17.SliceSpans': WHATEVER THE INPUT: true; the input reads as it did. -/
def sliceSpansSpec : ChangeSpec := { name := "sliceSpans", fn := fun _ => fun
  | [d1, d2, d3] => { results := [.lit (.bool true)], args := [d1, d2, d3] }
  | _ => none }
def sliceSpansRow : OpenClaim := { program := "ytoahjhkfnchdhaa", sum := "8e7d746d3edd9026270780ebc5288835bda313aa890764efa41970602e03dbb5", func := "mandoline/mandolinelaw17.SliceSpans", spec := "sliceSpans", unfollowed := true, recurses := true, apart := false }
def SliceSpansSaid : Prop := sliceSpansRow.holds Try.pinned (OpenSpec.ofChange sliceSpansSpec)

/-- ITS FALSE NEIGHBOUR: 'it returns false'. Refute it at one input. -/
def sliceSpansWrong : ChangeSpec := { name := "sliceSpans", fn := fun _ => fun
  | [d1, d2, d3] => { results := [.lit (.bool false)], args := [d1, d2, d3] }
  | _ => none }
def SliceSpansWrongFalsely : Prop := sliceSpansRow.holds Try.pinned (OpenSpec.ofChange sliceSpansWrong)

/-- 'mandolinelaw17.SliceParts': WHATEVER THE INPUT: true; the input reads as it did. -/
def slicePartsSpec : ChangeSpec := { name := "sliceParts", fn := fun _ => fun
  | [d1, d2, d3] => { results := [.lit (.bool true)], args := [d1, d2, d3] }
  | _ => none }
def slicePartsRow : OpenClaim := { program := "ytoahjhkfnchdhaa", sum := "8e7d746d3edd9026270780ebc5288835bda313aa890764efa41970602e03dbb5", func := "mandoline/mandolinelaw17.SliceParts", spec := "sliceParts", unfollowed := true, recurses := true, apart := false }
def SlicePartsSaid : Prop := slicePartsRow.holds Try.pinned (OpenSpec.ofChange slicePartsSpec)

/-- ITS FALSE NEIGHBOUR: 'it returns false'. Refute it at one input. -/
def slicePartsWrong : ChangeSpec := { name := "sliceParts", fn := fun _ => fun
  | [d1, d2, d3] => { results := [.lit (.bool false)], args := [d1, d2, d3] }
  | _ => none }
def SlicePartsWrongFalsely : Prop := slicePartsRow.holds Try.pinned (OpenSpec.ofChange slicePartsWrong)

/-- 'mandolinelaw17.SlicePuts': WHATEVER THE INPUT: true; the input reads as it did. -/
def slicePutsSpec : ChangeSpec := { name := "slicePuts", fn := fun _ => fun
  | [d1, d2] => { results := [.lit (.bool true)], args := [d1, d2] }
  | _ => none }
def slicePutsRow : OpenClaim := { program := "ytoahjhkfnchdhaa", sum := "8e7d746d3edd9026270780ebc5288835bda313aa890764efa41970602e03dbb5", func := "mandoline/mandolinelaw17.SlicePuts", spec := "slicePuts", unfollowed := true, recurses := true, apart := false }
def SlicePutsSaid : Prop := slicePutsRow.holds Try.pinned (OpenSpec.ofChange slicePutsSpec)

/-- ITS FALSE NEIGHBOUR: 'it returns false'. Refute it at one input. -/
def slicePutsWrong : ChangeSpec := { name := "slicePuts", fn := fun _ => fun
  | [d1, d2] => { results := [.lit (.bool false)], args := [d1, d2] }
  | _ => none }
def SlicePutsWrongFalsely : Prop := slicePutsRow.holds Try.pinned (OpenSpec.ofChange slicePutsWrong)

/-- 'mandolinelaw17.SliceWhole': WHATEVER THE INPUT: true; the input reads as it did. -/
def sliceWholeSpec : ChangeSpec := { name := "sliceWhole", fn := fun _ => fun
  | [d1, d2, d3] => { results := [.lit (.bool true)], args := [d1, d2, d3] }
  | _ => none }
def sliceWholeRow : OpenClaim := { program := "ytoahjhkfnchdhaa", sum := "8e7d746d3edd9026270780ebc5288835bda313aa890764efa41970602e03dbb5", func := "mandoline/mandolinelaw17.SliceWhole", spec := "sliceWhole", unfollowed := true, recurses := true, apart := false }
def SliceWholeSaid : Prop := sliceWholeRow.holds Try.pinned (OpenSpec.ofChange sliceWholeSpec)

/-- ITS FALSE NEIGHBOUR: 'it returns false'. Refute it at one input. -/
def sliceWholeWrong : ChangeSpec := { name := "sliceWhole", fn := fun _ => fun
  | [d1, d2, d3] => { results := [.lit (.bool false)], args := [d1, d2, d3] }
  | _ => none }
def SliceWholeWrongFalsely : Prop := sliceWholeRow.holds Try.pinned (OpenSpec.ofChange sliceWholeWrong)

/-- 'mandolinelaw17.SliceTurned': WHATEVER THE INPUT: true; the input reads as it did. -/
def sliceTurnedSpec : ChangeSpec := { name := "sliceTurned", fn := fun _ => fun
  | [d1, d2, d3] => { results := [.lit (.bool true)], args := [d1, d2, d3] }
  | _ => none }
def sliceTurnedRow : OpenClaim := { program := "ytoahjhkfnchdhaa", sum := "8e7d746d3edd9026270780ebc5288835bda313aa890764efa41970602e03dbb5", func := "mandoline/mandolinelaw17.SliceTurned", spec := "sliceTurned", unfollowed := true, recurses := true, apart := false }
def SliceTurnedSaid : Prop := sliceTurnedRow.holds Try.pinned (OpenSpec.ofChange sliceTurnedSpec)

/-- ITS FALSE NEIGHBOUR: 'it returns false'. Refute it at one input. -/
def sliceTurnedWrong : ChangeSpec := { name := "sliceTurned", fn := fun _ => fun
  | [d1, d2, d3] => { results := [.lit (.bool false)], args := [d1, d2, d3] }
  | _ => none }
def SliceTurnedWrongFalsely : Prop := sliceTurnedRow.holds Try.pinned (OpenSpec.ofChange sliceTurnedWrong)

/-- 'mandolinelaw17.SliceSealed': WHATEVER THE INPUT: true; the input reads as it did. -/
def sliceSealedSpec : ChangeSpec := { name := "sliceSealed", fn := fun _ => fun
  | [d1, d2, d3] => { results := [.lit (.bool true)], args := [d1, d2, d3] }
  | _ => none }
def sliceSealedRow : OpenClaim := { program := "ytoahjhkfnchdhaa", sum := "8e7d746d3edd9026270780ebc5288835bda313aa890764efa41970602e03dbb5", func := "mandoline/mandolinelaw17.SliceSealed", spec := "sliceSealed", unfollowed := true, recurses := true, apart := false }
def SliceSealedSaid : Prop := sliceSealedRow.holds Try.pinned (OpenSpec.ofChange sliceSealedSpec)

/-- ITS FALSE NEIGHBOUR: 'it returns false'. Refute it at one input. -/
def sliceSealedWrong : ChangeSpec := { name := "sliceSealed", fn := fun _ => fun
  | [d1, d2, d3] => { results := [.lit (.bool false)], args := [d1, d2, d3] }
  | _ => none }
def SliceSealedWrongFalsely : Prop := sliceSealedRow.holds Try.pinned (OpenSpec.ofChange sliceSealedWrong)

/-- 'mandolinelaw17.SliceOnce': WHATEVER THE INPUT: true; the input reads as it did. -/
def sliceOnceSpec : ChangeSpec := { name := "sliceOnce", fn := fun _ => fun
  | [d1, d2, d3] => { results := [.lit (.bool true)], args := [d1, d2, d3] }
  | _ => none }
def sliceOnceRow : OpenClaim := { program := "ytoahjhkfnchdhaa", sum := "8e7d746d3edd9026270780ebc5288835bda313aa890764efa41970602e03dbb5", func := "mandoline/mandolinelaw17.SliceOnce", spec := "sliceOnce", unfollowed := true, recurses := true, apart := false }
def SliceOnceSaid : Prop := sliceOnceRow.holds Try.pinned (OpenSpec.ofChange sliceOnceSpec)

/-- ITS FALSE NEIGHBOUR: 'it returns false'. Refute it at one input. -/
def sliceOnceWrong : ChangeSpec := { name := "sliceOnce", fn := fun _ => fun
  | [d1, d2, d3] => { results := [.lit (.bool false)], args := [d1, d2, d3] }
  | _ => none }
def SliceOnceWrongFalsely : Prop := sliceOnceRow.holds Try.pinned (OpenSpec.ofChange sliceOnceWrong)

/-- 'mandolinelaw17.SliceAll': WHATEVER THE INPUT: true; the input reads as it did. -/
def sliceAllSpec : ChangeSpec := { name := "sliceAll", fn := fun _ => fun
  | [d1, d2] => { results := [.lit (.bool true)], args := [d1, d2] }
  | _ => none }
def sliceAllRow : OpenClaim := { program := "ytoahjhkfnchdhaa", sum := "8e7d746d3edd9026270780ebc5288835bda313aa890764efa41970602e03dbb5", func := "mandoline/mandolinelaw17.SliceAll", spec := "sliceAll", unfollowed := true, recurses := true, apart := false }
def SliceAllSaid : Prop := sliceAllRow.holds Try.pinned (OpenSpec.ofChange sliceAllSpec)

/-- ITS FALSE NEIGHBOUR: 'it returns false'. Refute it at one input. -/
def sliceAllWrong : ChangeSpec := { name := "sliceAll", fn := fun _ => fun
  | [d1, d2] => { results := [.lit (.bool false)], args := [d1, d2] }
  | _ => none }
def SliceAllWrongFalsely : Prop := sliceAllRow.holds Try.pinned (OpenSpec.ofChange sliceAllWrong)

/- THE SECOND FORM. 'bulk': how many values and letters a reading holds, each counted each time it is reached (what is shared counts as often as it is met; a slice's spare places count too). A statement '..UptoSaid' is the law's where the arguments, and the package variables that the reading takes, are together of bulk at most 1048576: NARROWER than '..Said'. Prove '..Said' where nothing that the law and all that it calls make is longer than what came in: it says more and counts as full. Else prove '..UptoSaid'. A law counts once. -/
mutual
def uptoBulk {H : Type} : DataW H → Nat
  | .lit (.string bytes) => bytes.length + 1
  | .lit _ => 1
  | .nil => 1
  | .ptr d => uptoBulk d + 1
  | .slice elems spare => uptoBulkAll elems + uptoBulkAll spare + 1
  | .agg parts => uptoBulkAll parts + 1
  | .iface _ d => uptoBulk d + 1
  | .map entries => uptoBulkEntries entries + 1
  | .held _ => 1
def uptoBulkAll {H : Type} : List (DataW H) → Nat
  | [] => 0
  | d :: r => uptoBulk d + uptoBulkAll r
def uptoBulkEntries {H : Type} : List (Lit × DataW H) → Nat
  | [] => 0
  | x :: r => uptoBulkEntry x + uptoBulkEntries r
def uptoBulkEntry {H : Type} : Lit × DataW H → Nat
  | (.string bytes, d) => bytes.length + uptoBulk d + 1
  | (_, d) => uptoBulk d + 1
 end
def uptoSmall : (H : Type) → List (DataW H) → Bool := fun _ ds => decide (uptoBulkAll ds ≤ 1048576)
def OpenSpec.upto (s : _root_.Go.ChangeSpec) : _root_.Go.OpenSpec := { _root_.Go.OpenSpec.ofChange s with cond := some uptoSmall }

/-- 'mandolinelaw17.SliceSpans', WHERE WHAT IT READS IS OF BULK AT MOST 1048576: true; the input reads as it did. -/
def sliceSpansUptoRow : OpenClaim := { program := "ytoahjhkfnchdhaa", sum := "8e7d746d3edd9026270780ebc5288835bda313aa890764efa41970602e03dbb5", func := "mandoline/mandolinelaw17.SliceSpans", spec := "sliceSpans", unfollowed := true, recurses := true, apart := false, narrowed := true }
def SliceSpansUptoSaid : Prop := sliceSpansUptoRow.holds Try.pinned (OpenSpec.upto sliceSpansSpec)

/-- 'mandolinelaw17.SliceParts', WHERE WHAT IT READS IS OF BULK AT MOST 1048576: true; the input reads as it did. -/
def slicePartsUptoRow : OpenClaim := { program := "ytoahjhkfnchdhaa", sum := "8e7d746d3edd9026270780ebc5288835bda313aa890764efa41970602e03dbb5", func := "mandoline/mandolinelaw17.SliceParts", spec := "sliceParts", unfollowed := true, recurses := true, apart := false, narrowed := true }
def SlicePartsUptoSaid : Prop := slicePartsUptoRow.holds Try.pinned (OpenSpec.upto slicePartsSpec)

/-- 'mandolinelaw17.SlicePuts', WHERE WHAT IT READS IS OF BULK AT MOST 1048576: true; the input reads as it did. -/
def slicePutsUptoRow : OpenClaim := { program := "ytoahjhkfnchdhaa", sum := "8e7d746d3edd9026270780ebc5288835bda313aa890764efa41970602e03dbb5", func := "mandoline/mandolinelaw17.SlicePuts", spec := "slicePuts", unfollowed := true, recurses := true, apart := false, narrowed := true }
def SlicePutsUptoSaid : Prop := slicePutsUptoRow.holds Try.pinned (OpenSpec.upto slicePutsSpec)

/-- 'mandolinelaw17.SliceWhole', WHERE WHAT IT READS IS OF BULK AT MOST 1048576: true; the input reads as it did. -/
def sliceWholeUptoRow : OpenClaim := { program := "ytoahjhkfnchdhaa", sum := "8e7d746d3edd9026270780ebc5288835bda313aa890764efa41970602e03dbb5", func := "mandoline/mandolinelaw17.SliceWhole", spec := "sliceWhole", unfollowed := true, recurses := true, apart := false, narrowed := true }
def SliceWholeUptoSaid : Prop := sliceWholeUptoRow.holds Try.pinned (OpenSpec.upto sliceWholeSpec)

/-- 'mandolinelaw17.SliceTurned', WHERE WHAT IT READS IS OF BULK AT MOST 1048576: true; the input reads as it did. -/
def sliceTurnedUptoRow : OpenClaim := { program := "ytoahjhkfnchdhaa", sum := "8e7d746d3edd9026270780ebc5288835bda313aa890764efa41970602e03dbb5", func := "mandoline/mandolinelaw17.SliceTurned", spec := "sliceTurned", unfollowed := true, recurses := true, apart := false, narrowed := true }
def SliceTurnedUptoSaid : Prop := sliceTurnedUptoRow.holds Try.pinned (OpenSpec.upto sliceTurnedSpec)

/-- 'mandolinelaw17.SliceSealed', WHERE WHAT IT READS IS OF BULK AT MOST 1048576: true; the input reads as it did. -/
def sliceSealedUptoRow : OpenClaim := { program := "ytoahjhkfnchdhaa", sum := "8e7d746d3edd9026270780ebc5288835bda313aa890764efa41970602e03dbb5", func := "mandoline/mandolinelaw17.SliceSealed", spec := "sliceSealed", unfollowed := true, recurses := true, apart := false, narrowed := true }
def SliceSealedUptoSaid : Prop := sliceSealedUptoRow.holds Try.pinned (OpenSpec.upto sliceSealedSpec)

/-- 'mandolinelaw17.SliceOnce', WHERE WHAT IT READS IS OF BULK AT MOST 1048576: true; the input reads as it did. -/
def sliceOnceUptoRow : OpenClaim := { program := "ytoahjhkfnchdhaa", sum := "8e7d746d3edd9026270780ebc5288835bda313aa890764efa41970602e03dbb5", func := "mandoline/mandolinelaw17.SliceOnce", spec := "sliceOnce", unfollowed := true, recurses := true, apart := false, narrowed := true }
def SliceOnceUptoSaid : Prop := sliceOnceUptoRow.holds Try.pinned (OpenSpec.upto sliceOnceSpec)

/-- 'mandolinelaw17.SliceAll', WHERE WHAT IT READS IS OF BULK AT MOST 1048576: true; the input reads as it did. -/
def sliceAllUptoRow : OpenClaim := { program := "ytoahjhkfnchdhaa", sum := "8e7d746d3edd9026270780ebc5288835bda313aa890764efa41970602e03dbb5", func := "mandoline/mandolinelaw17.SliceAll", spec := "sliceAll", unfollowed := true, recurses := true, apart := false, narrowed := true }
def SliceAllUptoSaid : Prop := sliceAllUptoRow.holds Try.pinned (OpenSpec.upto sliceAllSpec)

end Rows
end Go.Proofs.Ytoahjhkfnchdhaa
