/-
  No cell of these rows narrows 'for every input' (looked for: loops, veiled, ifaces, maps, wideKeys, modest, calm, conditions, laid).
  DERIVED. THE GIVEN ROWS OF THIS SEAT. 4 by the template 'for every input the law returns true; each argument reads behind the call as it read before'; 0 by the template 'total and deterministic' (their statements: YtgcplndmhlideaaTotals.lean).
  GIVEN WITH THE SEED: the statements are not yours to turn. If you find one false, say at which input.
  Laid BY PROGRAM, IN A SANDBOX (cutbox-rows.mjs): the forced cells as the released guide's own fill.sh prints them over the translation 1abfa8b6e7accd9b… (all of the seat's roots in one cut). By AI agents, Wed Nov 11 2026. No macro, syntax, notation, axiom, sorry.
-/
import Derived.Test.YtgcplndmhlideaaChecked
import GoSem.Claim
import GoSem.ClaimJoined
import GoSem.ClaimMapViews
import Derived.JoinedTies
import Derived.KernelRfl
namespace Go.Proofs.Ytgcplndmhlideaa
/- THE CELL 'sum', in the pinned program and in every row, IS THE sha256 OF THE DUMP (.gsa) THAT YtgcplndmhlideaaProg.lean LOADS. Nothing in Lean hashes anything: it is a label: what it is worth is what the hold of that sum in a sandbox is worth. -/
noncomputable def Try.pinned : Pinned := { name := "ytgcplndmhlideaa", sum := "1abfa8b6e7accd9bce47d630199eb751161d6ee8bd5299cccdf41a9fdb3e3474", checked := Try.checked }
namespace Rows
def none {H : Type} : Left H := { results := [], args := [] }

/-- 'mandolinelaw27.IndexPlays': WHATEVER THE INPUT: true; the input reads as it did. -/
def indexPlaysSpec : ChangeSpec := { name := "indexPlays", fn := fun _ => fun
  | [d1, d2] => { results := [.lit (.bool true)], args := [d1, d2] }
  | _ => none }
def indexPlaysRow : OpenClaim := { program := "ytgcplndmhlideaa", sum := "1abfa8b6e7accd9bce47d630199eb751161d6ee8bd5299cccdf41a9fdb3e3474", func := "mandoline/mandolinelaw27.IndexPlays", spec := "indexPlays", unfollowed := true, recurses := true, apart := false }
def IndexPlaysSaid : Prop := indexPlaysRow.holds Try.pinned (OpenSpec.ofChange indexPlaysSpec)

/-- ITS FALSE NEIGHBOUR: 'it returns false'. Refute it at one input. -/
def indexPlaysWrong : ChangeSpec := { name := "indexPlays", fn := fun _ => fun
  | [d1, d2] => { results := [.lit (.bool false)], args := [d1, d2] }
  | _ => none }
def IndexPlaysWrongFalsely : Prop := indexPlaysRow.holds Try.pinned (OpenSpec.ofChange indexPlaysWrong)

/-- 'mandolinelaw27.IndexGets': WHATEVER THE INPUT: true; the input reads as it did. -/
def indexGetsSpec : ChangeSpec := { name := "indexGets", fn := fun _ => fun
  | [d1, d2, d3] => { results := [.lit (.bool true)], args := [d1, d2, d3] }
  | _ => none }
def indexGetsRow : OpenClaim := { program := "ytgcplndmhlideaa", sum := "1abfa8b6e7accd9bce47d630199eb751161d6ee8bd5299cccdf41a9fdb3e3474", func := "mandoline/mandolinelaw27.IndexGets", spec := "indexGets", unfollowed := true, recurses := true, apart := false }
def IndexGetsSaid : Prop := indexGetsRow.holds Try.pinned (OpenSpec.ofChange indexGetsSpec)

/-- ITS FALSE NEIGHBOUR: 'it returns false'. Refute it at one input. -/
def indexGetsWrong : ChangeSpec := { name := "indexGets", fn := fun _ => fun
  | [d1, d2, d3] => { results := [.lit (.bool false)], args := [d1, d2, d3] }
  | _ => none }
def IndexGetsWrongFalsely : Prop := indexGetsRow.holds Try.pinned (OpenSpec.ofChange indexGetsWrong)

/-- 'mandolinelaw27.IndexStays': WHATEVER THE INPUT: true; the input reads as it did. -/
def indexStaysSpec : ChangeSpec := { name := "indexStays", fn := fun _ => fun
  | [d1, d2, d3] => { results := [.lit (.bool true)], args := [d1, d2, d3] }
  | _ => none }
def indexStaysRow : OpenClaim := { program := "ytgcplndmhlideaa", sum := "1abfa8b6e7accd9bce47d630199eb751161d6ee8bd5299cccdf41a9fdb3e3474", func := "mandoline/mandolinelaw27.IndexStays", spec := "indexStays", unfollowed := true, recurses := true, apart := false }
def IndexStaysSaid : Prop := indexStaysRow.holds Try.pinned (OpenSpec.ofChange indexStaysSpec)

/-- ITS FALSE NEIGHBOUR: 'it returns false'. Refute it at one input. -/
def indexStaysWrong : ChangeSpec := { name := "indexStays", fn := fun _ => fun
  | [d1, d2, d3] => { results := [.lit (.bool false)], args := [d1, d2, d3] }
  | _ => none }
def IndexStaysWrongFalsely : Prop := indexStaysRow.holds Try.pinned (OpenSpec.ofChange indexStaysWrong)

/-- 'mandolinelaw27.IndexNil': WHATEVER THE INPUT: true; the input reads as it did. -/
def indexNilSpec : ChangeSpec := { name := "indexNil", fn := fun _ => fun
  | [d1, d2] => { results := [.lit (.bool true)], args := [d1, d2] }
  | _ => none }
def indexNilRow : OpenClaim := { program := "ytgcplndmhlideaa", sum := "1abfa8b6e7accd9bce47d630199eb751161d6ee8bd5299cccdf41a9fdb3e3474", func := "mandoline/mandolinelaw27.IndexNil", spec := "indexNil", unfollowed := true, recurses := true, apart := false }
def IndexNilSaid : Prop := indexNilRow.holds Try.pinned (OpenSpec.ofChange indexNilSpec)

/-- ITS FALSE NEIGHBOUR: 'it returns false'. Refute it at one input. -/
def indexNilWrong : ChangeSpec := { name := "indexNil", fn := fun _ => fun
  | [d1, d2] => { results := [.lit (.bool false)], args := [d1, d2] }
  | _ => none }
def IndexNilWrongFalsely : Prop := indexNilRow.holds Try.pinned (OpenSpec.ofChange indexNilWrong)

/- THE SECOND FORM. 'bulk': how many values and letters a reading holds, each counted each time it is reached (what is shared counts as often as it is met; a slice's spare places count too). A statement '..UptoSaid' is the law's where the arguments, and the package variables that the reading takes, are together of bulk at most 1048576: NARROWER than '..Said'. Prove '..Said' where nothing that the law and all that it calls make is longer than what came in: it says more and counts as full. Else prove '..UptoSaid'. A law counts once. -/
mutual
def uptoBulk {H : Type} : DataW H → Nat
  | .lit (.string bytes) => bytes.length + 1
  | .lit _ => 1
  | .nil => 1
  | .ptr d => uptoBulk d + 1
  | .slice elems spare => uptoBulkAll elems + uptoBulkAll spare + 1
  | .agg parts => uptoBulkAll parts + 1
  | .iface _ d => uptoBulk d + 1
  | .map entries => uptoBulkEntries entries + 1
  | .held _ => 1
def uptoBulkAll {H : Type} : List (DataW H) → Nat
  | [] => 0
  | d :: r => uptoBulk d + uptoBulkAll r
def uptoBulkEntries {H : Type} : List (Lit × DataW H) → Nat
  | [] => 0
  | x :: r => uptoBulkEntry x + uptoBulkEntries r
def uptoBulkEntry {H : Type} : Lit × DataW H → Nat
  | (.string bytes, d) => bytes.length + uptoBulk d + 1
  | (_, d) => uptoBulk d + 1
 end
def uptoSmall : (H : Type) → List (DataW H) → Bool := fun _ ds => decide (uptoBulkAll ds ≤ 1048576)
def OpenSpec.upto (s : _root_.Go.ChangeSpec) : _root_.Go.OpenSpec := { _root_.Go.OpenSpec.ofChange s with cond := some uptoSmall }

/-- 'mandolinelaw27.IndexPlays', WHERE WHAT IT READS IS OF BULK AT MOST 1048576: true; the input reads as it did. -/
def indexPlaysUptoRow : OpenClaim := { program := "ytgcplndmhlideaa", sum := "1abfa8b6e7accd9bce47d630199eb751161d6ee8bd5299cccdf41a9fdb3e3474", func := "mandoline/mandolinelaw27.IndexPlays", spec := "indexPlays", unfollowed := true, recurses := true, apart := false, narrowed := true }
def IndexPlaysUptoSaid : Prop := indexPlaysUptoRow.holds Try.pinned (OpenSpec.upto indexPlaysSpec)

/-- 'mandolinelaw27.IndexGets', WHERE WHAT IT READS IS OF BULK AT MOST 1048576: true; the input reads as it did. -/
def indexGetsUptoRow : OpenClaim := { program := "ytgcplndmhlideaa", sum := "1abfa8b6e7accd9bce47d630199eb751161d6ee8bd5299cccdf41a9fdb3e3474", func := "mandoline/mandolinelaw27.IndexGets", spec := "indexGets", unfollowed := true, recurses := true, apart := false, narrowed := true }
def IndexGetsUptoSaid : Prop := indexGetsUptoRow.holds Try.pinned (OpenSpec.upto indexGetsSpec)

/-- 'mandolinelaw27.IndexStays', WHERE WHAT IT READS IS OF BULK AT MOST 1048576: true; the input reads as it did. -/
def indexStaysUptoRow : OpenClaim := { program := "ytgcplndmhlideaa", sum := "1abfa8b6e7accd9bce47d630199eb751161d6ee8bd5299cccdf41a9fdb3e3474", func := "mandoline/mandolinelaw27.IndexStays", spec := "indexStays", unfollowed := true, recurses := true, apart := false, narrowed := true }
def IndexStaysUptoSaid : Prop := indexStaysUptoRow.holds Try.pinned (OpenSpec.upto indexStaysSpec)

/-- 'mandolinelaw27.IndexNil', WHERE WHAT IT READS IS OF BULK AT MOST 1048576: true; the input reads as it did. -/
def indexNilUptoRow : OpenClaim := { program := "ytgcplndmhlideaa", sum := "1abfa8b6e7accd9bce47d630199eb751161d6ee8bd5299cccdf41a9fdb3e3474", func := "mandoline/mandolinelaw27.IndexNil", spec := "indexNil", unfollowed := true, recurses := true, apart := false, narrowed := true }
def IndexNilUptoSaid : Prop := indexNilUptoRow.holds Try.pinned (OpenSpec.upto indexNilSpec)

end Rows
end Go.Proofs.Ytgcplndmhlideaa
