/-
  No cell of these rows narrows 'for every input' (looked for: loops, veiled, ifaces, maps, wideKeys, modest, calm, conditions, laid).
  DERIVED. THE GIVEN ROWS OF THIS SEAT. 8 by the template 'for every input the law returns true; each argument reads behind the call as it read before'; 0 by the template 'total and deterministic' (their statements: YtjiabibnbpjhaaaTotals.lean).
  GIVEN WITH THE SEED: the statements are not yours to turn. If you find one false, say at which input.
  Laid BY PROGRAM, IN A SANDBOX (cutbox-rows.mjs): the forced cells as the released guide's own fill.sh prints them over the translation a7ce77fbd84e12ca… (all of the seat's roots in one cut). By AI agents, Wed Nov 11 2026. No macro, syntax, notation, axiom, sorry.
-/
import Derived.Test.YtjiabibnbpjhaaaChecked
import GoSem.Claim
import GoSem.ClaimJoined
import GoSem.ClaimMapViews
import Derived.JoinedTies
import Derived.KernelRfl
namespace Go.Proofs.Ytjiabibnbpjhaaa
/- THE CELL 'sum', in the pinned program and in every row, IS THE sha256 OF THE DUMP (.gsa) THAT YtjiabibnbpjhaaaProg.lean LOADS. Nothing in Lean hashes anything: it is a label: what it is worth is what the hold of that sum in a sandbox is worth. -/
noncomputable def Try.pinned : Pinned := { name := "ytjiabibnbpjhaaa", sum := "a7ce77fbd84e12cac3be7eb2db1c69ea4c1f8b32ef15fe0b7838d71dbdc6dc15", checked := Try.checked }
namespace Rows
def none {H : Type} : Left H := { results := [], args := [] }

/-- 'mandolinelaw03.ImapRuns': WHATEVER THE INPUT: true; the input reads as it did. -/
def imapRunsSpec : ChangeSpec := { name := "imapRuns", fn := fun _ => fun
  | [d] => { results := [.lit (.bool true)], args := [d] }
  | _ => none }
def imapRunsRow : OpenClaim := { program := "ytjiabibnbpjhaaa", sum := "a7ce77fbd84e12cac3be7eb2db1c69ea4c1f8b32ef15fe0b7838d71dbdc6dc15", func := "mandoline/mandolinelaw03.ImapRuns", spec := "imapRuns", unfollowed := true, recurses := true, apart := false }
def ImapRunsSaid : Prop := imapRunsRow.holds Try.pinned (OpenSpec.ofChange imapRunsSpec)

/-- ITS FALSE NEIGHBOUR: 'it returns false'. Refute it at one input. -/
def imapRunsWrong : ChangeSpec := { name := "imapRuns", fn := fun _ => fun
  | [d] => { results := [.lit (.bool false)], args := [d] }
  | _ => none }
def ImapRunsWrongFalsely : Prop := imapRunsRow.holds Try.pinned (OpenSpec.ofChange imapRunsWrong)

/-- 'mandolinelaw03.ImapWithin': WHATEVER THE INPUT: true; the input reads as it did. -/
def imapWithinSpec : ChangeSpec := { name := "imapWithin", fn := fun _ => fun
  | [d1, d2] => { results := [.lit (.bool true)], args := [d1, d2] }
  | _ => none }
def imapWithinRow : OpenClaim := { program := "ytjiabibnbpjhaaa", sum := "a7ce77fbd84e12cac3be7eb2db1c69ea4c1f8b32ef15fe0b7838d71dbdc6dc15", func := "mandoline/mandolinelaw03.ImapWithin", spec := "imapWithin", unfollowed := true, recurses := true, apart := false }
def ImapWithinSaid : Prop := imapWithinRow.holds Try.pinned (OpenSpec.ofChange imapWithinSpec)

/-- ITS FALSE NEIGHBOUR: 'it returns false'. Refute it at one input. -/
def imapWithinWrong : ChangeSpec := { name := "imapWithin", fn := fun _ => fun
  | [d1, d2] => { results := [.lit (.bool false)], args := [d1, d2] }
  | _ => none }
def ImapWithinWrongFalsely : Prop := imapWithinRow.holds Try.pinned (OpenSpec.ofChange imapWithinWrong)

/-- 'mandolinelaw03.ImapStops': WHATEVER THE INPUT: true; the input reads as it did. -/
def imapStopsSpec : ChangeSpec := { name := "imapStops", fn := fun _ => fun
  | [d1, d2] => { results := [.lit (.bool true)], args := [d1, d2] }
  | _ => none }
def imapStopsRow : OpenClaim := { program := "ytjiabibnbpjhaaa", sum := "a7ce77fbd84e12cac3be7eb2db1c69ea4c1f8b32ef15fe0b7838d71dbdc6dc15", func := "mandoline/mandolinelaw03.ImapStops", spec := "imapStops", unfollowed := true, recurses := true, apart := false }
def ImapStopsSaid : Prop := imapStopsRow.holds Try.pinned (OpenSpec.ofChange imapStopsSpec)

/-- ITS FALSE NEIGHBOUR: 'it returns false'. Refute it at one input. -/
def imapStopsWrong : ChangeSpec := { name := "imapStops", fn := fun _ => fun
  | [d1, d2] => { results := [.lit (.bool false)], args := [d1, d2] }
  | _ => none }
def ImapStopsWrongFalsely : Prop := imapStopsRow.holds Try.pinned (OpenSpec.ofChange imapStopsWrong)

/-- 'mandolinelaw03.ImapApart': WHATEVER THE INPUT: true; the input reads as it did. -/
def imapApartSpec : ChangeSpec := { name := "imapApart", fn := fun _ => fun
  | [d1, d2, d3] => { results := [.lit (.bool true)], args := [d1, d2, d3] }
  | _ => none }
def imapApartRow : OpenClaim := { program := "ytjiabibnbpjhaaa", sum := "a7ce77fbd84e12cac3be7eb2db1c69ea4c1f8b32ef15fe0b7838d71dbdc6dc15", func := "mandoline/mandolinelaw03.ImapApart", spec := "imapApart", unfollowed := true, recurses := true, apart := false }
def ImapApartSaid : Prop := imapApartRow.holds Try.pinned (OpenSpec.ofChange imapApartSpec)

/-- ITS FALSE NEIGHBOUR: 'it returns false'. Refute it at one input. -/
def imapApartWrong : ChangeSpec := { name := "imapApart", fn := fun _ => fun
  | [d1, d2, d3] => { results := [.lit (.bool false)], args := [d1, d2, d3] }
  | _ => none }
def ImapApartWrongFalsely : Prop := imapApartRow.holds Try.pinned (OpenSpec.ofChange imapApartWrong)

/-- 'mandolinelaw03.ImapGets': WHATEVER THE INPUT: true; the input reads as it did. -/
def imapGetsSpec : ChangeSpec := { name := "imapGets", fn := fun _ => fun
  | [d1, d2] => { results := [.lit (.bool true)], args := [d1, d2] }
  | _ => none }
def imapGetsRow : OpenClaim := { program := "ytjiabibnbpjhaaa", sum := "a7ce77fbd84e12cac3be7eb2db1c69ea4c1f8b32ef15fe0b7838d71dbdc6dc15", func := "mandoline/mandolinelaw03.ImapGets", spec := "imapGets", unfollowed := true, recurses := true, apart := false }
def ImapGetsSaid : Prop := imapGetsRow.holds Try.pinned (OpenSpec.ofChange imapGetsSpec)

/-- ITS FALSE NEIGHBOUR: 'it returns false'. Refute it at one input. -/
def imapGetsWrong : ChangeSpec := { name := "imapGets", fn := fun _ => fun
  | [d1, d2] => { results := [.lit (.bool false)], args := [d1, d2] }
  | _ => none }
def ImapGetsWrongFalsely : Prop := imapGetsRow.holds Try.pinned (OpenSpec.ofChange imapGetsWrong)

/-- 'mandolinelaw03.ImapLast': WHATEVER THE INPUT: true; the input reads as it did. -/
def imapLastSpec : ChangeSpec := { name := "imapLast", fn := fun _ => fun
  | [d1, d2] => { results := [.lit (.bool true)], args := [d1, d2] }
  | _ => none }
def imapLastRow : OpenClaim := { program := "ytjiabibnbpjhaaa", sum := "a7ce77fbd84e12cac3be7eb2db1c69ea4c1f8b32ef15fe0b7838d71dbdc6dc15", func := "mandoline/mandolinelaw03.ImapLast", spec := "imapLast", unfollowed := true, recurses := true, apart := false }
def ImapLastSaid : Prop := imapLastRow.holds Try.pinned (OpenSpec.ofChange imapLastSpec)

/-- ITS FALSE NEIGHBOUR: 'it returns false'. Refute it at one input. -/
def imapLastWrong : ChangeSpec := { name := "imapLast", fn := fun _ => fun
  | [d1, d2] => { results := [.lit (.bool false)], args := [d1, d2] }
  | _ => none }
def ImapLastWrongFalsely : Prop := imapLastRow.holds Try.pinned (OpenSpec.ofChange imapLastWrong)

/-- 'mandolinelaw03.ImapSets': WHATEVER THE INPUT: true; the input reads as it did. -/
def imapSetsSpec : ChangeSpec := { name := "imapSets", fn := fun _ => fun
  | [d1, d2] => { results := [.lit (.bool true)], args := [d1, d2] }
  | _ => none }
def imapSetsRow : OpenClaim := { program := "ytjiabibnbpjhaaa", sum := "a7ce77fbd84e12cac3be7eb2db1c69ea4c1f8b32ef15fe0b7838d71dbdc6dc15", func := "mandoline/mandolinelaw03.ImapSets", spec := "imapSets", unfollowed := true, recurses := true, apart := false }
def ImapSetsSaid : Prop := imapSetsRow.holds Try.pinned (OpenSpec.ofChange imapSetsSpec)

/-- ITS FALSE NEIGHBOUR: 'it returns false'. Refute it at one input. -/
def imapSetsWrong : ChangeSpec := { name := "imapSets", fn := fun _ => fun
  | [d1, d2] => { results := [.lit (.bool false)], args := [d1, d2] }
  | _ => none }
def ImapSetsWrongFalsely : Prop := imapSetsRow.holds Try.pinned (OpenSpec.ofChange imapSetsWrong)

/-- 'mandolinelaw03.ImapNil': WHATEVER THE INPUT: true; the input reads as it did. -/
def imapNilSpec : ChangeSpec := { name := "imapNil", fn := fun _ => fun
  | [d1, d2, d3] => { results := [.lit (.bool true)], args := [d1, d2, d3] }
  | _ => none }
def imapNilRow : OpenClaim := { program := "ytjiabibnbpjhaaa", sum := "a7ce77fbd84e12cac3be7eb2db1c69ea4c1f8b32ef15fe0b7838d71dbdc6dc15", func := "mandoline/mandolinelaw03.ImapNil", spec := "imapNil", unfollowed := true, recurses := true, apart := false }
def ImapNilSaid : Prop := imapNilRow.holds Try.pinned (OpenSpec.ofChange imapNilSpec)

/-- ITS FALSE NEIGHBOUR: 'it returns false'. Refute it at one input. -/
def imapNilWrong : ChangeSpec := { name := "imapNil", fn := fun _ => fun
  | [d1, d2, d3] => { results := [.lit (.bool false)], args := [d1, d2, d3] }
  | _ => none }
def ImapNilWrongFalsely : Prop := imapNilRow.holds Try.pinned (OpenSpec.ofChange imapNilWrong)

/- THE SECOND FORM. 'bulk': how many values and letters a reading holds, each counted each time it is reached (what is shared counts as often as it is met; a slice's spare places count too). A statement '..UptoSaid' is the law's where the arguments, and the package variables that the reading takes, are together of bulk at most 1048576: NARROWER than '..Said'. Prove '..Said' where nothing that the law and all that it calls make is longer than what came in: it says more and counts as full. Else prove '..UptoSaid'. A law counts once. -/
mutual
def uptoBulk {H : Type} : DataW H → Nat
  | .lit (.string bytes) => bytes.length + 1
  | .lit _ => 1
  | .nil => 1
  | .ptr d => uptoBulk d + 1
  | .slice elems spare => uptoBulkAll elems + uptoBulkAll spare + 1
  | .agg parts => uptoBulkAll parts + 1
  | .iface _ d => uptoBulk d + 1
  | .map entries => uptoBulkEntries entries + 1
  | .held _ => 1
def uptoBulkAll {H : Type} : List (DataW H) → Nat
  | [] => 0
  | d :: r => uptoBulk d + uptoBulkAll r
def uptoBulkEntries {H : Type} : List (Lit × DataW H) → Nat
  | [] => 0
  | x :: r => uptoBulkEntry x + uptoBulkEntries r
def uptoBulkEntry {H : Type} : Lit × DataW H → Nat
  | (.string bytes, d) => bytes.length + uptoBulk d + 1
  | (_, d) => uptoBulk d + 1
 end
def uptoSmall : (H : Type) → List (DataW H) → Bool := fun _ ds => decide (uptoBulkAll ds ≤ 1048576)
def OpenSpec.upto (s : _root_.Go.ChangeSpec) : _root_.Go.OpenSpec := { _root_.Go.OpenSpec.ofChange s with cond := some uptoSmall }

/-- 'mandolinelaw03.ImapRuns', WHERE WHAT IT READS IS OF BULK AT MOST 1048576: true; the input reads as it did. -/
def imapRunsUptoRow : OpenClaim := { program := "ytjiabibnbpjhaaa", sum := "a7ce77fbd84e12cac3be7eb2db1c69ea4c1f8b32ef15fe0b7838d71dbdc6dc15", func := "mandoline/mandolinelaw03.ImapRuns", spec := "imapRuns", unfollowed := true, recurses := true, apart := false, narrowed := true }
def ImapRunsUptoSaid : Prop := imapRunsUptoRow.holds Try.pinned (OpenSpec.upto imapRunsSpec)

/-- 'mandolinelaw03.ImapWithin', WHERE WHAT IT READS IS OF BULK AT MOST 1048576: true; the input reads as it did. -/
def imapWithinUptoRow : OpenClaim := { program := "ytjiabibnbpjhaaa", sum := "a7ce77fbd84e12cac3be7eb2db1c69ea4c1f8b32ef15fe0b7838d71dbdc6dc15", func := "mandoline/mandolinelaw03.ImapWithin", spec := "imapWithin", unfollowed := true, recurses := true, apart := false, narrowed := true }
def ImapWithinUptoSaid : Prop := imapWithinUptoRow.holds Try.pinned (OpenSpec.upto imapWithinSpec)

/-- 'mandolinelaw03.ImapStops', WHERE WHAT IT READS IS OF BULK AT MOST 1048576: true; the input reads as it did. -/
def imapStopsUptoRow : OpenClaim := { program := "ytjiabibnbpjhaaa", sum := "a7ce77fbd84e12cac3be7eb2db1c69ea4c1f8b32ef15fe0b7838d71dbdc6dc15", func := "mandoline/mandolinelaw03.ImapStops", spec := "imapStops", unfollowed := true, recurses := true, apart := false, narrowed := true }
def ImapStopsUptoSaid : Prop := imapStopsUptoRow.holds Try.pinned (OpenSpec.upto imapStopsSpec)

/-- 'mandolinelaw03.ImapApart', WHERE WHAT IT READS IS OF BULK AT MOST 1048576: true; the input reads as it did. -/
def imapApartUptoRow : OpenClaim := { program := "ytjiabibnbpjhaaa", sum := "a7ce77fbd84e12cac3be7eb2db1c69ea4c1f8b32ef15fe0b7838d71dbdc6dc15", func := "mandoline/mandolinelaw03.ImapApart", spec := "imapApart", unfollowed := true, recurses := true, apart := false, narrowed := true }
def ImapApartUptoSaid : Prop := imapApartUptoRow.holds Try.pinned (OpenSpec.upto imapApartSpec)

/-- 'mandolinelaw03.ImapGets', WHERE WHAT IT READS IS OF BULK AT MOST 1048576: true; the input reads as it did. -/
def imapGetsUptoRow : OpenClaim := { program := "ytjiabibnbpjhaaa", sum := "a7ce77fbd84e12cac3be7eb2db1c69ea4c1f8b32ef15fe0b7838d71dbdc6dc15", func := "mandoline/mandolinelaw03.ImapGets", spec := "imapGets", unfollowed := true, recurses := true, apart := false, narrowed := true }
def ImapGetsUptoSaid : Prop := imapGetsUptoRow.holds Try.pinned (OpenSpec.upto imapGetsSpec)

/-- 'mandolinelaw03.ImapLast', WHERE WHAT IT READS IS OF BULK AT MOST 1048576: true; the input reads as it did. -/
def imapLastUptoRow : OpenClaim := { program := "ytjiabibnbpjhaaa", sum := "a7ce77fbd84e12cac3be7eb2db1c69ea4c1f8b32ef15fe0b7838d71dbdc6dc15", func := "mandoline/mandolinelaw03.ImapLast", spec := "imapLast", unfollowed := true, recurses := true, apart := false, narrowed := true }
def ImapLastUptoSaid : Prop := imapLastUptoRow.holds Try.pinned (OpenSpec.upto imapLastSpec)

/-- 'mandolinelaw03.ImapSets', WHERE WHAT IT READS IS OF BULK AT MOST 1048576: true; the input reads as it did. -/
def imapSetsUptoRow : OpenClaim := { program := "ytjiabibnbpjhaaa", sum := "a7ce77fbd84e12cac3be7eb2db1c69ea4c1f8b32ef15fe0b7838d71dbdc6dc15", func := "mandoline/mandolinelaw03.ImapSets", spec := "imapSets", unfollowed := true, recurses := true, apart := false, narrowed := true }
def ImapSetsUptoSaid : Prop := imapSetsUptoRow.holds Try.pinned (OpenSpec.upto imapSetsSpec)

/-- 'mandolinelaw03.ImapNil', WHERE WHAT IT READS IS OF BULK AT MOST 1048576: true; the input reads as it did. -/
def imapNilUptoRow : OpenClaim := { program := "ytjiabibnbpjhaaa", sum := "a7ce77fbd84e12cac3be7eb2db1c69ea4c1f8b32ef15fe0b7838d71dbdc6dc15", func := "mandoline/mandolinelaw03.ImapNil", spec := "imapNil", unfollowed := true, recurses := true, apart := false, narrowed := true }
def ImapNilUptoSaid : Prop := imapNilUptoRow.holds Try.pinned (OpenSpec.upto imapNilSpec)

end Rows
end Go.Proofs.Ytjiabibnbpjhaaa
