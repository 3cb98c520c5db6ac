/-
  No cell of these rows narrows 'for every input' (looked for: loops, veiled, ifaces, maps, wideKeys, modest, calm, conditions, laid).
  DERIVED. THE GIVEN ROWS OF THIS SEAT. 6 by the template 'for every input the law returns true; each argument reads behind the call as it read before'; 0 by the template 'total and deterministic' (their statements: YtcdokpkffbigdaaTotals.lean).
  GIVEN WITH THE SEED: the statements are not yours to turn. If you find one false, say at which input.
  Laid BY PROGRAM, IN A SANDBOX (cutbox-rows.mjs): the forced cells as the released guide's own fill.sh prints them over the translation c685186990acb3b0… (all of the seat's roots in one cut). By AI agents, Wed Nov 11 2026. No macro, syntax, notation, axiom, sorry.
-/
import Derived.Test.YtcdokpkffbigdaaChecked
import GoSem.Claim
import GoSem.ClaimJoined
import GoSem.ClaimMapViews
import Derived.JoinedTies
import Derived.KernelRfl
namespace Go.Proofs.Ytcdokpkffbigdaa
/- THE CELL 'sum', in the pinned program and in every row, IS THE sha256 OF THE DUMP (.gsa) THAT YtcdokpkffbigdaaProg.lean LOADS. Nothing in Lean hashes anything: it is a label: what it is worth is what the hold of that sum in a sandbox is worth. -/
noncomputable def Try.pinned : Pinned := { name := "ytcdokpkffbigdaa", sum := "c685186990acb3b038168663fac22606bd1215902a1f8d3d260a7f6cb05a55e5", checked := Try.checked }
namespace Rows
def none {H : Type} : Left H := { results := [], args := [] }

/-- 'mandolinelaw43.AssembleWhole': WHATEVER THE INPUT: true; the input reads as it did. -/
def assembleWholeSpec : ChangeSpec := { name := "assembleWhole", fn := fun _ => fun
  | [d1, d2, d3] => { results := [.lit (.bool true)], args := [d1, d2, d3] }
  | _ => none }
def assembleWholeRow : OpenClaim := { program := "ytcdokpkffbigdaa", sum := "c685186990acb3b038168663fac22606bd1215902a1f8d3d260a7f6cb05a55e5", func := "mandoline/mandolinelaw43.AssembleWhole", spec := "assembleWhole", unfollowed := true, recurses := true, apart := false }
def AssembleWholeSaid : Prop := assembleWholeRow.holds Try.pinned (OpenSpec.ofChange assembleWholeSpec)

/-- ITS FALSE NEIGHBOUR: 'it returns false'. Refute it at one input. -/
def assembleWholeWrong : ChangeSpec := { name := "assembleWhole", fn := fun _ => fun
  | [d1, d2, d3] => { results := [.lit (.bool false)], args := [d1, d2, d3] }
  | _ => none }
def AssembleWholeWrongFalsely : Prop := assembleWholeRow.holds Try.pinned (OpenSpec.ofChange assembleWholeWrong)

/-- 'mandolinelaw43.AssembleSeals': WHATEVER THE INPUT: true; the input reads as it did. -/
def assembleSealsSpec : ChangeSpec := { name := "assembleSeals", fn := fun _ => fun
  | [d1, d2, d3] => { results := [.lit (.bool true)], args := [d1, d2, d3] }
  | _ => none }
def assembleSealsRow : OpenClaim := { program := "ytcdokpkffbigdaa", sum := "c685186990acb3b038168663fac22606bd1215902a1f8d3d260a7f6cb05a55e5", func := "mandoline/mandolinelaw43.AssembleSeals", spec := "assembleSeals", unfollowed := true, recurses := true, apart := false }
def AssembleSealsSaid : Prop := assembleSealsRow.holds Try.pinned (OpenSpec.ofChange assembleSealsSpec)

/-- ITS FALSE NEIGHBOUR: 'it returns false'. Refute it at one input. -/
def assembleSealsWrong : ChangeSpec := { name := "assembleSeals", fn := fun _ => fun
  | [d1, d2, d3] => { results := [.lit (.bool false)], args := [d1, d2, d3] }
  | _ => none }
def AssembleSealsWrongFalsely : Prop := assembleSealsRow.holds Try.pinned (OpenSpec.ofChange assembleSealsWrong)

/-- 'mandolinelaw43.AssembleMore': WHATEVER THE INPUT: true; the input reads as it did. -/
def assembleMoreSpec : ChangeSpec := { name := "assembleMore", fn := fun _ => fun
  | [d1, d2, d3] => { results := [.lit (.bool true)], args := [d1, d2, d3] }
  | _ => none }
def assembleMoreRow : OpenClaim := { program := "ytcdokpkffbigdaa", sum := "c685186990acb3b038168663fac22606bd1215902a1f8d3d260a7f6cb05a55e5", func := "mandoline/mandolinelaw43.AssembleMore", spec := "assembleMore", unfollowed := true, recurses := true, apart := false }
def AssembleMoreSaid : Prop := assembleMoreRow.holds Try.pinned (OpenSpec.ofChange assembleMoreSpec)

/-- ITS FALSE NEIGHBOUR: 'it returns false'. Refute it at one input. -/
def assembleMoreWrong : ChangeSpec := { name := "assembleMore", fn := fun _ => fun
  | [d1, d2, d3] => { results := [.lit (.bool false)], args := [d1, d2, d3] }
  | _ => none }
def AssembleMoreWrongFalsely : Prop := assembleMoreRow.holds Try.pinned (OpenSpec.ofChange assembleMoreWrong)

/-- 'mandolinelaw43.AssembleCan': WHATEVER THE INPUT: true; the input reads as it did. -/
def assembleCanSpec : ChangeSpec := { name := "assembleCan", fn := fun _ => fun
  | [d1, d2, d3] => { results := [.lit (.bool true)], args := [d1, d2, d3] }
  | _ => none }
def assembleCanRow : OpenClaim := { program := "ytcdokpkffbigdaa", sum := "c685186990acb3b038168663fac22606bd1215902a1f8d3d260a7f6cb05a55e5", func := "mandoline/mandolinelaw43.AssembleCan", spec := "assembleCan", unfollowed := true, recurses := true, apart := false }
def AssembleCanSaid : Prop := assembleCanRow.holds Try.pinned (OpenSpec.ofChange assembleCanSpec)

/-- ITS FALSE NEIGHBOUR: 'it returns false'. Refute it at one input. -/
def assembleCanWrong : ChangeSpec := { name := "assembleCan", fn := fun _ => fun
  | [d1, d2, d3] => { results := [.lit (.bool false)], args := [d1, d2, d3] }
  | _ => none }
def AssembleCanWrongFalsely : Prop := assembleCanRow.holds Try.pinned (OpenSpec.ofChange assembleCanWrong)

/-- 'mandolinelaw43.AssemblePlays': WHATEVER THE INPUT: true; the input reads as it did. -/
def assemblePlaysSpec : ChangeSpec := { name := "assemblePlays", fn := fun _ => fun
  | [d1, d2] => { results := [.lit (.bool true)], args := [d1, d2] }
  | _ => none }
def assemblePlaysRow : OpenClaim := { program := "ytcdokpkffbigdaa", sum := "c685186990acb3b038168663fac22606bd1215902a1f8d3d260a7f6cb05a55e5", func := "mandoline/mandolinelaw43.AssemblePlays", spec := "assemblePlays", unfollowed := true, recurses := true, apart := false }
def AssemblePlaysSaid : Prop := assemblePlaysRow.holds Try.pinned (OpenSpec.ofChange assemblePlaysSpec)

/-- ITS FALSE NEIGHBOUR: 'it returns false'. Refute it at one input. -/
def assemblePlaysWrong : ChangeSpec := { name := "assemblePlays", fn := fun _ => fun
  | [d1, d2] => { results := [.lit (.bool false)], args := [d1, d2] }
  | _ => none }
def AssemblePlaysWrongFalsely : Prop := assemblePlaysRow.holds Try.pinned (OpenSpec.ofChange assemblePlaysWrong)

/-- 'mandolinelaw43.AssembleNil': WHATEVER THE INPUT: true; the input reads as it did. -/
def assembleNilSpec : ChangeSpec := { name := "assembleNil", fn := fun _ => fun
  | [d1, d2] => { results := [.lit (.bool true)], args := [d1, d2] }
  | _ => none }
def assembleNilRow : OpenClaim := { program := "ytcdokpkffbigdaa", sum := "c685186990acb3b038168663fac22606bd1215902a1f8d3d260a7f6cb05a55e5", func := "mandoline/mandolinelaw43.AssembleNil", spec := "assembleNil", unfollowed := true, recurses := true, apart := false }
def AssembleNilSaid : Prop := assembleNilRow.holds Try.pinned (OpenSpec.ofChange assembleNilSpec)

/-- ITS FALSE NEIGHBOUR: 'it returns false'. Refute it at one input. -/
def assembleNilWrong : ChangeSpec := { name := "assembleNil", fn := fun _ => fun
  | [d1, d2] => { results := [.lit (.bool false)], args := [d1, d2] }
  | _ => none }
def AssembleNilWrongFalsely : Prop := assembleNilRow.holds Try.pinned (OpenSpec.ofChange assembleNilWrong)

/- THE SECOND FORM. 'bulk': how many values and letters a reading holds, each counted each time it is reached (what is shared counts as often as it is met; a slice's spare places count too). A statement '..UptoSaid' is the law's where the arguments, and the package variables that the reading takes, are together of bulk at most 1048576: NARROWER than '..Said'. Prove '..Said' where nothing that the law and all that it calls make is longer than what came in: it says more and counts as full. Else prove '..UptoSaid'. A law counts once. -/
mutual
def uptoBulk {H : Type} : DataW H → Nat
  | .lit (.string bytes) => bytes.length + 1
  | .lit _ => 1
  | .nil => 1
  | .ptr d => uptoBulk d + 1
  | .slice elems spare => uptoBulkAll elems + uptoBulkAll spare + 1
  | .agg parts => uptoBulkAll parts + 1
  | .iface _ d => uptoBulk d + 1
  | .map entries => uptoBulkEntries entries + 1
  | .held _ => 1
def uptoBulkAll {H : Type} : List (DataW H) → Nat
  | [] => 0
  | d :: r => uptoBulk d + uptoBulkAll r
def uptoBulkEntries {H : Type} : List (Lit × DataW H) → Nat
  | [] => 0
  | x :: r => uptoBulkEntry x + uptoBulkEntries r
def uptoBulkEntry {H : Type} : Lit × DataW H → Nat
  | (.string bytes, d) => bytes.length + uptoBulk d + 1
  | (_, d) => uptoBulk d + 1
 end
def uptoSmall : (H : Type) → List (DataW H) → Bool := fun _ ds => decide (uptoBulkAll ds ≤ 1048576)
def OpenSpec.upto (s : _root_.Go.ChangeSpec) : _root_.Go.OpenSpec := { _root_.Go.OpenSpec.ofChange s with cond := some uptoSmall }

/-- 'mandolinelaw43.AssembleWhole', WHERE WHAT IT READS IS OF BULK AT MOST 1048576: true; the input reads as it did. -/
def assembleWholeUptoRow : OpenClaim := { program := "ytcdokpkffbigdaa", sum := "c685186990acb3b038168663fac22606bd1215902a1f8d3d260a7f6cb05a55e5", func := "mandoline/mandolinelaw43.AssembleWhole", spec := "assembleWhole", unfollowed := true, recurses := true, apart := false, narrowed := true }
def AssembleWholeUptoSaid : Prop := assembleWholeUptoRow.holds Try.pinned (OpenSpec.upto assembleWholeSpec)

/-- 'mandolinelaw43.AssembleSeals', WHERE WHAT IT READS IS OF BULK AT MOST 1048576: true; the input reads as it did. -/
def assembleSealsUptoRow : OpenClaim := { program := "ytcdokpkffbigdaa", sum := "c685186990acb3b038168663fac22606bd1215902a1f8d3d260a7f6cb05a55e5", func := "mandoline/mandolinelaw43.AssembleSeals", spec := "assembleSeals", unfollowed := true, recurses := true, apart := false, narrowed := true }
def AssembleSealsUptoSaid : Prop := assembleSealsUptoRow.holds Try.pinned (OpenSpec.upto assembleSealsSpec)

/-- 'mandolinelaw43.AssembleMore', WHERE WHAT IT READS IS OF BULK AT MOST 1048576: true; the input reads as it did. -/
def assembleMoreUptoRow : OpenClaim := { program := "ytcdokpkffbigdaa", sum := "c685186990acb3b038168663fac22606bd1215902a1f8d3d260a7f6cb05a55e5", func := "mandoline/mandolinelaw43.AssembleMore", spec := "assembleMore", unfollowed := true, recurses := true, apart := false, narrowed := true }
def AssembleMoreUptoSaid : Prop := assembleMoreUptoRow.holds Try.pinned (OpenSpec.upto assembleMoreSpec)

/-- 'mandolinelaw43.AssembleCan', WHERE WHAT IT READS IS OF BULK AT MOST 1048576: true; the input reads as it did. -/
def assembleCanUptoRow : OpenClaim := { program := "ytcdokpkffbigdaa", sum := "c685186990acb3b038168663fac22606bd1215902a1f8d3d260a7f6cb05a55e5", func := "mandoline/mandolinelaw43.AssembleCan", spec := "assembleCan", unfollowed := true, recurses := true, apart := false, narrowed := true }
def AssembleCanUptoSaid : Prop := assembleCanUptoRow.holds Try.pinned (OpenSpec.upto assembleCanSpec)

/-- 'mandolinelaw43.AssemblePlays', WHERE WHAT IT READS IS OF BULK AT MOST 1048576: true; the input reads as it did. -/
def assemblePlaysUptoRow : OpenClaim := { program := "ytcdokpkffbigdaa", sum := "c685186990acb3b038168663fac22606bd1215902a1f8d3d260a7f6cb05a55e5", func := "mandoline/mandolinelaw43.AssemblePlays", spec := "assemblePlays", unfollowed := true, recurses := true, apart := false, narrowed := true }
def AssemblePlaysUptoSaid : Prop := assemblePlaysUptoRow.holds Try.pinned (OpenSpec.upto assemblePlaysSpec)

/-- 'mandolinelaw43.AssembleNil', WHERE WHAT IT READS IS OF BULK AT MOST 1048576: true; the input reads as it did. -/
def assembleNilUptoRow : OpenClaim := { program := "ytcdokpkffbigdaa", sum := "c685186990acb3b038168663fac22606bd1215902a1f8d3d260a7f6cb05a55e5", func := "mandoline/mandolinelaw43.AssembleNil", spec := "assembleNil", unfollowed := true, recurses := true, apart := false, narrowed := true }
def AssembleNilUptoSaid : Prop := assembleNilUptoRow.holds Try.pinned (OpenSpec.upto assembleNilSpec)

end Rows
end Go.Proofs.Ytcdokpkffbigdaa
