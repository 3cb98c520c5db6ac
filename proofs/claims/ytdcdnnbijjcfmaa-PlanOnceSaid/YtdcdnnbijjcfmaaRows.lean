/-
  No cell of these rows narrows 'for every input' (looked for: loops, veiled, ifaces, maps, wideKeys, modest, calm, conditions, laid).
  DERIVED. THE GIVEN ROWS OF THIS SEAT. 7 by the template 'for every input the law returns true; each argument reads behind the call as it read before'; 0 by the template 'total and deterministic' (their statements: YtdcdnnbijjcfmaaTotals.lean).
  GIVEN WITH THE SEED: the statements are not yours to turn. If you find one false, say at which input.
  Laid BY PROGRAM, IN A SANDBOX (cutbox-rows.mjs): the forced cells as the released guide's own fill.sh prints them over the translation 9c9be32ef2491df6… (all of the seat's roots in one cut). By AI agents, Wed Nov 11 2026. No macro, syntax, notation, axiom, sorry.
-/
import Derived.Test.YtdcdnnbijjcfmaaChecked
import GoSem.Claim
import GoSem.ClaimJoined
import GoSem.ClaimMapViews
import Derived.JoinedTies
import Derived.KernelRfl
namespace Go.Proofs.Ytdcdnnbijjcfmaa
/- THE CELL 'sum', in the pinned program and in every row, IS THE sha256 OF THE DUMP (.gsa) THAT YtdcdnnbijjcfmaaProg.lean LOADS. Nothing in Lean hashes anything: it is a label: what it is worth is what the hold of that sum in a sandbox is worth. -/
noncomputable def Try.pinned : Pinned := { name := "ytdcdnnbijjcfmaa", sum := "9c9be32ef2491df68d0de3662fe63845ef2fcbfb2a75332bebebd2189c44f745", checked := Try.checked }
namespace Rows
def none {H : Type} : Left H := { results := [], args := [] }

/-- 'mandolinelaw35.PlanTells': WHATEVER THE INPUT: true; the input reads as it did. -/
def planTellsSpec : ChangeSpec := { name := "planTells", fn := fun _ => fun
  | [d] => { results := [.lit (.bool true)], args := [d] }
  | _ => none }
def planTellsRow : OpenClaim := { program := "ytdcdnnbijjcfmaa", sum := "9c9be32ef2491df68d0de3662fe63845ef2fcbfb2a75332bebebd2189c44f745", func := "mandoline/mandolinelaw35.PlanTells", spec := "planTells", unfollowed := true, recurses := true, apart := false }
def PlanTellsSaid : Prop := planTellsRow.holds Try.pinned (OpenSpec.ofChange planTellsSpec)

/-- ITS FALSE NEIGHBOUR: 'it returns false'. Refute it at one input. -/
def planTellsWrong : ChangeSpec := { name := "planTells", fn := fun _ => fun
  | [d] => { results := [.lit (.bool false)], args := [d] }
  | _ => none }
def PlanTellsWrongFalsely : Prop := planTellsRow.holds Try.pinned (OpenSpec.ofChange planTellsWrong)

/-- 'mandolinelaw35.PlanFewest': WHATEVER THE INPUT: true; the input reads as it did. -/
def planFewestSpec : ChangeSpec := { name := "planFewest", fn := fun _ => fun
  | [d] => { results := [.lit (.bool true)], args := [d] }
  | _ => none }
def planFewestRow : OpenClaim := { program := "ytdcdnnbijjcfmaa", sum := "9c9be32ef2491df68d0de3662fe63845ef2fcbfb2a75332bebebd2189c44f745", func := "mandoline/mandolinelaw35.PlanFewest", spec := "planFewest", unfollowed := true, recurses := true, apart := false }
def PlanFewestSaid : Prop := planFewestRow.holds Try.pinned (OpenSpec.ofChange planFewestSpec)

/-- ITS FALSE NEIGHBOUR: 'it returns false'. Refute it at one input. -/
def planFewestWrong : ChangeSpec := { name := "planFewest", fn := fun _ => fun
  | [d] => { results := [.lit (.bool false)], args := [d] }
  | _ => none }
def PlanFewestWrongFalsely : Prop := planFewestRow.holds Try.pinned (OpenSpec.ofChange planFewestWrong)

/-- 'mandolinelaw35.PlanLimits': WHATEVER THE INPUT: true; the input reads as it did. -/
def planLimitsSpec : ChangeSpec := { name := "planLimits", fn := fun _ => fun
  | [d1, d2, d3] => { results := [.lit (.bool true)], args := [d1, d2, d3] }
  | _ => none }
def planLimitsRow : OpenClaim := { program := "ytdcdnnbijjcfmaa", sum := "9c9be32ef2491df68d0de3662fe63845ef2fcbfb2a75332bebebd2189c44f745", func := "mandoline/mandolinelaw35.PlanLimits", spec := "planLimits", unfollowed := true, recurses := true, apart := false }
def PlanLimitsSaid : Prop := planLimitsRow.holds Try.pinned (OpenSpec.ofChange planLimitsSpec)

/-- ITS FALSE NEIGHBOUR: 'it returns false'. Refute it at one input. -/
def planLimitsWrong : ChangeSpec := { name := "planLimits", fn := fun _ => fun
  | [d1, d2, d3] => { results := [.lit (.bool false)], args := [d1, d2, d3] }
  | _ => none }
def PlanLimitsWrongFalsely : Prop := planLimitsRow.holds Try.pinned (OpenSpec.ofChange planLimitsWrong)

/-- 'mandolinelaw35.PlanWidens': WHATEVER THE INPUT: true; the input reads as it did. -/
def planWidensSpec : ChangeSpec := { name := "planWidens", fn := fun _ => fun
  | [d1, d2, d3] => { results := [.lit (.bool true)], args := [d1, d2, d3] }
  | _ => none }
def planWidensRow : OpenClaim := { program := "ytdcdnnbijjcfmaa", sum := "9c9be32ef2491df68d0de3662fe63845ef2fcbfb2a75332bebebd2189c44f745", func := "mandoline/mandolinelaw35.PlanWidens", spec := "planWidens", unfollowed := true, recurses := true, apart := false }
def PlanWidensSaid : Prop := planWidensRow.holds Try.pinned (OpenSpec.ofChange planWidensSpec)

/-- ITS FALSE NEIGHBOUR: 'it returns false'. Refute it at one input. -/
def planWidensWrong : ChangeSpec := { name := "planWidens", fn := fun _ => fun
  | [d1, d2, d3] => { results := [.lit (.bool false)], args := [d1, d2, d3] }
  | _ => none }
def PlanWidensWrongFalsely : Prop := planWidensRow.holds Try.pinned (OpenSpec.ofChange planWidensWrong)

/-- 'mandolinelaw35.PlanOnce': WHATEVER THE INPUT: true; the input reads as it did. -/
def planOnceSpec : ChangeSpec := { name := "planOnce", fn := fun _ => fun
  | [d] => { results := [.lit (.bool true)], args := [d] }
  | _ => none }
def planOnceRow : OpenClaim := { program := "ytdcdnnbijjcfmaa", sum := "9c9be32ef2491df68d0de3662fe63845ef2fcbfb2a75332bebebd2189c44f745", func := "mandoline/mandolinelaw35.PlanOnce", spec := "planOnce", unfollowed := true, recurses := true, apart := false }
def PlanOnceSaid : Prop := planOnceRow.holds Try.pinned (OpenSpec.ofChange planOnceSpec)

/-- ITS FALSE NEIGHBOUR: 'it returns false'. Refute it at one input. -/
def planOnceWrong : ChangeSpec := { name := "planOnce", fn := fun _ => fun
  | [d] => { results := [.lit (.bool false)], args := [d] }
  | _ => none }
def PlanOnceWrongFalsely : Prop := planOnceRow.holds Try.pinned (OpenSpec.ofChange planOnceWrong)

/-- 'mandolinelaw35.PlanErrors': WHATEVER THE INPUT: true; the input reads as it did. -/
def planErrorsSpec : ChangeSpec := { name := "planErrors", fn := fun _ => fun
  | [d1, d2, d3] => { results := [.lit (.bool true)], args := [d1, d2, d3] }
  | _ => none }
def planErrorsRow : OpenClaim := { program := "ytdcdnnbijjcfmaa", sum := "9c9be32ef2491df68d0de3662fe63845ef2fcbfb2a75332bebebd2189c44f745", func := "mandoline/mandolinelaw35.PlanErrors", spec := "planErrors", unfollowed := true, recurses := true, apart := false }
def PlanErrorsSaid : Prop := planErrorsRow.holds Try.pinned (OpenSpec.ofChange planErrorsSpec)

/-- ITS FALSE NEIGHBOUR: 'it returns false'. Refute it at one input. -/
def planErrorsWrong : ChangeSpec := { name := "planErrors", fn := fun _ => fun
  | [d1, d2, d3] => { results := [.lit (.bool false)], args := [d1, d2, d3] }
  | _ => none }
def PlanErrorsWrongFalsely : Prop := planErrorsRow.holds Try.pinned (OpenSpec.ofChange planErrorsWrong)

/-- 'mandolinelaw35.PlanRight': WHATEVER THE INPUT: true; the input reads as it did. -/
def planRightSpec : ChangeSpec := { name := "planRight", fn := fun _ => fun
  | [d1, d2] => { results := [.lit (.bool true)], args := [d1, d2] }
  | _ => none }
def planRightRow : OpenClaim := { program := "ytdcdnnbijjcfmaa", sum := "9c9be32ef2491df68d0de3662fe63845ef2fcbfb2a75332bebebd2189c44f745", func := "mandoline/mandolinelaw35.PlanRight", spec := "planRight", unfollowed := true, recurses := true, apart := false }
def PlanRightSaid : Prop := planRightRow.holds Try.pinned (OpenSpec.ofChange planRightSpec)

/-- ITS FALSE NEIGHBOUR: 'it returns false'. Refute it at one input. -/
def planRightWrong : ChangeSpec := { name := "planRight", fn := fun _ => fun
  | [d1, d2] => { results := [.lit (.bool false)], args := [d1, d2] }
  | _ => none }
def PlanRightWrongFalsely : Prop := planRightRow.holds Try.pinned (OpenSpec.ofChange planRightWrong)

/- THE SECOND FORM. 'bulk': how many values and letters a reading holds, each counted each time it is reached (what is shared counts as often as it is met; a slice's spare places count too). A statement '..UptoSaid' is the law's where the arguments, and the package variables that the reading takes, are together of bulk at most 1048576: NARROWER than '..Said'. Prove '..Said' where nothing that the law and all that it calls make is longer than what came in: it says more and counts as full. Else prove '..UptoSaid'. A law counts once. -/
mutual
def uptoBulk {H : Type} : DataW H → Nat
  | .lit (.string bytes) => bytes.length + 1
  | .lit _ => 1
  | .nil => 1
  | .ptr d => uptoBulk d + 1
  | .slice elems spare => uptoBulkAll elems + uptoBulkAll spare + 1
  | .agg parts => uptoBulkAll parts + 1
  | .iface _ d => uptoBulk d + 1
  | .map entries => uptoBulkEntries entries + 1
  | .held _ => 1
def uptoBulkAll {H : Type} : List (DataW H) → Nat
  | [] => 0
  | d :: r => uptoBulk d + uptoBulkAll r
def uptoBulkEntries {H : Type} : List (Lit × DataW H) → Nat
  | [] => 0
  | x :: r => uptoBulkEntry x + uptoBulkEntries r
def uptoBulkEntry {H : Type} : Lit × DataW H → Nat
  | (.string bytes, d) => bytes.length + uptoBulk d + 1
  | (_, d) => uptoBulk d + 1
 end
def uptoSmall : (H : Type) → List (DataW H) → Bool := fun _ ds => decide (uptoBulkAll ds ≤ 1048576)
def OpenSpec.upto (s : _root_.Go.ChangeSpec) : _root_.Go.OpenSpec := { _root_.Go.OpenSpec.ofChange s with cond := some uptoSmall }

/-- 'mandolinelaw35.PlanTells', WHERE WHAT IT READS IS OF BULK AT MOST 1048576: true; the input reads as it did. -/
def planTellsUptoRow : OpenClaim := { program := "ytdcdnnbijjcfmaa", sum := "9c9be32ef2491df68d0de3662fe63845ef2fcbfb2a75332bebebd2189c44f745", func := "mandoline/mandolinelaw35.PlanTells", spec := "planTells", unfollowed := true, recurses := true, apart := false, narrowed := true }
def PlanTellsUptoSaid : Prop := planTellsUptoRow.holds Try.pinned (OpenSpec.upto planTellsSpec)

/-- 'mandolinelaw35.PlanFewest', WHERE WHAT IT READS IS OF BULK AT MOST 1048576: true; the input reads as it did. -/
def planFewestUptoRow : OpenClaim := { program := "ytdcdnnbijjcfmaa", sum := "9c9be32ef2491df68d0de3662fe63845ef2fcbfb2a75332bebebd2189c44f745", func := "mandoline/mandolinelaw35.PlanFewest", spec := "planFewest", unfollowed := true, recurses := true, apart := false, narrowed := true }
def PlanFewestUptoSaid : Prop := planFewestUptoRow.holds Try.pinned (OpenSpec.upto planFewestSpec)

/-- 'mandolinelaw35.PlanLimits', WHERE WHAT IT READS IS OF BULK AT MOST 1048576: true; the input reads as it did. -/
def planLimitsUptoRow : OpenClaim := { program := "ytdcdnnbijjcfmaa", sum := "9c9be32ef2491df68d0de3662fe63845ef2fcbfb2a75332bebebd2189c44f745", func := "mandoline/mandolinelaw35.PlanLimits", spec := "planLimits", unfollowed := true, recurses := true, apart := false, narrowed := true }
def PlanLimitsUptoSaid : Prop := planLimitsUptoRow.holds Try.pinned (OpenSpec.upto planLimitsSpec)

/-- 'mandolinelaw35.PlanWidens', WHERE WHAT IT READS IS OF BULK AT MOST 1048576: true; the input reads as it did. -/
def planWidensUptoRow : OpenClaim := { program := "ytdcdnnbijjcfmaa", sum := "9c9be32ef2491df68d0de3662fe63845ef2fcbfb2a75332bebebd2189c44f745", func := "mandoline/mandolinelaw35.PlanWidens", spec := "planWidens", unfollowed := true, recurses := true, apart := false, narrowed := true }
def PlanWidensUptoSaid : Prop := planWidensUptoRow.holds Try.pinned (OpenSpec.upto planWidensSpec)

/-- 'mandolinelaw35.PlanOnce', WHERE WHAT IT READS IS OF BULK AT MOST 1048576: true; the input reads as it did. -/
def planOnceUptoRow : OpenClaim := { program := "ytdcdnnbijjcfmaa", sum := "9c9be32ef2491df68d0de3662fe63845ef2fcbfb2a75332bebebd2189c44f745", func := "mandoline/mandolinelaw35.PlanOnce", spec := "planOnce", unfollowed := true, recurses := true, apart := false, narrowed := true }
def PlanOnceUptoSaid : Prop := planOnceUptoRow.holds Try.pinned (OpenSpec.upto planOnceSpec)

/-- 'mandolinelaw35.PlanErrors', WHERE WHAT IT READS IS OF BULK AT MOST 1048576: true; the input reads as it did. -/
def planErrorsUptoRow : OpenClaim := { program := "ytdcdnnbijjcfmaa", sum := "9c9be32ef2491df68d0de3662fe63845ef2fcbfb2a75332bebebd2189c44f745", func := "mandoline/mandolinelaw35.PlanErrors", spec := "planErrors", unfollowed := true, recurses := true, apart := false, narrowed := true }
def PlanErrorsUptoSaid : Prop := planErrorsUptoRow.holds Try.pinned (OpenSpec.upto planErrorsSpec)

/-- 'mandolinelaw35.PlanRight', WHERE WHAT IT READS IS OF BULK AT MOST 1048576: true; the input reads as it did. -/
def planRightUptoRow : OpenClaim := { program := "ytdcdnnbijjcfmaa", sum := "9c9be32ef2491df68d0de3662fe63845ef2fcbfb2a75332bebebd2189c44f745", func := "mandoline/mandolinelaw35.PlanRight", spec := "planRight", unfollowed := true, recurses := true, apart := false, narrowed := true }
def PlanRightUptoSaid : Prop := planRightUptoRow.holds Try.pinned (OpenSpec.upto planRightSpec)

end Rows
end Go.Proofs.Ytdcdnnbijjcfmaa
