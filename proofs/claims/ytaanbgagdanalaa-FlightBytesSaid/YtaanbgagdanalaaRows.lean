/-
  No cell of these rows narrows 'for every input' (looked for: loops, veiled, ifaces, maps, wideKeys, modest, calm, conditions, laid).
  DERIVED. THE GIVEN ROWS OF THIS SEAT. 6 by the template 'for every input the law returns true; each argument reads behind the call as it read before'; 0 by the template 'total and deterministic' (their statements: YtaanbgagdanalaaTotals.lean).
  GIVEN WITH THE SEED: the statements are not yours to turn. If you find one false, say at which input.
  Laid BY PROGRAM, IN A SANDBOX (cutbox-rows.mjs): the forced cells as the released guide's own fill.sh prints them over the translation 27dd5e0d16bad9a2… (all of the seat's roots in one cut). By AI agents, Wed Nov 11 2026. No macro, syntax, notation, axiom, sorry.
-/
import Derived.Test.YtaanbgagdanalaaChecked
import GoSem.Claim
import GoSem.ClaimJoined
import GoSem.ClaimMapViews
import Derived.JoinedTies
import Derived.KernelRfl
namespace Go.Proofs.Ytaanbgagdanalaa
/- THE CELL 'sum', in the pinned program and in every row, IS THE sha256 OF THE DUMP (.gsa) THAT YtaanbgagdanalaaProg.lean LOADS. Nothing in Lean hashes anything: it is a label: what it is worth is what the hold of that sum in a sandbox is worth. -/
noncomputable def Try.pinned : Pinned := { name := "ytaanbgagdanalaa", sum := "27dd5e0d16bad9a25520adb952cc0d35de695ca07981d4a61f46cc698be95831", checked := Try.checked }
namespace Rows
def none {H : Type} : Left H := { results := [], args := [] }

/-- 'mandolinelaw36.FlightOne': WHATEVER THE INPUT: true; the input reads as it did. -/
def flightOneSpec : ChangeSpec := { name := "flightOne", fn := fun _ => fun
  | [d1, d2] => { results := [.lit (.bool true)], args := [d1, d2] }
  | _ => none }
def flightOneRow : OpenClaim := { program := "ytaanbgagdanalaa", sum := "27dd5e0d16bad9a25520adb952cc0d35de695ca07981d4a61f46cc698be95831", func := "mandoline/mandolinelaw36.FlightOne", spec := "flightOne", unfollowed := true, recurses := true, apart := false }
def FlightOneSaid : Prop := flightOneRow.holds Try.pinned (OpenSpec.ofChange flightOneSpec)

/-- ITS FALSE NEIGHBOUR: 'it returns false'. Refute it at one input. -/
def flightOneWrong : ChangeSpec := { name := "flightOne", fn := fun _ => fun
  | [d1, d2] => { results := [.lit (.bool false)], args := [d1, d2] }
  | _ => none }
def FlightOneWrongFalsely : Prop := flightOneRow.holds Try.pinned (OpenSpec.ofChange flightOneWrong)

/-- 'mandolinelaw36.FlightNumbers': WHATEVER THE INPUT: true; the input reads as it did. -/
def flightNumbersSpec : ChangeSpec := { name := "flightNumbers", fn := fun _ => fun
  | [d] => { results := [.lit (.bool true)], args := [d] }
  | _ => none }
def flightNumbersRow : OpenClaim := { program := "ytaanbgagdanalaa", sum := "27dd5e0d16bad9a25520adb952cc0d35de695ca07981d4a61f46cc698be95831", func := "mandoline/mandolinelaw36.FlightNumbers", spec := "flightNumbers", unfollowed := true, recurses := true, apart := false }
def FlightNumbersSaid : Prop := flightNumbersRow.holds Try.pinned (OpenSpec.ofChange flightNumbersSpec)

/-- ITS FALSE NEIGHBOUR: 'it returns false'. Refute it at one input. -/
def flightNumbersWrong : ChangeSpec := { name := "flightNumbers", fn := fun _ => fun
  | [d] => { results := [.lit (.bool false)], args := [d] }
  | _ => none }
def FlightNumbersWrongFalsely : Prop := flightNumbersRow.holds Try.pinned (OpenSpec.ofChange flightNumbersWrong)

/-- 'mandolinelaw36.FlightLeaves': WHATEVER THE INPUT: true; the input reads as it did. -/
def flightLeavesSpec : ChangeSpec := { name := "flightLeaves", fn := fun _ => fun
  | [d1, d2] => { results := [.lit (.bool true)], args := [d1, d2] }
  | _ => none }
def flightLeavesRow : OpenClaim := { program := "ytaanbgagdanalaa", sum := "27dd5e0d16bad9a25520adb952cc0d35de695ca07981d4a61f46cc698be95831", func := "mandoline/mandolinelaw36.FlightLeaves", spec := "flightLeaves", unfollowed := true, recurses := true, apart := false }
def FlightLeavesSaid : Prop := flightLeavesRow.holds Try.pinned (OpenSpec.ofChange flightLeavesSpec)

/-- ITS FALSE NEIGHBOUR: 'it returns false'. Refute it at one input. -/
def flightLeavesWrong : ChangeSpec := { name := "flightLeaves", fn := fun _ => fun
  | [d1, d2] => { results := [.lit (.bool false)], args := [d1, d2] }
  | _ => none }
def FlightLeavesWrongFalsely : Prop := flightLeavesRow.holds Try.pinned (OpenSpec.ofChange flightLeavesWrong)

/-- 'mandolinelaw36.FlightPlays': WHATEVER THE INPUT: true; the input reads as it did. -/
def flightPlaysSpec : ChangeSpec := { name := "flightPlays", fn := fun _ => fun
  | [d] => { results := [.lit (.bool true)], args := [d] }
  | _ => none }
def flightPlaysRow : OpenClaim := { program := "ytaanbgagdanalaa", sum := "27dd5e0d16bad9a25520adb952cc0d35de695ca07981d4a61f46cc698be95831", func := "mandoline/mandolinelaw36.FlightPlays", spec := "flightPlays", unfollowed := true, recurses := true, apart := false }
def FlightPlaysSaid : Prop := flightPlaysRow.holds Try.pinned (OpenSpec.ofChange flightPlaysSpec)

/-- ITS FALSE NEIGHBOUR: 'it returns false'. Refute it at one input. -/
def flightPlaysWrong : ChangeSpec := { name := "flightPlays", fn := fun _ => fun
  | [d] => { results := [.lit (.bool false)], args := [d] }
  | _ => none }
def FlightPlaysWrongFalsely : Prop := flightPlaysRow.holds Try.pinned (OpenSpec.ofChange flightPlaysWrong)

/-- 'mandolinelaw36.FlightBytes': WHATEVER THE INPUT: true; the input reads as it did. -/
def flightBytesSpec : ChangeSpec := { name := "flightBytes", fn := fun _ => fun
  | [d] => { results := [.lit (.bool true)], args := [d] }
  | _ => none }
def flightBytesRow : OpenClaim := { program := "ytaanbgagdanalaa", sum := "27dd5e0d16bad9a25520adb952cc0d35de695ca07981d4a61f46cc698be95831", func := "mandoline/mandolinelaw36.FlightBytes", spec := "flightBytes", unfollowed := true, recurses := true, apart := false }
def FlightBytesSaid : Prop := flightBytesRow.holds Try.pinned (OpenSpec.ofChange flightBytesSpec)

/-- ITS FALSE NEIGHBOUR: 'it returns false'. Refute it at one input. -/
def flightBytesWrong : ChangeSpec := { name := "flightBytes", fn := fun _ => fun
  | [d] => { results := [.lit (.bool false)], args := [d] }
  | _ => none }
def FlightBytesWrongFalsely : Prop := flightBytesRow.holds Try.pinned (OpenSpec.ofChange flightBytesWrong)

/-- 'mandolinelaw36.FlightFlies': WHATEVER THE INPUT: true; the input reads as it did. -/
def flightFliesSpec : ChangeSpec := { name := "flightFlies", fn := fun _ => fun
  | [d1, d2, d3] => { results := [.lit (.bool true)], args := [d1, d2, d3] }
  | _ => none }
def flightFliesRow : OpenClaim := { program := "ytaanbgagdanalaa", sum := "27dd5e0d16bad9a25520adb952cc0d35de695ca07981d4a61f46cc698be95831", func := "mandoline/mandolinelaw36.FlightFlies", spec := "flightFlies", unfollowed := true, recurses := true, apart := false }
def FlightFliesSaid : Prop := flightFliesRow.holds Try.pinned (OpenSpec.ofChange flightFliesSpec)

/-- ITS FALSE NEIGHBOUR: 'it returns false'. Refute it at one input. -/
def flightFliesWrong : ChangeSpec := { name := "flightFlies", fn := fun _ => fun
  | [d1, d2, d3] => { results := [.lit (.bool false)], args := [d1, d2, d3] }
  | _ => none }
def FlightFliesWrongFalsely : Prop := flightFliesRow.holds Try.pinned (OpenSpec.ofChange flightFliesWrong)

/- THE SECOND FORM. 'bulk': how many values and letters a reading holds, each counted each time it is reached (what is shared counts as often as it is met; a slice's spare places count too). A statement '..UptoSaid' is the law's where the arguments, and the package variables that the reading takes, are together of bulk at most 1048576: NARROWER than '..Said'. Prove '..Said' where nothing that the law and all that it calls make is longer than what came in: it says more and counts as full. Else prove '..UptoSaid'. A law counts once. -/
mutual
def uptoBulk {H : Type} : DataW H → Nat
  | .lit (.string bytes) => bytes.length + 1
  | .lit _ => 1
  | .nil => 1
  | .ptr d => uptoBulk d + 1
  | .slice elems spare => uptoBulkAll elems + uptoBulkAll spare + 1
  | .agg parts => uptoBulkAll parts + 1
  | .iface _ d => uptoBulk d + 1
  | .map entries => uptoBulkEntries entries + 1
  | .held _ => 1
def uptoBulkAll {H : Type} : List (DataW H) → Nat
  | [] => 0
  | d :: r => uptoBulk d + uptoBulkAll r
def uptoBulkEntries {H : Type} : List (Lit × DataW H) → Nat
  | [] => 0
  | x :: r => uptoBulkEntry x + uptoBulkEntries r
def uptoBulkEntry {H : Type} : Lit × DataW H → Nat
  | (.string bytes, d) => bytes.length + uptoBulk d + 1
  | (_, d) => uptoBulk d + 1
 end
def uptoSmall : (H : Type) → List (DataW H) → Bool := fun _ ds => decide (uptoBulkAll ds ≤ 1048576)
def OpenSpec.upto (s : _root_.Go.ChangeSpec) : _root_.Go.OpenSpec := { _root_.Go.OpenSpec.ofChange s with cond := some uptoSmall }

/-- 'mandolinelaw36.FlightOne', WHERE WHAT IT READS IS OF BULK AT MOST 1048576: true; the input reads as it did. -/
def flightOneUptoRow : OpenClaim := { program := "ytaanbgagdanalaa", sum := "27dd5e0d16bad9a25520adb952cc0d35de695ca07981d4a61f46cc698be95831", func := "mandoline/mandolinelaw36.FlightOne", spec := "flightOne", unfollowed := true, recurses := true, apart := false, narrowed := true }
def FlightOneUptoSaid : Prop := flightOneUptoRow.holds Try.pinned (OpenSpec.upto flightOneSpec)

/-- 'mandolinelaw36.FlightNumbers', WHERE WHAT IT READS IS OF BULK AT MOST 1048576: true; the input reads as it did. -/
def flightNumbersUptoRow : OpenClaim := { program := "ytaanbgagdanalaa", sum := "27dd5e0d16bad9a25520adb952cc0d35de695ca07981d4a61f46cc698be95831", func := "mandoline/mandolinelaw36.FlightNumbers", spec := "flightNumbers", unfollowed := true, recurses := true, apart := false, narrowed := true }
def FlightNumbersUptoSaid : Prop := flightNumbersUptoRow.holds Try.pinned (OpenSpec.upto flightNumbersSpec)

/-- 'mandolinelaw36.FlightLeaves', WHERE WHAT IT READS IS OF BULK AT MOST 1048576: true; the input reads as it did. -/
def flightLeavesUptoRow : OpenClaim := { program := "ytaanbgagdanalaa", sum := "27dd5e0d16bad9a25520adb952cc0d35de695ca07981d4a61f46cc698be95831", func := "mandoline/mandolinelaw36.FlightLeaves", spec := "flightLeaves", unfollowed := true, recurses := true, apart := false, narrowed := true }
def FlightLeavesUptoSaid : Prop := flightLeavesUptoRow.holds Try.pinned (OpenSpec.upto flightLeavesSpec)

/-- 'mandolinelaw36.FlightPlays', WHERE WHAT IT READS IS OF BULK AT MOST 1048576: true; the input reads as it did. -/
def flightPlaysUptoRow : OpenClaim := { program := "ytaanbgagdanalaa", sum := "27dd5e0d16bad9a25520adb952cc0d35de695ca07981d4a61f46cc698be95831", func := "mandoline/mandolinelaw36.FlightPlays", spec := "flightPlays", unfollowed := true, recurses := true, apart := false, narrowed := true }
def FlightPlaysUptoSaid : Prop := flightPlaysUptoRow.holds Try.pinned (OpenSpec.upto flightPlaysSpec)

/-- 'mandolinelaw36.FlightBytes', WHERE WHAT IT READS IS OF BULK AT MOST 1048576: true; the input reads as it did. -/
def flightBytesUptoRow : OpenClaim := { program := "ytaanbgagdanalaa", sum := "27dd5e0d16bad9a25520adb952cc0d35de695ca07981d4a61f46cc698be95831", func := "mandoline/mandolinelaw36.FlightBytes", spec := "flightBytes", unfollowed := true, recurses := true, apart := false, narrowed := true }
def FlightBytesUptoSaid : Prop := flightBytesUptoRow.holds Try.pinned (OpenSpec.upto flightBytesSpec)

/-- 'mandolinelaw36.FlightFlies', WHERE WHAT IT READS IS OF BULK AT MOST 1048576: true; the input reads as it did. -/
def flightFliesUptoRow : OpenClaim := { program := "ytaanbgagdanalaa", sum := "27dd5e0d16bad9a25520adb952cc0d35de695ca07981d4a61f46cc698be95831", func := "mandoline/mandolinelaw36.FlightFlies", spec := "flightFlies", unfollowed := true, recurses := true, apart := false, narrowed := true }
def FlightFliesUptoSaid : Prop := flightFliesUptoRow.holds Try.pinned (OpenSpec.upto flightFliesSpec)

end Rows
end Go.Proofs.Ytaanbgagdanalaa
