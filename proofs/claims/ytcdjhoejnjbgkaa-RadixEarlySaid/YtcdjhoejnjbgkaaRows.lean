/-
  No cell of these rows narrows 'for every input' (looked for: loops, veiled, ifaces, maps, wideKeys, modest, calm, conditions, laid).
  DERIVED. THE GIVEN ROWS OF THIS SEAT. 7 by the template 'for every input the law returns true; each argument reads behind the call as it read before'; 0 by the template 'total and deterministic' (their statements: YtcdjhoejnjbgkaaTotals.lean).
  GIVEN WITH THE SEED: the statements are not yours to turn. If you find one false, say at which input.
  Laid BY PROGRAM, IN A SANDBOX (cutbox-rows.mjs): the forced cells as the released guide's own fill.sh prints them over the translation 12dee75f0ed2285b… (all of the seat's roots in one cut). By AI agents, Wed Nov 11 2026. No macro, syntax, notation, axiom, sorry.
-/
import Derived.Test.YtcdjhoejnjbgkaaChecked
import GoSem.Claim
import GoSem.ClaimJoined
import GoSem.ClaimMapViews
import Derived.JoinedTies
import Derived.KernelRfl
namespace Go.Proofs.Ytcdjhoejnjbgkaa
/- THE CELL 'sum', in the pinned program and in every row, IS THE sha256 OF THE DUMP (.gsa) THAT YtcdjhoejnjbgkaaProg.lean LOADS. Nothing in Lean hashes anything: it is a label: what it is worth is what the hold of that sum in a sandbox is worth. -/
noncomputable def Try.pinned : Pinned := { name := "ytcdjhoejnjbgkaa", sum := "12dee75f0ed2285bfd256043bdf67b1a5ee203614fa08bc2694bad30efb04132", checked := Try.checked }
namespace Rows
def none {H : Type} : Left H := { results := [], args := [] }

/-- 'mandolinelaw25.RadixPlays': WHATEVER THE INPUT: true; the input reads as it did. -/
def radixPlaysSpec : ChangeSpec := { name := "radixPlays", fn := fun _ => fun
  | [d1, d2] => { results := [.lit (.bool true)], args := [d1, d2] }
  | _ => none }
def radixPlaysRow : OpenClaim := { program := "ytcdjhoejnjbgkaa", sum := "12dee75f0ed2285bfd256043bdf67b1a5ee203614fa08bc2694bad30efb04132", func := "mandoline/mandolinelaw25.RadixPlays", spec := "radixPlays", unfollowed := true, recurses := true, apart := false }
def RadixPlaysSaid : Prop := radixPlaysRow.holds Try.pinned (OpenSpec.ofChange radixPlaysSpec)

/-- ITS FALSE NEIGHBOUR: 'it returns false'. Refute it at one input. -/
def radixPlaysWrong : ChangeSpec := { name := "radixPlays", fn := fun _ => fun
  | [d1, d2] => { results := [.lit (.bool false)], args := [d1, d2] }
  | _ => none }
def RadixPlaysWrongFalsely : Prop := radixPlaysRow.holds Try.pinned (OpenSpec.ofChange radixPlaysWrong)

/-- 'mandolinelaw25.RadixOrder': WHATEVER THE INPUT: true; the input reads as it did. -/
def radixOrderSpec : ChangeSpec := { name := "radixOrder", fn := fun _ => fun
  | [d1, d2] => { results := [.lit (.bool true)], args := [d1, d2] }
  | _ => none }
def radixOrderRow : OpenClaim := { program := "ytcdjhoejnjbgkaa", sum := "12dee75f0ed2285bfd256043bdf67b1a5ee203614fa08bc2694bad30efb04132", func := "mandoline/mandolinelaw25.RadixOrder", spec := "radixOrder", unfollowed := true, recurses := true, apart := false }
def RadixOrderSaid : Prop := radixOrderRow.holds Try.pinned (OpenSpec.ofChange radixOrderSpec)

/-- ITS FALSE NEIGHBOUR: 'it returns false'. Refute it at one input. -/
def radixOrderWrong : ChangeSpec := { name := "radixOrder", fn := fun _ => fun
  | [d1, d2] => { results := [.lit (.bool false)], args := [d1, d2] }
  | _ => none }
def RadixOrderWrongFalsely : Prop := radixOrderRow.holds Try.pinned (OpenSpec.ofChange radixOrderWrong)

/-- 'mandolinelaw25.RadixNext': WHATEVER THE INPUT: true; the input reads as it did. -/
def radixNextSpec : ChangeSpec := { name := "radixNext", fn := fun _ => fun
  | [d1, d2] => { results := [.lit (.bool true)], args := [d1, d2] }
  | _ => none }
def radixNextRow : OpenClaim := { program := "ytcdjhoejnjbgkaa", sum := "12dee75f0ed2285bfd256043bdf67b1a5ee203614fa08bc2694bad30efb04132", func := "mandoline/mandolinelaw25.RadixNext", spec := "radixNext", unfollowed := true, recurses := true, apart := false }
def RadixNextSaid : Prop := radixNextRow.holds Try.pinned (OpenSpec.ofChange radixNextSpec)

/-- ITS FALSE NEIGHBOUR: 'it returns false'. Refute it at one input. -/
def radixNextWrong : ChangeSpec := { name := "radixNext", fn := fun _ => fun
  | [d1, d2] => { results := [.lit (.bool false)], args := [d1, d2] }
  | _ => none }
def RadixNextWrongFalsely : Prop := radixNextRow.holds Try.pinned (OpenSpec.ofChange radixNextWrong)

/-- 'mandolinelaw25.RadixStays': WHATEVER THE INPUT: true; the input reads as it did. -/
def radixStaysSpec : ChangeSpec := { name := "radixStays", fn := fun _ => fun
  | [d1, d2, d3] => { results := [.lit (.bool true)], args := [d1, d2, d3] }
  | _ => none }
def radixStaysRow : OpenClaim := { program := "ytcdjhoejnjbgkaa", sum := "12dee75f0ed2285bfd256043bdf67b1a5ee203614fa08bc2694bad30efb04132", func := "mandoline/mandolinelaw25.RadixStays", spec := "radixStays", unfollowed := true, recurses := true, apart := false }
def RadixStaysSaid : Prop := radixStaysRow.holds Try.pinned (OpenSpec.ofChange radixStaysSpec)

/-- ITS FALSE NEIGHBOUR: 'it returns false'. Refute it at one input. -/
def radixStaysWrong : ChangeSpec := { name := "radixStays", fn := fun _ => fun
  | [d1, d2, d3] => { results := [.lit (.bool false)], args := [d1, d2, d3] }
  | _ => none }
def RadixStaysWrongFalsely : Prop := radixStaysRow.holds Try.pinned (OpenSpec.ofChange radixStaysWrong)

/-- 'mandolinelaw25.RadixDepth': WHATEVER THE INPUT: true; the input reads as it did. -/
def radixDepthSpec : ChangeSpec := { name := "radixDepth", fn := fun _ => fun
  | [d] => { results := [.lit (.bool true)], args := [d] }
  | _ => none }
def radixDepthRow : OpenClaim := { program := "ytcdjhoejnjbgkaa", sum := "12dee75f0ed2285bfd256043bdf67b1a5ee203614fa08bc2694bad30efb04132", func := "mandoline/mandolinelaw25.RadixDepth", spec := "radixDepth", unfollowed := true, recurses := true, apart := false }
def RadixDepthSaid : Prop := radixDepthRow.holds Try.pinned (OpenSpec.ofChange radixDepthSpec)

/-- ITS FALSE NEIGHBOUR: 'it returns false'. Refute it at one input. -/
def radixDepthWrong : ChangeSpec := { name := "radixDepth", fn := fun _ => fun
  | [d] => { results := [.lit (.bool false)], args := [d] }
  | _ => none }
def RadixDepthWrongFalsely : Prop := radixDepthRow.holds Try.pinned (OpenSpec.ofChange radixDepthWrong)

/-- 'mandolinelaw25.RadixSame': WHATEVER THE INPUT: true; the input reads as it did. -/
def radixSameSpec : ChangeSpec := { name := "radixSame", fn := fun _ => fun
  | [d1, d2] => { results := [.lit (.bool true)], args := [d1, d2] }
  | _ => none }
def radixSameRow : OpenClaim := { program := "ytcdjhoejnjbgkaa", sum := "12dee75f0ed2285bfd256043bdf67b1a5ee203614fa08bc2694bad30efb04132", func := "mandoline/mandolinelaw25.RadixSame", spec := "radixSame", unfollowed := true, recurses := true, apart := false }
def RadixSameSaid : Prop := radixSameRow.holds Try.pinned (OpenSpec.ofChange radixSameSpec)

/-- ITS FALSE NEIGHBOUR: 'it returns false'. Refute it at one input. -/
def radixSameWrong : ChangeSpec := { name := "radixSame", fn := fun _ => fun
  | [d1, d2] => { results := [.lit (.bool false)], args := [d1, d2] }
  | _ => none }
def RadixSameWrongFalsely : Prop := radixSameRow.holds Try.pinned (OpenSpec.ofChange radixSameWrong)

/-- 'mandolinelaw25.RadixEarly': WHATEVER THE INPUT: true; the input reads as it did. -/
def radixEarlySpec : ChangeSpec := { name := "radixEarly", fn := fun _ => fun
  | [d1, d2] => { results := [.lit (.bool true)], args := [d1, d2] }
  | _ => none }
def radixEarlyRow : OpenClaim := { program := "ytcdjhoejnjbgkaa", sum := "12dee75f0ed2285bfd256043bdf67b1a5ee203614fa08bc2694bad30efb04132", func := "mandoline/mandolinelaw25.RadixEarly", spec := "radixEarly", unfollowed := true, recurses := true, apart := false }
def RadixEarlySaid : Prop := radixEarlyRow.holds Try.pinned (OpenSpec.ofChange radixEarlySpec)

/-- ITS FALSE NEIGHBOUR: 'it returns false'. Refute it at one input. -/
def radixEarlyWrong : ChangeSpec := { name := "radixEarly", fn := fun _ => fun
  | [d1, d2] => { results := [.lit (.bool false)], args := [d1, d2] }
  | _ => none }
def RadixEarlyWrongFalsely : Prop := radixEarlyRow.holds Try.pinned (OpenSpec.ofChange radixEarlyWrong)

/- THE SECOND FORM. 'bulk': how many values and letters a reading holds, each counted each time it is reached (what is shared counts as often as it is met; a slice's spare places count too). A statement '..UptoSaid' is the law's where the arguments, and the package variables that the reading takes, are together of bulk at most 1048576: NARROWER than '..Said'. Prove '..Said' where nothing that the law and all that it calls make is longer than what came in: it says more and counts as full. Else prove '..UptoSaid'. A law counts once. -/
mutual
def uptoBulk {H : Type} : DataW H → Nat
  | .lit (.string bytes) => bytes.length + 1
  | .lit _ => 1
  | .nil => 1
  | .ptr d => uptoBulk d + 1
  | .slice elems spare => uptoBulkAll elems + uptoBulkAll spare + 1
  | .agg parts => uptoBulkAll parts + 1
  | .iface _ d => uptoBulk d + 1
  | .map entries => uptoBulkEntries entries + 1
  | .held _ => 1
def uptoBulkAll {H : Type} : List (DataW H) → Nat
  | [] => 0
  | d :: r => uptoBulk d + uptoBulkAll r
def uptoBulkEntries {H : Type} : List (Lit × DataW H) → Nat
  | [] => 0
  | x :: r => uptoBulkEntry x + uptoBulkEntries r
def uptoBulkEntry {H : Type} : Lit × DataW H → Nat
  | (.string bytes, d) => bytes.length + uptoBulk d + 1
  | (_, d) => uptoBulk d + 1
 end
def uptoSmall : (H : Type) → List (DataW H) → Bool := fun _ ds => decide (uptoBulkAll ds ≤ 1048576)
def OpenSpec.upto (s : _root_.Go.ChangeSpec) : _root_.Go.OpenSpec := { _root_.Go.OpenSpec.ofChange s with cond := some uptoSmall }

/-- 'mandolinelaw25.RadixPlays', WHERE WHAT IT READS IS OF BULK AT MOST 1048576: true; the input reads as it did. -/
def radixPlaysUptoRow : OpenClaim := { program := "ytcdjhoejnjbgkaa", sum := "12dee75f0ed2285bfd256043bdf67b1a5ee203614fa08bc2694bad30efb04132", func := "mandoline/mandolinelaw25.RadixPlays", spec := "radixPlays", unfollowed := true, recurses := true, apart := false, narrowed := true }
def RadixPlaysUptoSaid : Prop := radixPlaysUptoRow.holds Try.pinned (OpenSpec.upto radixPlaysSpec)

/-- 'mandolinelaw25.RadixOrder', WHERE WHAT IT READS IS OF BULK AT MOST 1048576: true; the input reads as it did. -/
def radixOrderUptoRow : OpenClaim := { program := "ytcdjhoejnjbgkaa", sum := "12dee75f0ed2285bfd256043bdf67b1a5ee203614fa08bc2694bad30efb04132", func := "mandoline/mandolinelaw25.RadixOrder", spec := "radixOrder", unfollowed := true, recurses := true, apart := false, narrowed := true }
def RadixOrderUptoSaid : Prop := radixOrderUptoRow.holds Try.pinned (OpenSpec.upto radixOrderSpec)

/-- 'mandolinelaw25.RadixNext', WHERE WHAT IT READS IS OF BULK AT MOST 1048576: true; the input reads as it did. -/
def radixNextUptoRow : OpenClaim := { program := "ytcdjhoejnjbgkaa", sum := "12dee75f0ed2285bfd256043bdf67b1a5ee203614fa08bc2694bad30efb04132", func := "mandoline/mandolinelaw25.RadixNext", spec := "radixNext", unfollowed := true, recurses := true, apart := false, narrowed := true }
def RadixNextUptoSaid : Prop := radixNextUptoRow.holds Try.pinned (OpenSpec.upto radixNextSpec)

/-- 'mandolinelaw25.RadixStays', WHERE WHAT IT READS IS OF BULK AT MOST 1048576: true; the input reads as it did. -/
def radixStaysUptoRow : OpenClaim := { program := "ytcdjhoejnjbgkaa", sum := "12dee75f0ed2285bfd256043bdf67b1a5ee203614fa08bc2694bad30efb04132", func := "mandoline/mandolinelaw25.RadixStays", spec := "radixStays", unfollowed := true, recurses := true, apart := false, narrowed := true }
def RadixStaysUptoSaid : Prop := radixStaysUptoRow.holds Try.pinned (OpenSpec.upto radixStaysSpec)

/-- 'mandolinelaw25.RadixDepth', WHERE WHAT IT READS IS OF BULK AT MOST 1048576: true; the input reads as it did. -/
def radixDepthUptoRow : OpenClaim := { program := "ytcdjhoejnjbgkaa", sum := "12dee75f0ed2285bfd256043bdf67b1a5ee203614fa08bc2694bad30efb04132", func := "mandoline/mandolinelaw25.RadixDepth", spec := "radixDepth", unfollowed := true, recurses := true, apart := false, narrowed := true }
def RadixDepthUptoSaid : Prop := radixDepthUptoRow.holds Try.pinned (OpenSpec.upto radixDepthSpec)

/-- 'mandolinelaw25.RadixSame', WHERE WHAT IT READS IS OF BULK AT MOST 1048576: true; the input reads as it did. -/
def radixSameUptoRow : OpenClaim := { program := "ytcdjhoejnjbgkaa", sum := "12dee75f0ed2285bfd256043bdf67b1a5ee203614fa08bc2694bad30efb04132", func := "mandoline/mandolinelaw25.RadixSame", spec := "radixSame", unfollowed := true, recurses := true, apart := false, narrowed := true }
def RadixSameUptoSaid : Prop := radixSameUptoRow.holds Try.pinned (OpenSpec.upto radixSameSpec)

/-- 'mandolinelaw25.RadixEarly', WHERE WHAT IT READS IS OF BULK AT MOST 1048576: true; the input reads as it did. -/
def radixEarlyUptoRow : OpenClaim := { program := "ytcdjhoejnjbgkaa", sum := "12dee75f0ed2285bfd256043bdf67b1a5ee203614fa08bc2694bad30efb04132", func := "mandoline/mandolinelaw25.RadixEarly", spec := "radixEarly", unfollowed := true, recurses := true, apart := false, narrowed := true }
def RadixEarlyUptoSaid : Prop := radixEarlyUptoRow.holds Try.pinned (OpenSpec.upto radixEarlySpec)

end Rows
end Go.Proofs.Ytcdjhoejnjbgkaa
