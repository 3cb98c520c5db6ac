/- What the three radix maps of this seat map numbers to. -/
import Derived.Test.YtgcplndmhlideaaGreatBase
namespace Go.Proofs.YtgcplndmhlideaaGreat

/-- What is known of a slice: its bytes, and its count. -/
structure It where
  b : Int
  c : Int
  deriving DecidableEq
/-- A slice's name: its version, and its number. -/
structure Nm where
  v : Int
  n : Int
  deriving DecidableEq
/-- A map, as a struct holds it. -/
abbrev Mp := Option Addr
end Go.Proofs.YtgcplndmhlideaaGreat
