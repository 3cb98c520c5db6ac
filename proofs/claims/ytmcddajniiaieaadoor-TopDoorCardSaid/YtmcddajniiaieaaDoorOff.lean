/- The law's argument in memory. -/
import Derived.Test.YtmcddajniiaieaaDoorAlv
namespace Go.Proofs.YtmcddajniiaieaaDoor
open Go.RowKit

/-- One offer, as the law's argument holds it. -/
structure Off where
  key : Int
  bytes : Int
  ten : Bool
  asked : Int
  hA : Option Addr
  hc : Nat
  held : List Int
def Off.ok (w : World) (x : Off) : Prop := (0 ≤ x.key ∧ x.key ≤ 255) ∧ (0 ≤ x.bytes ∧ x.bytes ≤ 255) ∧ (0 ≤ x.asked ∧ x.asked ≤ 255) ∧ IAt w x.hA x.held ∧ (∀ y ∈ x.held, I64 y) ∧ x.held.length ≤ maxLen
def Off.cells (x : Off) : List Value := [.int .u8 x.key, .int .u8 x.bytes, .bool x.ten, .int .u8 x.asked, .slice x.hA x.held.length x.hc]
def OAt (w : World) (A : Option Addr) (L : List Off) : Prop := ∀ k (hk : k < L.length), ∃ b o, A = some ⟨b, o, none⟩ ∧ w.cell? ⟨b, o + k * 5, none⟩ = some (.int .u8 L[k].key) ∧ w.cell? ⟨b, o + k * 5 + 1, none⟩ = some (.int .u8 L[k].bytes) ∧ w.cell? ⟨b, o + k * 5 + 2, none⟩ = some (.bool L[k].ten) ∧ w.cell? ⟨b, o + k * 5 + 3, none⟩ = some (.int .u8 L[k].asked) ∧ w.cell? ⟨b, o + k * 5 + 4, none⟩ = some (.slice L[k].hA L[k].held.length L[k].hc) ∧ L[k].ok w
theorem Off.ok.ext {w w' : World} {x : Off} (h : x.ok w) (hx : Ext w w') : x.ok w' := ⟨h.1, h.2.1, h.2.2.1, h.2.2.2.1.ext hx, h.2.2.2.2.1, h.2.2.2.2.2⟩
theorem OAt.ext {w w' : World} {A : Option Addr} {L : List Off} (h : OAt w A L) (hx : Ext w w') : OAt w' A L := fun k hk => by
  obtain ⟨b, o, e, p0, p1, p2, p3, p4, hok⟩ := h k hk
  exact ⟨b, o, e, hx.cell p0, hx.cell p1, hx.cell p2, hx.cell p3, hx.cell p4, hok.ext hx⟩
end Go.Proofs.YtmcddajniiaieaaDoor
