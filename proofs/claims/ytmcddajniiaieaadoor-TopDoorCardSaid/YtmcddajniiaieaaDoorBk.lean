/- The book in memory: what two tenants have. -/
import Derived.Test.YtmcddajniiaieaaDoorSeg
import Derived.Test.YtmcddajniiaieaaDoorProg
namespace Go.Proofs.YtmcddajniiaieaaDoor
open Go.RowKit

/-- A tenant's name. -/
def nmB (t : Bool) : ByteArray := if t then ⟨#[97]⟩ else ⟨#[98]⟩
def nmL (t : Bool) : Lit := if t then .string [97] else .string [98]
theorem nmL_ne {t u : Bool} (h : t ≠ u) : nmL t ≠ nmL u := by cases t <;> cases u <;> simp_all [nmL]
/-- What the book's map has for so many bytes. -/
def optI (n : Int) : Option Value := if n = 0 then none else some (.int .i64 n)
structure Bk where
  m : Option Nat
  p : Bool → Int
def Bk.cells (S : Int) (b : Bk) : Array Value := #[.int .i64 (2 * S), .int .i64 S, .int .i64 (b.p true + b.p false), .map b.m]
structure BkAt (w : World) (B bb c : Nat) (S : Int) (b : Bk) : Prop where
  blk : w.heap[bb]? = some (.cells (b.cells S) 91 (0, 0))
  bb : B ≤ bb
  ok : ∀ t, 0 ≤ b.p t ∧ b.p t ≤ S
  map : (b.m = none ∧ ∀ t, b.p t = 0) ∨ ∃ m f, b.m = some m ∧ B ≤ m ∧ MapV Tryd.prog 9 w m c f ∧ ∀ t, f (nmL t) = optI (b.p t)
section
variable {w w' : World} {B bb c : Nat} {S : Int} {b : Bk}
theorem BkAt.keep (h : BkAt w B bb c S b) (e : ∀ k o, w.heap[k]? = some o → (∀ cs t fr, o = .cells cs t fr → t = 91) → (∀ es cl, o = .map es cl → b.m = some k) → B ≤ k → w'.heap[k]? = some o) : BkAt w' B bb c S b := by
  refine ⟨e _ _ h.blk (fun cs t fr h => by cases h; rfl) (fun _ _ h => by cases h) h.bb, h.bb, h.ok, ?_⟩
  rcases h.map with hm | ⟨m, f, hm, hB, hl, hf⟩
  · exact .inl hm
  · exact .inr ⟨m, f, hm, hB, hl.same fun es cl ho => e m _ ho (fun _ _ _ h => by cases h) (fun _ _ _ => hm) hB, hf⟩
theorem BkAt.ext (h : BkAt w B bb c S b) (hx : Ext w w') : BkAt w' B bb c S b := h.keep fun _ _ ho _ _ _ => hx.block ho
theorem BkAt.kp_ {B' : Nat} {T : List TypeId} {M : List Nat} (h : BkAt w B bb c S b) (hk : Kp B' T M w w') (h1 : 91 ∉ T) (hm : ∀ m, b.m = some m → m ∉ M) : BkAt w' B bb c S b :=
  h.keep fun k o ho hc hmm _ => by
    cases o with
    | cells cs t fr =>
      obtain rfl := hc cs t fr rfl
      exact hk.cells ho h1
    | map es cl => exact hk.maps ho (hm k (hmm es cl rfl))
    | _ => exact (hk.block k (Array.getElem?_eq_some_iff.1 ho).1 (.inr fun hm' => by rcases hm' with ⟨_, _, _, h1, _⟩ | ⟨_, _, h1, _⟩ <;> rw [ho] at h1 <;> cases h1)).trans ho
theorem BkAt.mono (h : BkAt w B bb c S b) {d : Nat} (hd : c ≤ d) : BkAt w B bb d S b := ⟨h.blk, h.bb, h.ok, by
  rcases h.map with hm | ⟨m, f, hm, hB, hl, hf⟩
  · exact .inl hm
  · exact .inr ⟨m, f, hm, hB, hl.mono hd, hf⟩⟩
end
end Go.Proofs.YtmcddajniiaieaaDoor
