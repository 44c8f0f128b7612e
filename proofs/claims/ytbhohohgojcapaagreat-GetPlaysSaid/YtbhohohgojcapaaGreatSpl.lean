/- A node in two, as such; two copies made in any order. No condition. -/
import Derived.Test.YtbhohohgojcapaaGreatThen
import Derived.Test.YtbhohohgojcapaaGreatCopys
import Derived.Test.YtbhohohgojcapaaGreatShape
import Derived.Test.YtbhohohgojcapaaGreatInv
namespace Go.Proofs.YtbhohohgojcapaaGreat
open Go.RowKit

section
variable {w : World} {S : Nat → Prop} {A : Option Addr} {c k : Nat} {e : TypeId}
theorem OTx.cap {n : Nat} {l : List (List UInt8)} (h : OTx w S (.slice A n c) l) : n ≤ c := by
  obtain ⟨vs, h1, _⟩ := h
  obtain ⟨_, A', c', e, h, _⟩ := h1
  injection e with _ e1 e2
  omega
theorem OIn.cap {n : Nat} {l : List Int} (h : OIn w S (.slice A n c) l) : n ≤ c := by
  obtain ⟨_, A', c', e, h, _⟩ := h
  injection e with _ e1 e2
  omega
end

/-- How many there are to part; where not to part; the halves; the key between. -/
def spM (n : Nd) : Nat := if n.lvl = 0 then n.keys.length else n.kids.length
def spBad (n : Nd) : Prop := spM n < 2 ∨ (n.lvl = 0 ∧ n.vals.length < n.keys.length) ∨ (n.lvl ≠ 0 ∧ n.keys.length < n.kids.length - 1)
instance (n : Nd) : Decidable (spBad n) := by unfold spBad; exact inferInstance
def spH (n : Nd) : Nat := (spM n + 1) / 2
def spK (n : Nd) : List UInt8 := if spBad n then [] else if n.lvl = 0 then n.keys.getD (spH n) [] else n.keys.getD (spH n - 1) []
def spL (n : Nd) (right : Int) : Nd := if spBad n then n else if n.lvl = 0 then { n with high := spK n, right := right, keys := n.keys.take (spH n), vals := n.vals.take (spH n) } else { n with high := spK n, right := right, keys := n.keys.take (spH n - 1), kids := n.kids.take (spH n) }
def spR (n : Nd) : Nd := if spBad n then Nd.zero else if n.lvl = 0 then { n with keys := n.keys.drop (spH n), vals := n.vals.drop (spH n) } else { n with keys := n.keys.drop (spH n), kids := n.kids.drop (spH n) }

/-- Two copies of a node under way: which operations have been (L), the values that they left, the world. -/
structure SpR (w0 : World) (n : Nd) (N : Value) (L : Nat → Prop) (x12 x13 x14 x15 x7 x8 : Value) (w : World) : Prop where
  kept : Keeps Nob w0 w
  d31 : L 3 → L 1
  d6 : L 6 → L 4 ∧ L 1
  d7 : L 7 → L 5 ∧ L 3
  v12 : L 0 → x12 = N
  v14 : L 2 → x14 = N
  cl : L 1 → ∃ p d0 d1 d2 d3 d4 d5, x13 = .agg #[d0, d1, d2, d3, d4, d5] ∧ w0.heap.size ≤ p ∧ p ≤ w.heap.size ∧ ONd w (fun b => w0.heap.size ≤ b ∧ b < p) d0 d1 d2 d3 d4 d5 n ∧
    (L 3 → ∃ e0 e1 e2 e3 e4 e5, x15 = .agg #[e0, e1, e2, e3, e4, e5] ∧ ONd w (fun b => p ≤ b) e0 e1 e2 e3 e4 e5 n)
  bx : L 4 → ∃ X cs, x7 = .pointer (some ⟨X, 0, none⟩) ∧ w0.heap.size ≤ X ∧ Blk w X 35 cs ∧ cs.size = 6 ∧ (L 6 → x13 = .agg cs)
  bY : L 5 → ∃ Y cs, x8 = .pointer (some ⟨Y, 0, none⟩) ∧ w0.heap.size ≤ Y ∧ Blk w Y 35 cs ∧ cs.size = 6 ∧ (L 7 → x15 = .agg cs)
  ne : L 4 → L 5 → x7 ≠ x8
section
variable {w0 w w' : World} {n : Nd} {N x12 x13 x14 x15 x7 x8 : Value} {L : Nat → Prop}
theorem SpR.nob (h : SpR w0 n N L x12 x13 x14 x15 x7 x8 w) (k : Keeps Nob w w') : SpR w0 n N L x12 x13 x14 x15 x7 x8 w' where
  kept := h.kept.trans k (fun _ _ h => h)
  d31 := h.d31
  d6 := h.d6
  d7 := h.d7
  v12 := h.v12
  v14 := h.v14
  cl := fun x => by
    obtain ⟨p, d0, d1, d2, d3, d4, d5, h1, h2, h3, h4, h5⟩ := h.cl x
    refine ⟨p, d0, d1, d2, d3, d4, d5, h1, h2, Nat.le_trans h3 k.size, h4.keeps k (fun _ _ _ => id), fun y => ?_⟩
    obtain ⟨e0, e1, e2, e3, e4, e5, g1, g2⟩ := h5 y
    exact ⟨e0, e1, e2, e3, e4, e5, g1, g2.keeps k (fun _ _ _ => id)⟩
  bx := fun x => by
    obtain ⟨X, cs, h1, h2, h3, h4, h5⟩ := h.bx x
    exact ⟨X, cs, h1, h2, h3.keeps k id, h4, h5⟩
  bY := fun x => by
    obtain ⟨X, cs, h1, h2, h3, h4, h5⟩ := h.bY x
    exact ⟨X, cs, h1, h2, h3.keeps k id, h4, h5⟩
  ne := h.ne
end

end Go.Proofs.YtbhohohgojcapaaGreat
