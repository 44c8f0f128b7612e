import Derived.Test.YtbhohohgojcapaaGreatPkB5
import Derived.Test.YtbhohohgojcapaaGreatPkA8
import Derived.Test.YtbhohohgojcapaaGreatPkA0
import Derived.Test.YtbhohohgojcapaaGreatPkA3
namespace Go.Proofs.YtbhohohgojcapaaGreat
open Go.RowKit
section
variable {S T M : Nat -> Prop} {w w' : World} {v u : Value} {n g i : Nat} {cs : Array Value} {e : TypeId}
theorem Own.take {A : Option Addr} {c k : Nat} {xs : List Value} (h : Own w S e 1 (.slice A n c) n xs) (hk : k <= n) : Own w S e 1 (.slice A k c) k (xs.take k) := by
 obtain ⟨h1, h2, h3⟩ := h.at_
 obtain ⟨hl, _⟩ := h
 refine ⟨by rw [List.length_take]; omega, A, c, rfl, by omega, h2, ?_⟩
 rcases h3 with h3 | ⟨g, o, cur, rfl, hs, hb, ho, hc⟩
 ·exact .inl h3
 ·refine .inr ⟨g, o, cur, rfl, hs, hb, ho, λ i x hx => hc i x ?_⟩
  rw [List.getElem?_take] at hx
  split at hx
  ·exact hx
  ·cases hx
theorem OBy.take {A : Option Addr} {c k : Nat} {l : List UInt8} (h : OBy w S (.slice A l.length c) l) (hk : k <= l.length) : OBy w S (.slice A k c) (l.take k) := by
 have := Own.take h hk
 unfold OBy
 rw [List.length_take, Nat.min_eq_left hk, List.map_take]; exact this
theorem OIn.take {A : Option Addr} {c k : Nat} {l : List Int} (h : OIn w S (.slice A l.length c) l) (hk : k <= l.length) : OIn w S (.slice A k c) (l.take k) := by
 have := Own.take h hk
 unfold OIn
 rw [List.length_take, Nat.min_eq_left hk, List.map_take]; exact this
theorem OTx.take {A : Option Addr} {c k : Nat} {l : List (List UInt8)} (h : OTx w S (.slice A l.length c) l) (hk : k <= l.length) : OTx w S (.slice A k c) (l.take k) := by
 obtain ⟨vs, h1, h2, h3⟩ := h
 refine ⟨vs.take k, ?_, by rw [List.length_take, List.length_take, h2], λ i u x hu hx => ?_⟩
 ·rw [List.length_take, Nat.min_eq_left hk]; exact Own.take h1 hk
 ·rw [List.getElem?_take] at hu hx
  split at hu
  ·rename_i hi; rw [if_pos hi] at hx; exact h3 i u x hu hx
  ·cases hu
def Spare (w : World) (S : Nat -> Prop) (u : Value) : Prop := ∃ N, u = .slice (some ⟨N, 0, none⟩) 5 5 /\ S N /\ w.heap[N]? = some (.cells #[bV 115, bV 112, bV 97, bV 114, bV 101] 5 (5, 6))
def LeB (w : World) (S : Nat -> Prop) (v : Value) (l : List UInt8) : Prop := ∃ A c, v = .slice A l.length c /\ OBy w S (.slice A (l.length + 2) c) (l ++ [7, 7])
def LeI (w : World) (S : Nat -> Prop) (v : Value) (l : List Int) : Prop := ∃ A c, v = .slice A l.length c /\ OIn w S (.slice A (l.length + 1) c) (l ++ [777])
def LeT (w : World) (S : Nat -> Prop) (v : Value) (l : List (List UInt8)) : Prop := ∃ A c vs u, v = .slice A l.length c /\ Own w S 23 1 (.slice A (l.length + 1) c) (l.length + 1) (vs ++ [u]) /\ vs.length = l.length /\
 (∀ (i : Nat) u x, vs[i]? = some u -> l[i]? = some x -> OBy w S u x) /\ Spare w S u
structure Lent (w : World) (S : Nat -> Prop) (c0 c1 c2 c3 c4 c5 : Value) (n : Nd) : Prop where
 lvl : c0 = iV n.lvl
 high : LeB w S c1 n.high
 right : c2 = iV n.right
 keys : LeT w S c3 n.keys
 vals : LeT w S c4 n.vals
 kids : LeI w S c5 n.kids
theorem heap_lt {N : Nat} {o : Obj} (h : w.heap[N]? = some o) : N < w.heap.size := by
 rcases Nat.lt_or_ge N w.heap.size with hlt | hge
 ·exact hlt
 ·rw [Array.getElem?_eq_none hge] at h; cases h
theorem Spare.r {u} (h : Spare w S u) : Byts w S u [115, 112, 97, 114, 101] := by
 obtain ⟨N, rfl, hs, h⟩ := h
 refine ⟨_, _, rfl, Nat.le_refl _, by decide, λ _ => ⟨_, rfl, hs, λ i x hx => ?_⟩⟩
 rw [add_lit, Nat.zero_add]
 rw [cell_of_row w N i _ _ _ h]
 rw [<- hx]
 simp
theorem Spare.keeps {u} (h : Spare w S u) (k : Keeps M w w') (hd : ∀ b, b < w.heap.size -> S b -> ¬ M b) : Spare w' S u := by
 obtain ⟨N, rfl, hs, h⟩ := h
 have hlt := heap_lt h
 exact ⟨_, rfl, hs, (k.block _ hlt (hd _ hlt hs)).trans h⟩
theorem Spare.mono {u} (h : Spare w S u) (hs : ∀ b, b < w.heap.size -> S b -> T b) : Spare w T u := by
 obtain ⟨N, rfl, h1, h⟩ := h
 have hlt := heap_lt h
 exact ⟨_, rfl, hs _ hlt h1, h⟩
theorem Spare.far {u} (h : Spare w S u) (k : Keeps M w w') (hm : ∀ b, M b -> ∃ e cs, Blk w b e cs) : Spare w' S u := by
 obtain ⟨N, rfl, h1, h⟩ := h
 have hlt := heap_lt h
 refine ⟨_, rfl, h1, (k.block _ hlt (λ hM => ?_)).trans h⟩
 obtain ⟨e, cs, hb⟩ := hm _ hM
 unfold Blk at hb
 rw [h] at hb
 injection hb with hb
 injection hb with _ _ hb
 injection hb with hb _
 cases hb
theorem Spare.keepsB {u} (h : Spare w S u) (hb : Blk w g e cs) (k : Keeps (λ b => b = g) w w') : Spare w' S u := h.far k (λ b hM => by subst hM; exact ⟨e, cs, hb⟩)
theorem Spare.keepsO {u} {S' : Nat -> Prop} {v' : Value} {size n' : Nat} {xs' : List Value} (h : Spare w S u) (h' : Own w S' e size v' n' xs') (k : Keeps (λ b => v'.ownBlock = some b) w w') : Spare w' S u :=
 h.far k (λ b hM => by obtain ⟨cs', hb'⟩ := h'.ownBlk hM; exact ⟨e, cs', hb'⟩)
theorem LeB.o {l} (h : LeB w S v l) : OBy w S v l := by
 obtain ⟨A, c, rfl, h⟩ := h
 have := OBy.take (k := l.length) (l := l ++ [7, 7]) (by simpa using h) (by simp)
 rwa [List.take_left' rfl] at this
theorem LeI.o {l} (h : LeI w S v l) : OIn w S v l := by
 obtain ⟨A, c, rfl, h⟩ := h
 have := OIn.take (k := l.length) (l := l ++ [777]) (by simpa using h) (by simp)
 rwa [List.take_left' rfl] at this
theorem LeT.o {l} (h : LeT w S v l) : OTx w S v l := by
 obtain ⟨A, c, vs, u, rfl, h, hl, h2, _⟩ := h
 have := Own.take (k := l.length) h (by omega)
 rw [List.take_left' hl] at this
 exact ⟨vs, this, hl, h2⟩
theorem LeB.keepsB {l} (h : LeB w S v l) (hb : Blk w g e cs) (ha : Apart e) (k : Keeps (λ b => b = g) w w') : LeB w' S v l := by
 obtain ⟨A, c, rfl, h⟩ := h; exact ⟨A, c, rfl, h.keepsB hb ha k⟩
theorem LeI.keepsB {l} (h : LeI w S v l) (hb : Blk w g e cs) (ha : Apart e) (k : Keeps (λ b => b = g) w w') : LeI w' S v l := by
 obtain ⟨A, c, rfl, h⟩ := h; exact ⟨A, c, rfl, h.keepsB hb ha k⟩
theorem LeT.keepsB {l} (h : LeT w S v l) (hb : Blk w g e cs) (ha : Apart e) (k : Keeps (λ b => b = g) w w') : LeT w' S v l := by
 obtain ⟨A, c, vs, u, rfl, h, hl, h2, h3⟩ := h
 exact ⟨A, c, vs, u, rfl, Own.keepsB h hb (Ne.symm ha.2.1) k, hl, λ i u x hu hx => (h2 i u x hu hx).keepsB hb ha k, h3.keepsB hb k⟩
theorem LeB.keepsO {l} {S' : Nat -> Prop} {v' : Value} {size n' : Nat} {xs' : List Value} (h : LeB w S v l) (h' : Own w S' e size v' n' xs') (hne : 5 ≠ e) (k : Keeps (λ b => v'.ownBlock = some b) w w') : LeB w' S v l := by
 obtain ⟨A, c, rfl, h⟩ := h; exact ⟨A, c, rfl, Own.keepsO h h' hne k⟩
theorem LeT.keepsO {l} {S' : Nat -> Prop} {v' : Value} {size n' : Nat} {xs' : List Value} (h : LeT w S v l) (h' : Own w S' e size v' n' xs') (hne : 5 ≠ e) (hne2 : 23 ≠ e) (k : Keeps (λ b => v'.ownBlock = some b) w w') : LeT w' S v l := by
 obtain ⟨A, c, vs, u, rfl, h, hl, h2, h3⟩ := h
 exact ⟨A, c, vs, u, rfl, Own.keepsO h h' hne2 k, hl, λ i u x hu hx => Own.keepsO (h2 i u x hu hx) h' hne k, h3.keepsO h' k⟩
theorem LeT.keepsR {l} {S' : Nat -> Prop} {v' : Value} {n' : Nat} {xs' : List Value} (h : LeT w S v l) (h' : Own w S' 23 1 v' n' xs') (hp : Prt v v') (k : Keeps (λ b => v'.ownBlock = some b) w w') : LeT w' S v l := by
 obtain ⟨A, c, vs, u, rfl, h, hl, h2, h3⟩ := h
 exact ⟨A, c, vs, u, rfl, (h.self.keeps k (λ b _ hb hb' => hp b (by cases A <;> exact hb) hb')).mono (λ b _ hb => (h.blk hb).1), hl, λ i u x hu hx => Own.keepsO (h2 i u x hu hx) h' (by decide) k, h3.keepsO h' k⟩
section
variable {c0 c1 c2 c3 c4 c5 : Value} {m : Nd}
theorem Lent.o (h : Lent w S c0 c1 c2 c3 c4 c5 m) : ONd w S c0 c1 c2 c3 c4 c5 m := ⟨⟨h.1, h.2.o, h.3⟩, h.4.o, h.5.o, h.6.o⟩
theorem LeB.keeps {l} (h : LeB w S v l) (k : Keeps M w w') (hd : ∀ b, b < w.heap.size -> S b -> ¬ M b) : LeB w' S v l := by
 obtain ⟨A, c, e, h⟩ := h; exact ⟨A, c, e, h.keeps k hd⟩
theorem LeI.keeps {l} (h : LeI w S v l) (k : Keeps M w w') (hd : ∀ b, b < w.heap.size -> S b -> ¬ M b) : LeI w' S v l := by
 obtain ⟨A, c, e, h⟩ := h; exact ⟨A, c, e, h.keeps k hd⟩
theorem LeT.keeps {l} (h : LeT w S v l) (k : Keeps M w w') (hd : ∀ b, b < w.heap.size -> S b -> ¬ M b) : LeT w' S v l := by
 obtain ⟨A, c, vs, u, e, h, hl, h2, h3⟩ := h; exact ⟨A, c, vs, u, e, h.keeps k hd, hl, λ i u x hu hx => (h2 i u x hu hx).keeps k hd, h3.keeps k hd⟩
theorem Lent.keeps (h : Lent w S c0 c1 c2 c3 c4 c5 m) (k : Keeps M w w') (hd : ∀ b, b < w.heap.size -> S b -> ¬ M b) : Lent w' S c0 c1 c2 c3 c4 c5 m :=
 ⟨h.1, h.2.keeps k hd, h.3, h.4.keeps k hd, h.5.keeps k hd, h.6.keeps k hd⟩
theorem LeB.mono {l} (h : LeB w S v l) (hd : ∀ b, b < w.heap.size -> S b -> T b) : LeB w T v l := by
 obtain ⟨A, c, e, h⟩ := h; exact ⟨A, c, e, h.mono hd⟩
theorem LeI.mono {l} (h : LeI w S v l) (hd : ∀ b, b < w.heap.size -> S b -> T b) : LeI w T v l := by
 obtain ⟨A, c, e, h⟩ := h; exact ⟨A, c, e, h.mono hd⟩
theorem LeT.mono {l} (h : LeT w S v l) (hd : ∀ b, b < w.heap.size -> S b -> T b) : LeT w T v l := by
 obtain ⟨A, c, vs, u, e, h, hl, h2, h3⟩ := h; exact ⟨A, c, vs, u, e, h.mono hd, hl, λ i u x hu hx => (h2 i u x hu hx).mono hd, h3.mono hd⟩
theorem Lent.mono (h : Lent w S c0 c1 c2 c3 c4 c5 m) (hd : ∀ b, b < w.heap.size -> S b -> T b) : Lent w T c0 c1 c2 c3 c4 c5 m :=
 ⟨h.1, h.2.mono hd, h.3, h.4.mono hd, h.5.mono hd, h.6.mono hd⟩
end
end
end Go.Proofs.YtbhohohgojcapaaGreat

namespace Go.Proofs.YtbhohohgojcapaaGreat
open Go.RowKit
section
variable {P : Program} {md : Region.Mode} {ops : Array Oper} {Q : Exit -> Act -> World -> Prop}
end
end Go.Proofs.YtbhohohgojcapaaGreat

namespace Go.Proofs.YtbhohohgojcapaaGreat
open Go.RowKit
section
variable {w : World} {S : Nat -> Prop} {A : Option Addr} {c k : Nat} {e : TypeId}
theorem OTx.cap {n : Nat} {l : List (List UInt8)} (h : OTx w S (.slice A n c) l) : n <= c := by
 obtain ⟨vs, h1, _⟩ := h
 obtain ⟨_, A', c', e, h, _⟩ := h1
 injection e with _ e1 e2
 omega
theorem OIn.cap {n : Nat} {l : List Int} (h : OIn w S (.slice A n c) l) : n <= c := by
 obtain ⟨_, A', c', e, h, _⟩ := h
 injection e with _ e1 e2
 omega
end
def spM (n : Nd) : Nat := if n.lvl = 0 then n.keys.length else n.kids.length
def spBad (n : Nd) : Prop := spM n < 2 \/ (n.lvl = 0 /\ n.vals.length < n.keys.length) \/ (n.lvl ≠ 0 /\ n.keys.length < n.kids.length - 1)
instance (n : Nd) : Decidable (spBad n) := by unfold spBad; exact inferInstance
def spH (n : Nd) : Nat := (spM n + 1) / 2
def spK (n : Nd) : List UInt8 := if spBad n then [] else if n.lvl = 0 then n.keys.getD (spH n) [] else n.keys.getD (spH n - 1) []
def spL (n : Nd) (right : Int) : Nd := if spBad n then n else if n.lvl = 0 then { n with high := spK n, right := right, keys := n.keys.take (spH n), vals := n.vals.take (spH n) } else { n with high := spK n, right := right, keys := n.keys.take (spH n - 1), kids := n.kids.take (spH n) }
def spR (n : Nd) : Nd := if spBad n then Nd.zero else if n.lvl = 0 then { n with keys := n.keys.drop (spH n), vals := n.vals.drop (spH n) } else { n with keys := n.keys.drop (spH n), kids := n.kids.drop (spH n) }
structure SpR (w0 : World) (n : Nd) (N : Value) (L : Nat -> Prop) (x12 x13 x14 x15 x7 x8 : Value) (w : World) : Prop where
 kept : Keeps Nob w0 w
 d31 : L 3 -> L 1
 d6 : L 6 -> L 4 /\ L 1
 d7 : L 7 -> L 5 /\ L 3
 v12 : L 0 -> x12 = N
 v14 : L 2 -> x14 = N
 cl : L 1 -> ∃ p d0 d1 d2 d3 d4 d5, x13 = .agg #[d0, d1, d2, d3, d4, d5] /\ w0.heap.size <= p /\ p <= w.heap.size /\ ONd w (λ b => w0.heap.size <= b /\ b < p) d0 d1 d2 d3 d4 d5 n /\
  (L 3 -> ∃ e0 e1 e2 e3 e4 e5, x15 = .agg #[e0, e1, e2, e3, e4, e5] /\ ONd w (λ b => p <= b) e0 e1 e2 e3 e4 e5 n)
 bx : L 4 -> ∃ X cs, x7 = .pointer (some ⟨X, 0, none⟩) /\ w0.heap.size <= X /\ Blk w X 35 cs /\ cs.size = 6 /\ (L 6 -> x13 = .agg cs)
 bY : L 5 -> ∃ Y cs, x8 = .pointer (some ⟨Y, 0, none⟩) /\ w0.heap.size <= Y /\ Blk w Y 35 cs /\ cs.size = 6 /\ (L 7 -> x15 = .agg cs)
 ne : L 4 -> L 5 -> x7 ≠ x8
theorem SpR.start (w0 n N x12 x13 x14 x15 x7 x8) : SpR w0 n N (λ _ => False) x12 x13 x14 x15 x7 x8 w0.drew :=
 ⟨Keeps.drew Nob w0, λ x => x.elim, λ x => x.elim, λ x => x.elim, λ x => x.elim, λ x => x.elim, λ x => x.elim, λ x => x.elim, λ x => x.elim, λ x => x.elim⟩
section
variable {w0 w w' : World} {n : Nd} {N x12 x13 x14 x15 x7 x8 : Value} {L : Nat -> Prop}
theorem SpR.nob (h : SpR w0 n N L x12 x13 x14 x15 x7 x8 w) (k : Keeps Nob w w') : SpR w0 n N L x12 x13 x14 x15 x7 x8 w' where
 kept := h.kept.trans k (λ _ _ h => h)
 d31 := h.d31
 d6 := h.d6
 d7 := h.d7
 v12 := h.v12
 v14 := h.v14
 cl := λ x => by
  obtain ⟨p, d0, d1, d2, d3, d4, d5, h1, h2, h3, h4, h5⟩ := h.cl x
  refine ⟨p, d0, d1, d2, d3, d4, d5, h1, h2, Nat.le_trans h3 k.size, h4.keeps k (λ _ _ _ => id), λ y => ?_⟩
  obtain ⟨e0, e1, e2, e3, e4, e5, g1, g2⟩ := h5 y
  exact ⟨e0, e1, e2, e3, e4, e5, g1, g2.keeps k (λ _ _ _ => id)⟩
 bx := λ x => by
  obtain ⟨X, cs, h1, h2, h3, h4, h5⟩ := h.bx x
  exact ⟨X, cs, h1, h2, h3.keeps k id, h4, h5⟩
 bY := λ x => by
  obtain ⟨X, cs, h1, h2, h3, h4, h5⟩ := h.bY x
  exact ⟨X, cs, h1, h2, h3.keeps k id, h4, h5⟩
 ne := h.ne
end
end Go.Proofs.YtbhohohgojcapaaGreat
