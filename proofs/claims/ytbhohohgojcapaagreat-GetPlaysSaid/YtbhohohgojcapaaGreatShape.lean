/- A node that is lent out, each list with marks in its spare room. -/
import Derived.Test.YtbhohohgojcapaaGreatInsM
import Derived.Test.YtbhohohgojcapaaGreatTexts
namespace Go.Proofs.YtbhohohgojcapaaGreat
open Go.RowKit

section
variable {S T M : Nat → Prop} {w w' : World} {v u : Value} {n g i : Nat} {cs : Array Value} {e : TypeId}

theorem Own.take {A : Option Addr} {c k : Nat} {xs : List Value} (h : Own w S e 1 (.slice A n c) n xs) (hk : k ≤ n) : Own w S e 1 (.slice A k c) k (xs.take k) := by
  obtain ⟨h1, h2, h3⟩ := h.at_
  obtain ⟨hl, _⟩ := h
  refine ⟨by rw [List.length_take]; omega, A, c, rfl, by omega, h2, ?_⟩
  rcases h3 with h3 | ⟨g, o, cur, rfl, hs, hb, ho, hc⟩
  · exact .inl h3
  · refine .inr ⟨g, o, cur, rfl, hs, hb, ho, fun i x hx => hc i x ?_⟩
    rw [List.getElem?_take] at hx
    split at hx
    · exact hx
    · cases hx
theorem OBy.take {A : Option Addr} {c k : Nat} {l : List UInt8} (h : OBy w S (.slice A l.length c) l) (hk : k ≤ l.length) : OBy w S (.slice A k c) (l.take k) := by
  have := Own.take h hk
  unfold OBy
  rw [List.length_take, Nat.min_eq_left hk, List.map_take]; exact this
theorem OIn.take {A : Option Addr} {c k : Nat} {l : List Int} (h : OIn w S (.slice A l.length c) l) (hk : k ≤ l.length) : OIn w S (.slice A k c) (l.take k) := by
  have := Own.take h hk
  unfold OIn
  rw [List.length_take, Nat.min_eq_left hk, List.map_take]; exact this
theorem OTx.take {A : Option Addr} {c k : Nat} {l : List (List UInt8)} (h : OTx w S (.slice A l.length c) l) (hk : k ≤ l.length) : OTx w S (.slice A k c) (l.take k) := by
  obtain ⟨vs, h1, h2, h3⟩ := h
  refine ⟨vs.take k, ?_, by rw [List.length_take, List.length_take, h2], fun i u x hu hx => ?_⟩
  · rw [List.length_take, Nat.min_eq_left hk]; exact Own.take h1 hk
  · rw [List.getElem?_take] at hu hx
    split at hu
    · rename_i hi; rw [if_pos hi] at hx; exact h3 i u x hu hx
    · cases hu

/-- The text that stands behind the end of a lent row of texts: in a block of its own, which is marked. -/
def Spare (w : World) (S : Nat → Prop) (u : Value) : Prop := ∃ N, u = .slice (some ⟨N, 0, none⟩) 5 5 ∧ S N ∧ w.heap[N]? = some (.cells #[bV 115, bV 112, bV 97, bV 114, bV 101] 5 (5, 6))
/-- Rows with marks behind their end. -/
def LeB (w : World) (S : Nat → Prop) (v : Value) (l : List UInt8) : Prop := ∃ A c, v = .slice A l.length c ∧ OBy w S (.slice A (l.length + 2) c) (l ++ [7, 7])
def LeI (w : World) (S : Nat → Prop) (v : Value) (l : List Int) : Prop := ∃ A c, v = .slice A l.length c ∧ OIn w S (.slice A (l.length + 1) c) (l ++ [777])
def LeT (w : World) (S : Nat → Prop) (v : Value) (l : List (List UInt8)) : Prop := ∃ A c vs u, v = .slice A l.length c ∧ Own w S 23 1 (.slice A (l.length + 1) c) (l.length + 1) (vs ++ [u]) ∧ vs.length = l.length ∧
  (∀ (i : Nat) u x, vs[i]? = some u → l[i]? = some x → OBy w S u x) ∧ Spare w S u
/-- A node lent out. -/
structure Lent (w : World) (S : Nat → Prop) (c0 c1 c2 c3 c4 c5 : Value) (n : Nd) : Prop where
  lvl : c0 = iV n.lvl
  high : LeB w S c1 n.high
  right : c2 = iV n.right
  keys : LeT w S c3 n.keys
  vals : LeT w S c4 n.vals
  kids : LeI w S c5 n.kids
theorem heap_lt {N : Nat} {o : Obj} (h : w.heap[N]? = some o) : N < w.heap.size := by
  rcases Nat.lt_or_ge N w.heap.size with hlt | hge
  · exact hlt
  · rw [Array.getElem?_eq_none hge] at h; cases h
theorem Spare.r {u} (h : Spare w S u) : Byts w S u [115, 112, 97, 114, 101] := by
  obtain ⟨N, rfl, hs, h⟩ := h
  refine ⟨_, _, rfl, Nat.le_refl _, by decide, fun _ => ⟨_, rfl, hs, fun i x hx => ?_⟩⟩
  rw [add_lit, Nat.zero_add]
  rw [cell_of_row w N i _ _ _ h]
  rw [← hx]
  simp
theorem Spare.keeps {u} (h : Spare w S u) (k : Keeps M w w') (hd : ∀ b, b < w.heap.size → S b → ¬ M b) : Spare w' S u := by
  obtain ⟨N, rfl, hs, h⟩ := h
  have hlt := heap_lt h
  exact ⟨_, rfl, hs, (k.block _ hlt (hd _ hlt hs)).trans h⟩
theorem Spare.mono {u} (h : Spare w S u) (hs : ∀ b, b < w.heap.size → S b → T b) : Spare w T u := by
  obtain ⟨N, rfl, h1, h⟩ := h
  have hlt := heap_lt h
  exact ⟨_, rfl, hs _ hlt h1, h⟩
/-- Kept where unmarked blocks are written. -/
theorem Spare.far {u} (h : Spare w S u) (k : Keeps M w w') (hm : ∀ b, M b → ∃ e cs, Blk w b e cs) : Spare w' S u := by
  obtain ⟨N, rfl, h1, h⟩ := h
  have hlt := heap_lt h
  refine ⟨_, rfl, h1, (k.block _ hlt (fun hM => ?_)).trans h⟩
  obtain ⟨e, cs, hb⟩ := hm _ hM
  unfold Blk at hb
  rw [h] at hb
  injection hb with hb
  injection hb with _ _ hb
  injection hb with hb _
  cases hb
theorem Spare.keepsB {u} (h : Spare w S u) (hb : Blk w g e cs) (k : Keeps (fun b => b = g) w w') : Spare w' S u := h.far k (fun b hM => by subst hM; exact ⟨e, cs, hb⟩)
theorem Spare.keepsO {u} {S' : Nat → Prop} {v' : Value} {size n' : Nat} {xs' : List Value} (h : Spare w S u) (h' : Own w S' e size v' n' xs') (k : Keeps (fun b => v'.ownBlock = some b) w w') : Spare w' S u :=
  h.far k (fun b hM => by obtain ⟨cs', hb'⟩ := h'.ownBlk hM; exact ⟨e, cs', hb'⟩)
theorem LeB.o {l} (h : LeB w S v l) : OBy w S v l := by
  obtain ⟨A, c, rfl, h⟩ := h
  have := OBy.take (k := l.length) (l := l ++ [7, 7]) (by simpa using h) (by simp)
  rwa [List.take_left' rfl] at this
theorem LeI.o {l} (h : LeI w S v l) : OIn w S v l := by
  obtain ⟨A, c, rfl, h⟩ := h
  have := OIn.take (k := l.length) (l := l ++ [777]) (by simpa using h) (by simp)
  rwa [List.take_left' rfl] at this
theorem LeT.o {l} (h : LeT w S v l) : OTx w S v l := by
  obtain ⟨A, c, vs, u, rfl, h, hl, h2, _⟩ := h
  have := Own.take (k := l.length) h (by omega)
  rw [List.take_left' hl] at this
  exact ⟨vs, this, hl, h2⟩
theorem LeB.keepsB {l} (h : LeB w S v l) (hb : Blk w g e cs) (ha : Apart e) (k : Keeps (fun b => b = g) w w') : LeB w' S v l := by
  obtain ⟨A, c, rfl, h⟩ := h; exact ⟨A, c, rfl, h.keepsB hb ha k⟩
theorem LeI.keepsB {l} (h : LeI w S v l) (hb : Blk w g e cs) (ha : Apart e) (k : Keeps (fun b => b = g) w w') : LeI w' S v l := by
  obtain ⟨A, c, rfl, h⟩ := h; exact ⟨A, c, rfl, h.keepsB hb ha k⟩
theorem LeT.keepsB {l} (h : LeT w S v l) (hb : Blk w g e cs) (ha : Apart e) (k : Keeps (fun b => b = g) w w') : LeT w' S v l := by
  obtain ⟨A, c, vs, u, rfl, h, hl, h2, h3⟩ := h
  exact ⟨A, c, vs, u, rfl, Own.keepsB h hb (Ne.symm ha.2.1) k, hl, fun i u x hu hx => (h2 i u x hu hx).keepsB hb ha k, h3.keepsB hb k⟩
theorem LeB.keepsO {l} {S' : Nat → Prop} {v' : Value} {size n' : Nat} {xs' : List Value} (h : LeB w S v l) (h' : Own w S' e size v' n' xs') (hne : 5 ≠ e) (k : Keeps (fun b => v'.ownBlock = some b) w w') : LeB w' S v l := by
  obtain ⟨A, c, rfl, h⟩ := h; exact ⟨A, c, rfl, Own.keepsO h h' hne k⟩
theorem LeT.keepsO {l} {S' : Nat → Prop} {v' : Value} {size n' : Nat} {xs' : List Value} (h : LeT w S v l) (h' : Own w S' e size v' n' xs') (hne : 5 ≠ e) (hne2 : 23 ≠ e) (k : Keeps (fun b => v'.ownBlock = some b) w w') : LeT w' S v l := by
  obtain ⟨A, c, vs, u, rfl, h, hl, h2, h3⟩ := h
  exact ⟨A, c, vs, u, rfl, Own.keepsO h h' hne2 k, hl, fun i u x hu hx => Own.keepsO (h2 i u x hu hx) h' hne k, h3.keepsO h' k⟩
theorem LeT.keepsR {l} {S' : Nat → Prop} {v' : Value} {n' : Nat} {xs' : List Value} (h : LeT w S v l) (h' : Own w S' 23 1 v' n' xs') (hp : Prt v v') (k : Keeps (fun b => v'.ownBlock = some b) w w') : LeT w' S v l := by
  obtain ⟨A, c, vs, u, rfl, h, hl, h2, h3⟩ := h
  exact ⟨A, c, vs, u, rfl, (h.self.keeps k (fun b _ hb hb' => hp b (by cases A <;> exact hb) hb')).mono (fun b _ hb => (h.blk hb).1), hl, fun i u x hu hx => Own.keepsO (h2 i u x hu hx) h' (by decide) k, h3.keepsO h' k⟩
section
variable {c0 c1 c2 c3 c4 c5 : Value} {m : Nd}
theorem Lent.o (h : Lent w S c0 c1 c2 c3 c4 c5 m) : ONd w S c0 c1 c2 c3 c4 c5 m := ⟨⟨h.1, h.2.o, h.3⟩, h.4.o, h.5.o, h.6.o⟩
theorem LeB.keeps {l} (h : LeB w S v l) (k : Keeps M w w') (hd : ∀ b, b < w.heap.size → S b → ¬ M b) : LeB w' S v l := by
  obtain ⟨A, c, e, h⟩ := h; exact ⟨A, c, e, h.keeps k hd⟩
theorem LeI.keeps {l} (h : LeI w S v l) (k : Keeps M w w') (hd : ∀ b, b < w.heap.size → S b → ¬ M b) : LeI w' S v l := by
  obtain ⟨A, c, e, h⟩ := h; exact ⟨A, c, e, h.keeps k hd⟩
theorem LeT.keeps {l} (h : LeT w S v l) (k : Keeps M w w') (hd : ∀ b, b < w.heap.size → S b → ¬ M b) : LeT w' S v l := by
  obtain ⟨A, c, vs, u, e, h, hl, h2, h3⟩ := h; exact ⟨A, c, vs, u, e, h.keeps k hd, hl, fun i u x hu hx => (h2 i u x hu hx).keeps k hd, h3.keeps k hd⟩
theorem Lent.keeps (h : Lent w S c0 c1 c2 c3 c4 c5 m) (k : Keeps M w w') (hd : ∀ b, b < w.heap.size → S b → ¬ M b) : Lent w' S c0 c1 c2 c3 c4 c5 m :=
  ⟨h.1, h.2.keeps k hd, h.3, h.4.keeps k hd, h.5.keeps k hd, h.6.keeps k hd⟩
theorem LeB.mono {l} (h : LeB w S v l) (hd : ∀ b, b < w.heap.size → S b → T b) : LeB w T v l := by
  obtain ⟨A, c, e, h⟩ := h; exact ⟨A, c, e, h.mono hd⟩
theorem LeI.mono {l} (h : LeI w S v l) (hd : ∀ b, b < w.heap.size → S b → T b) : LeI w T v l := by
  obtain ⟨A, c, e, h⟩ := h; exact ⟨A, c, e, h.mono hd⟩
theorem LeT.mono {l} (h : LeT w S v l) (hd : ∀ b, b < w.heap.size → S b → T b) : LeT w T v l := by
  obtain ⟨A, c, vs, u, e, h, hl, h2, h3⟩ := h; exact ⟨A, c, vs, u, e, h.mono hd, hl, fun i u x hu hx => (h2 i u x hu hx).mono hd, h3.mono hd⟩
theorem Lent.mono (h : Lent w S c0 c1 c2 c3 c4 c5 m) (hd : ∀ b, b < w.heap.size → S b → T b) : Lent w T c0 c1 c2 c3 c4 c5 m :=
  ⟨h.1, h.2.mono hd, h.3, h.4.mono hd, h.5.mono hd, h.6.mono hd⟩
end
end

end Go.Proofs.YtbhohohgojcapaaGreat
