import Derived.Test.YtbhohohgojcapaaPkC4
import Derived.Test.YtbhohohgojcapaaPkA8
namespace Go.Proofs.Ytbhohohgojcapaa
open Go.RowKit

/-- All but what came since. -/
def Shr (G : Nat → Prop) (w w' : World) : Nat → Prop := fun x => G x ∧ ¬ Fresh w w' x

/-- A machine at block m, apart from the arenas' blocks G; its texts in S. -/
structure Mb (w : World) (G : Nat → Prop) (t : TypeId) (m a : Nat) (nv : Nx → Value) (S : Nat → Prop) (M : Mc) : Prop where
  mw : MW w t m a nv S M
  off : ¬ G m
  self : ¬ S m
  text : ∀ x, S x → ¬ G x
section
variable {w w' : World} {G G' S N : Nat → Prop} {b p q m a : Nat} {A B : Ar} {M : Mc} {t : TypeId} {nv : Nx → Value}
theorem Mb.keeps (h : Mb w G t m a nv S M) (k : Keeps N w w') (hm : ¬ N m) (hs : ∀ x, x < w.heap.size → S x → ¬ N x) (hg : ∀ x, G' x → G x) : Mb w' G' t m a nv S M :=
  ⟨h.mw.keeps k hm hs, fun x => h.off (hg _ x), h.self, fun x hx hg' => h.text x hx (hg _ hg')⟩
theorem J.shr (h : J w G b p q A B) (k : Keeps N w w') (hN : ∀ x, x < w.heap.size → G x → ¬ N x) : J w' (Shr G w w') b p q A B :=
  h.enterN k hN (fun x hx hg => ⟨hg, fun hf => by have := hf.1; omega⟩) (fun x hx => ⟨h.new x (Nat.le_trans k.size hx), fun hf => by have := hf.2; omega⟩)

end
end Go.Proofs.Ytbhohohgojcapaa

namespace Go.Proofs.Ytbhohohgojcapaa
open Go.RowKit

/-- An object: what holds of it, which blocks it reads, which it may write. -/
structure Ob where
  P : World → Prop
  F : Nat → Prop
  W : Nat → Prop
  fr : ∀ (w w' : World) (N : Nat → Prop), P w → Keeps N w w' → (∀ x, x < w.heap.size → F x → ¬ N x) → P w'

/-- Objects, each apart from what the others may write, and from G. -/
structure Fam (w : World) (G : Nat → Prop) (l : List Ob) : Prop where
  ok : ∀ (i : Nat) o, l[i]? = some o → o.P w
  old : ∀ (i : Nat) o, l[i]? = some o → ∀ x, o.F x → x < w.heap.size
  wf : ∀ (i : Nat) o, l[i]? = some o → ∀ x, o.W x → o.F x
  off : ∀ (i : Nat) o, l[i]? = some o → ∀ x, o.F x → ¬ G x
  apart : ∀ (i j : Nat) o u, l[i]? = some o → l[j]? = some u → i ≠ j → ∀ x, o.W x → ¬ u.F x

section
variable {w w' : World} {G G' N : Nat → Prop} {l : List Ob} {o o' : Ob} {i : Nat}
theorem Fam.nil : Fam w G [] := ⟨fun i o h => by simp at h, fun i o h => by simp at h, fun i o h => by simp at h, fun i o h => by simp at h, fun i j o u h => by simp at h⟩
theorem Fam.keeps (h : Fam w G l) (k : Keeps N w w') (hN : ∀ (i : Nat) o, l[i]? = some o → ∀ x, o.F x → ¬ N x) (hg : ∀ x, G' x → G x ∨ w.heap.size ≤ x) : Fam w' G' l :=
  ⟨fun i o hi => o.fr _ _ _ (h.ok i o hi) k (fun x _ hx => hN i o hi x hx), fun i o hi x hx => Nat.lt_of_lt_of_le (h.old i o hi x hx) k.size, h.wf, fun i o hi x hx hg' => by
    rcases hg x hg' with h1 | h1
    · exact h.off i o hi x hx h1
    · have := h.old i o hi x hx; omega, h.apart⟩
/-- Nothing is written. -/
theorem Fam.nob (h : Fam w G l) (k : Keeps Nob w w') : Fam w' G l := h.keeps k (fun _ _ _ _ _ => id) (fun _ => .inl)
theorem Fam.sub (h : Fam w G l) (hg : ∀ x, G' x → G x) : Fam w G' l := h.keeps (Keeps.refl Nob w) (fun _ _ _ _ _ => id) (fun x hx => .inl (hg x hx))
/-- One object is written. -/
theorem Fam.set (h : Fam w G l) (hi : l[i]? = some o) (k : Keeps N w w') (hN : ∀ x, x < w.heap.size → N x → o.W x) (hP : o'.P w') (hF : ∀ x, o'.F x → o.F x ∨ Fresh w w' x) (hW : ∀ x, o'.W x → o.W x ∨ Fresh w w' x) (hWF : ∀ x, o'.W x → o'.F x) : Fam w' (Shr G w w') (l.set i o') := by
  have hcase : ∀ (j : Nat) u, (l.set i o')[j]? = some u → (j = i ∧ u = o') ∨ (j ≠ i ∧ l[j]? = some u) := fun j u hj => by
    rw [List.getElem?_set] at hj
    by_cases e : i = j
    · subst e
      rw [if_pos rfl] at hj
      split at hj
      · cases hj; exact .inl ⟨rfl, rfl⟩
      · cases hj
    · rw [if_neg e] at hj
      exact .inr ⟨fun h => e h.symm, hj⟩
  refine ⟨fun j u hj => ?_, fun j u hj x hx => ?_, fun j u hj x hx => ?_, fun j u hj x hx hg => ?_, fun j j' u u' hj hj' hne x hx hx' => ?_⟩
  · rcases hcase j u hj with ⟨rfl, rfl⟩ | ⟨hne, hj⟩
    · exact hP
    · exact u.fr _ _ _ (h.ok j u hj) k (fun x hs hx hn => h.apart i j o u hi hj (fun e => hne e.symm) x (hN x hs hn) hx)
  · rcases hcase j u hj with ⟨rfl, rfl⟩ | ⟨hne, hj⟩
    · rcases hF x hx with h1 | h1
      · exact Nat.lt_of_lt_of_le (h.old _ o hi x h1) k.size
      · exact h1.2
    · exact Nat.lt_of_lt_of_le (h.old j u hj x hx) k.size
  · rcases hcase j u hj with ⟨rfl, rfl⟩ | ⟨hne, hj⟩
    · exact hWF x hx
    · exact h.wf j u hj x hx
  · rcases hcase j u hj with ⟨rfl, rfl⟩ | ⟨hne, hj⟩
    · rcases hF x hx with h1 | h1
      · exact h.off _ o hi x h1 hg.1
      · exact hg.2 h1
    · exact h.off j u hj x hx hg.1
  · rcases hcase j u hj with ⟨rfl, rfl⟩ | ⟨hn1, hj1⟩
    · rcases hcase j' u' hj' with ⟨rfl, rfl⟩ | ⟨hn2, hj2⟩
      · exact hne rfl
      · rcases hW x hx with h1 | h1
        · exact h.apart _ j' o u' hi hj2 hne x h1 hx'
        · have := h.old j' u' hj2 x hx'; have := h1.1; omega
    · rcases hcase j' u' hj' with ⟨rfl, rfl⟩ | ⟨hn2, hj2⟩
      · rcases hF x hx' with h1 | h1
        · exact h.apart j _ u o hj1 hi hne x hx h1
        · have := h.old j u hj1 x (h.wf j u hj1 x hx); have := h1.1; omega
      · exact h.apart j j' u u' hj1 hj2 hne x hx hx'
/-- A new object. -/
theorem Fam.push (h : Fam w G l) (k : Keeps Nob w w') (hP : o.P w') (hF : ∀ x, o.F x → Fresh w w' x) (hWF : ∀ x, o.W x → o.F x) : Fam w' (Shr G w w') (l ++ [o]) := by
  have hcase : ∀ (j : Nat) u, (l ++ [o])[j]? = some u → (j = l.length ∧ u = o) ∨ (j < l.length ∧ l[j]? = some u) := fun j u hj => by
    by_cases e : j < l.length
    · rw [List.getElem?_append_left e] at hj; exact .inr ⟨e, hj⟩
    · rw [List.getElem?_append_right (by omega)] at hj
      rcases hh : j - l.length with _ | n
      · rw [hh] at hj; simp only [List.getElem?_cons_zero, Option.some.injEq] at hj
        exact .inl ⟨by omega, hj.symm⟩
      · rw [hh] at hj; simp at hj
  refine ⟨fun j u hj => ?_, fun j u hj x hx => ?_, fun j u hj x hx => ?_, fun j u hj x hx hg => ?_, fun j j' u u' hj hj' hne x hx hx' => ?_⟩
  · rcases hcase j u hj with ⟨rfl, rfl⟩ | ⟨_, hj⟩
    · exact hP
    · exact u.fr _ _ _ (h.ok j u hj) k (fun _ _ _ => id)
  · rcases hcase j u hj with ⟨rfl, rfl⟩ | ⟨_, hj⟩
    · exact (hF x hx).2
    · exact Nat.lt_of_lt_of_le (h.old j u hj x hx) k.size
  · rcases hcase j u hj with ⟨rfl, rfl⟩ | ⟨_, hj⟩
    · exact hWF x hx
    · exact h.wf j u hj x hx
  · rcases hcase j u hj with ⟨rfl, rfl⟩ | ⟨_, hj⟩
    · exact hg.2 (hF x hx)
    · exact h.off j u hj x hx hg.1
  · rcases hcase j u hj with ⟨e1, rfl⟩ | ⟨_, hj1⟩
    · rcases hcase j' u' hj' with ⟨e2, rfl⟩ | ⟨_, hj2⟩
      · exact hne (by omega)
      · have := h.old j' u' hj2 x hx'; have := (hF x (hWF x hx)).1; omega
    · rcases hcase j' u' hj' with ⟨e2, rfl⟩ | ⟨_, hj2⟩
      · have := h.old j u hj1 x (h.wf j u hj1 x hx); have := (hF x hx').1; omega
      · exact h.apart j j' u u' hj1 hj2 hne x hx hx'
/-- One more object, in the same world. -/
theorem Fam.snoc (h : Fam w G l) (hP : o.P w) (hlt : ∀ x, o.F x → x < w.heap.size) (hG : ∀ x, o.F x → ¬ G x) (hWF : ∀ x, o.W x → o.F x) (ha : ∀ (j : Nat) u, l[j]? = some u → (∀ x, o.W x → ¬ u.F x) ∧ ∀ x, u.W x → ¬ o.F x) : Fam w G (l ++ [o]) := by
  have hcase : ∀ (j : Nat) u, (l ++ [o])[j]? = some u → (j = l.length ∧ u = o) ∨ (j < l.length ∧ l[j]? = some u) := fun j u hj => by
    by_cases e : j < l.length
    · rw [List.getElem?_append_left e] at hj; exact .inr ⟨e, hj⟩
    · rw [List.getElem?_append_right (by omega)] at hj
      rcases hh : j - l.length with _ | n
      · rw [hh] at hj; simp only [List.getElem?_cons_zero, Option.some.injEq] at hj
        exact .inl ⟨by omega, hj.symm⟩
      · rw [hh] at hj; simp at hj
  refine ⟨fun j u hj => ?_, fun j u hj x hx => ?_, fun j u hj x hx => ?_, fun j u hj x hx hg => ?_, fun j j' u u' hj hj' hne x hx hx' => ?_⟩
  · rcases hcase j u hj with ⟨rfl, rfl⟩ | ⟨_, hj⟩
    · exact hP
    · exact h.ok j u hj
  · rcases hcase j u hj with ⟨rfl, rfl⟩ | ⟨_, hj⟩
    · exact hlt x hx
    · exact h.old j u hj x hx
  · rcases hcase j u hj with ⟨rfl, rfl⟩ | ⟨_, hj⟩
    · exact hWF x hx
    · exact h.wf j u hj x hx
  · rcases hcase j u hj with ⟨rfl, rfl⟩ | ⟨_, hj⟩
    · exact hG x hx hg
    · exact h.off j u hj x hx hg
  · rcases hcase j u hj with ⟨e1, rfl⟩ | ⟨_, hj1⟩
    · rcases hcase j' u' hj' with ⟨e2, rfl⟩ | ⟨_, hj2⟩
      · exact hne (by omega)
      · exact (ha j' u' hj2).1 x hx hx'
    · rcases hcase j' u' hj' with ⟨e2, rfl⟩ | ⟨_, hj2⟩
      · exact (ha j u hj1).2 x hx hx'
      · exact h.apart j j' u u' hj1 hj2 hne x hx hx'
end

/-- An unfrozen row. -/
def rowOb (e : TypeId) (size : Nat) (v : Value) (n : Nat) (xs : List Value) : Ob where
  P := fun w => Own w (fun b => v.ownBlock = some b) e size v n xs
  F := fun b => v.ownBlock = some b
  W := fun b => v.ownBlock = some b
  fr := fun _ _ _ h k hd => h.keeps k hd
section
variable {w w' w'' : World} {G : Nat → Prop} {l : List Ob} {i n m size : Nat} {e : TypeId} {v v' : Value} {xs ys : List Value} {S : Nat → Prop}
theorem Fam.row (h : Fam w G l) (hi : l[i]? = some (rowOb e size v n xs)) : Own w (fun b => v.ownBlock = some b) e size v n xs := h.ok i _ hi
/-- A row behind an append onto it. -/
theorem Fam.app (h : Fam w G l) (hi : l[i]? = some (rowOb e size v n xs)) (k : Keeps (fun b => v.ownBlock = some b) w w') (ho : Own w' (fun b => v.ownBlock = some b ∨ Fresh w w' b) e size v' m ys) : Fam w' (Shr G w w') (l.set i (rowOb e size v' m ys)) :=
  h.set hi k (fun _ _ => id) ho.self (fun x hx => (ho.blk hx).1) (fun x hx => (ho.blk hx).1) (fun _ => id)
end

/-- A block that nobody writes. -/
def blkOb (b : Nat) (t : TypeId) (cs : Array Value) : Ob where
  P := fun w => Blk w b t cs
  F := fun x => x = b
  W := fun _ => False
  fr := fun _ _ _ h k hd => h.keeps k (hd b h.lt rfl)
/-- A block that is written. -/
def muBlk (b : Nat) (t : TypeId) (cs : Array Value) : Ob where
  P := fun w => Blk w b t cs
  F := fun x => x = b
  W := fun x => x = b
  fr := fun _ _ _ h k hd => h.keeps k (hd b h.lt rfl)

/-- No object. -/
def noOb : Ob where
  P := fun _ => True
  F := fun _ => False
  W := fun _ => False
  fr := fun _ _ _ h _ _ => h

section
variable {w w' : World} {G : Nat → Prop} {l : List Ob} {i : Nat} {o a : Ob}
/-- One object is written, nothing is barred. -/
theorem Fam.wr {o' : Ob} {N : Nat → Prop} (h : Fam w Nob l) (hi : l[i]? = some o) (k : Keeps N w w') (hN : ∀ x, x < w.heap.size → N x → o.W x) (hP : o'.P w') (hF : ∀ x, o'.F x → o.F x ∨ Fresh w w' x) (hW : ∀ x, o'.W x → o.W x ∨ Fresh w w' x) (hWF : ∀ x, o'.W x → o'.F x) : Fam w' Nob (l.set i o') :=
  (h.set hi k hN hP hF hW hWF).sub (fun _ h => h.elim)
/-- A new object. -/
theorem Fam.add (h : Fam w Nob l) (k : Keeps Nob w w') (hP : o.P w') (hF : ∀ x, o.F x → Fresh w w' x) (hWF : ∀ x, o.W x → o.F x) : Fam w' Nob (l ++ [o]) :=
  (h.push k hP hF hWF).sub (fun _ h => h.elim)
end

/-- The pair of arenas and objects beside it; nothing was written that lay there when the world was w0. -/
def Su (w0 w : World) (b p q : Nat) (A B : Ar) (l : List Ob) : Prop :=
  ∃ G, J w G b p q A B ∧ Fam w G l ∧ (∀ x, G x → w0.heap.size ≤ x) ∧ (∀ (i : Nat) o, l[i]? = some o → ∀ x, o.W x → w0.heap.size ≤ x) ∧ Keeps (From w0.heap.size) w0 w

section
variable {w0 w w' : World} {b p q : Nat} {A B A' B' : Ar} {l : List Ob} {o o' : Ob} {i : Nat} {N : Nat → Prop}
theorem Su.kept (h : Su w0 w b p q A B l) : Keeps Nob w0 w := by
  obtain ⟨_, _, _, _, _, h⟩ := h
  exact h.mono (fun x hx hf => absurd hx (Nat.not_lt.2 hf))
theorem Su.size (h : Su w0 w b p q A B l) : w0.heap.size ≤ w.heap.size := h.kept.size
theorem Su.blk (h : Su w0 w b p q A B l) : Blk w b 48 #[pV p, pV q] := by
  obtain ⟨_, h, _⟩ := h; exact h.blk
theorem Su.get (h : Su w0 w b p q A B l) (hi : l[i]? = some o) : o.P w := by
  obtain ⟨_, _, h, _⟩ := h; exact h.ok i o hi
/-- Nothing is written. -/
theorem Su.nob (h : Su w0 w b p q A B l) (k : Keeps Nob w w') : Su w0 w' b p q A B l := by
  obtain ⟨G, hJ, hF, hg, hw, hk⟩ := h
  exact ⟨G, hJ.nob k, hF.nob k, hg, hw, hk.trans k (fun _ _ h => h.elim)⟩
/-- One object is written. -/
theorem Su.set (h : Su w0 w b p q A B l) (hi : l[i]? = some o) (k : Keeps N w w') (hN : ∀ x, x < w.heap.size → N x → o.W x) (hP : o'.P w') (hF : ∀ x, o'.F x → o.F x ∨ Fresh w w' x) (hW : ∀ x, o'.W x → o.W x ∨ Fresh w w' x) (hWF : ∀ x, o'.W x → o'.F x) : Su w0 w' b p q A B (l.set i o') := by
  have hsz := h.size
  obtain ⟨G, hJ, hf, hg, hw, hk⟩ := h
  refine ⟨Shr G w w', hJ.shr k (fun x hx hgx hn => hf.off i o hi x (hf.wf i o hi x (hN x hx hn)) hgx), hf.set hi k hN hP hF hW hWF, fun x hx => hg x hx.1, fun j u hj x hx => ?_, hk.trans k (fun x hx hn => hw i o hi x (hN x (Nat.lt_of_lt_of_le hx hk.size) hn))⟩
  rw [List.getElem?_set] at hj
  by_cases e : i = j
  · subst e
    rw [if_pos rfl] at hj
    split at hj
    · cases hj
      rcases hW x hx with h1 | h1
      · exact hw _ o hi x h1
      · exact Nat.le_trans hsz h1.1
    · cases hj
  · rw [if_neg e] at hj
    exact hw j u hj x hx
/-- A new object takes a place. -/
theorem Su.put (h : Su w0 w b p q A B l) (hi : l[i]? = some o) (k : Keeps Nob w w') (hP : o'.P w') (hF : ∀ x, o'.F x → Fresh w w' x) (hWF : ∀ x, o'.W x → o'.F x) : Su w0 w' b p q A B (l.set i o') :=
  h.set hi k (fun _ _ h => h.elim) hP (fun x hx => .inr (hF x hx)) (fun x hx => .inr (hF x (hWF x hx))) hWF
/-- A new object. -/
theorem Su.push (h : Su w0 w b p q A B l) (k : Keeps Nob w w') (hP : o.P w') (hF : ∀ x, o.F x → Fresh w w' x) (hWF : ∀ x, o.W x → o.F x) : Su w0 w' b p q A B (l ++ [o]) := by
  have hsz := h.size
  obtain ⟨G, hJ, hf, hg, hw, hk⟩ := h
  refine ⟨Shr G w w', hJ.shr k (fun x hx hgx hn => hn), hf.push k hP hF hWF, fun x hx => hg x hx.1, fun j u hj x hx => ?_, hk.trans k (fun x hx hn => hn.elim)⟩
  by_cases e : j < l.length
  · rw [List.getElem?_append_left e] at hj; exact hw j u hj x hx
  · rw [List.getElem?_append_right (by omega)] at hj
    rcases hh : j - l.length with _ | n
    · rw [hh] at hj; simp only [List.getElem?_cons_zero, Option.some.injEq] at hj
      subst hj
      exact Nat.le_trans hsz (hF x (hWF x hx)).1
    · rw [hh] at hj; simp at hj
/-- A block made. -/
theorem Su.blkPut {g : Nat} {t : TypeId} {cs : Array Value} (h : Su w0 w b p q A B l) (hi : l[i]? = some o) (k : Keeps Nob w w') (hb : Blk w' g t cs) (hg : w.heap.size ≤ g) : Su w0 w' b p q A B (l.set i (blkOb g t cs)) :=
  h.put hi k hb (fun x hx => by rw [show x = g from hx]; exact ⟨hg, hb.lt⟩) (fun x hx => hx.elim)
/-- A row behind an append onto it. -/
theorem Su.app {n m size : Nat} {e : TypeId} {v v' : Value} {xs ys : List Value} (h : Su w0 w b p q A B l) (hi : l[i]? = some (rowOb e size v n xs)) (k : Keeps (fun b => v.ownBlock = some b) w w') (ho : Own w' (fun b => v.ownBlock = some b ∨ Fresh w w' b) e size v' m ys) : Su w0 w' b p q A B (l.set i (rowOb e size v' m ys)) :=
  h.set hi k (fun _ _ => id) ho.self (fun x hx => (ho.blk hx).1) (fun x hx => (ho.blk hx).1) (fun _ => id)
end

/-- Both machines of a pair. -/
structure Du where
  x : Nat
  y : Nat
  Sx : Nat → Prop
  Sy : Nat → Prop
  A : Mc
  B : Mc
def duOb (p q : Nat) (d : Du) : Ob where
  P := fun w => MX w d.x p d.Sx d.A ∧ MR w d.y q d.Sy d.B ∧ ¬ d.Sx d.x ∧ ¬ d.Sx d.y ∧ ¬ d.Sy d.x ∧ ¬ d.Sy d.y ∧ d.x ≠ d.y
  F := fun b => b = d.x ∨ b = d.y ∨ d.Sx b ∨ d.Sy b
  W := fun b => b = d.x ∨ b = d.y
  fr := fun _ _ _ h k hd => ⟨h.1.keeps k (hd _ h.1.next.2.2 (.inl rfl)) (fun x hx hs => hd x hx (.inr (.inr (.inl hs)))), h.2.1.keeps k (hd _ h.2.1.next.2.2 (.inr (.inl rfl))) (fun x hx hs => hd x hx (.inr (.inr (.inr hs)))), h.2.2⟩

/-- A new machine of the program, made since wr, apart from Z. -/
def XNew (wr w : World) (Z : Nat → Prop) (p : Nat) (M : Mc) (mx : Nat) : Prop := ∃ S, MX w mx p S M ∧ ¬ S mx ∧ ∀ x, x = mx ∨ S x → Fresh wr w x ∧ ¬ Z x
/-- Both machines of a pair, made since wr, apart from Z. -/
def XYNew (wr w : World) (Z : Nat → Prop) (p q : Nat) (M : Mc) (mx my : Nat) : Prop := ∃ Sx Sy, (MX w mx p Sx M ∧ MR w my q Sy M ∧ ¬ Sx mx ∧ ¬ Sx my ∧ ¬ Sy mx ∧ ¬ Sy my ∧ mx ≠ my) ∧ ∀ x, x = mx ∨ x = my ∨ Sx x ∨ Sy x → Fresh wr w x ∧ ¬ Z x
section
variable {wr w w' : World} {Z N : Nat → Prop} {p q mx my : Nat} {M : Mc}
theorem Fresh.wide {x : Nat} (h : Fresh wr w x) (hs : w.heap.size ≤ w'.heap.size) : Fresh wr w' x := ⟨h.1, Nat.lt_of_lt_of_le h.2 hs⟩
theorem XNew.keeps (h : XNew wr w Z p M mx) (k : Keeps N w w') (hN : ∀ x, x < w.heap.size → N x → Z x) : XNew wr w' Z p M mx := by
  obtain ⟨S, h1, h2, h3⟩ := h
  exact ⟨S, h1.keeps k (fun hn => (h3 mx (.inl rfl)).2 (hN _ (h3 mx (.inl rfl)).1.2 hn)) (fun x hx hs hn => (h3 x (.inr hs)).2 (hN x hx hn)), h2, fun x hx => ⟨(h3 x hx).1.wide k.size, (h3 x hx).2⟩⟩
theorem XYNew.keeps (h : XYNew wr w Z p q M mx my) (k : Keeps N w w') (hN : ∀ x, x < w.heap.size → N x → Z x) : XYNew wr w' Z p q M mx my := by
  obtain ⟨S, T, ⟨h1, h2, h4⟩, h3⟩ := h
  exact ⟨S, T, ⟨h1.keeps k (fun hn => (h3 mx (.inl rfl)).2 (hN _ (h3 mx (.inl rfl)).1.2 hn)) (fun x hx hs hn => (h3 x (.inr (.inr (.inl hs)))).2 (hN x hx hn)), h2.keeps k (fun hn => (h3 my (.inr (.inl rfl))).2 (hN _ (h3 my (.inr (.inl rfl))).1.2 hn)) (fun x hx hs hn => (h3 x (.inr (.inr (.inr hs)))).2 (hN x hx hn)), h4⟩, fun x hx => ⟨(h3 x hx).1.wide k.size, (h3 x hx).2⟩⟩
theorem XNew.made (k : Keeps Nob wr w) (hf : Fresh w w' mx) (hX : MX w' mx p (fun x => Fresh w w' x ∧ x ≠ mx) M) (hZ : ∀ x, Z x → x < w.heap.size) : XNew wr w' Z p M mx :=
  ⟨_, hX, fun h => h.2 rfl, fun x hx => by
    have h1 : Fresh w w' x := by rcases hx with rfl | hx; exact hf; exact hx.1
    exact ⟨⟨Nat.le_trans k.size h1.1, h1.2⟩, fun hz => by have := hZ x hz; have := h1.1; omega⟩⟩
end

section
variable {w0 w w' : World} {b p q : Nat} {A B : Ar} {l : List Ob} {i : Nat} {d : Du}
theorem Su.stepX (h : Su w0 w b p q A B l) (hi : l[i]? = some (duOb p q d)) (hlow : d.A.low) : Calls Try.prog 15 #[pV d.x] w fun e w' => e = .returned (.bool (decide ((stepM A d.A).nx = .done))) ∧ ∃ S, Su w0 w' b p q A B (l.set i (duOb p q { d with A := stepM A d.A, Sx := S })) := by
  have hd := h.get hi
  obtain ⟨hx, hy, n1, n2, n3, n4, hne⟩ := hd
  have h0 := h
  obtain ⟨G, hJ, hF, _⟩ := h
  have hoff : ¬ G d.x := hF.off i _ hi _ (.inl rfl)
  refine (stepX_ hJ hoff hx n1 hlow).mono ?_
  rintro e w' ⟨rfl, ⟨S', hX, hsub⟩, hk⟩
  have l1 := hx.next.2.2
  have l2 := hy.next.2.2
  have hy' := hy.keeps hk (fun e => hne e.symm) (fun x _ hs e => n3 (e ▸ hs))
  refine ⟨rfl, S', h0.set hi hk (fun x _ e => .inl e) ⟨hX, hy', fun hs => ?_, fun hs => ?_, n3, n4, hne⟩ (fun x hx => ?_) (fun x hx => .inl hx) (fun x hx => hx.elim .inl (fun h => .inr (.inl h)))⟩
  · rcases hsub _ hs with h1 | h1
    · exact n1 h1
    · have := h1.1; simp only at this; omega
  · rcases hsub _ hs with h1 | h1
    · exact n2 h1
    · have := h1.1; simp only at this; omega
  · rcases hx with h1 | h1 | h1 | h1
    · exact .inl (.inl h1)
    · exact .inl (.inr (.inl h1))
    · rcases hsub _ h1 with h2 | h2
      · exact .inl (.inr (.inr (.inl h2)))
      · exact .inr h2
    · exact .inl (.inr (.inr (.inr h1)))
end

/-- Its counts are at most c. -/
def Mc.le (M : Mc) (c : Nat) : Prop := 0 ≤ M.again ∧ M.again ≤ c ∧ 0 ≤ M.right ∧ M.right ≤ c
theorem Mc.le.mono {M : Mc} {c d : Nat} (h : M.le c) (hd : c ≤ d) : M.le d := by unfold Mc.le at *; omega
theorem Mc.le.low {M : Mc} {c : Nat} (h : M.le c) (hc : c < 9223372036854775807) : M.low := by unfold Mc.le at h; unfold Mc.low; omega
theorem Mc.le.new (k : List UInt8) (v : Int) (c : Nat) : (Mc.new k v).le c := by unfold Mc.le Mc.new; simp
theorem Mc.le.step {M : Mc} {c : Nat} (A : Ar) (h : M.le c) : (stepM A M).le (c + 1) := by
  unfold Mc.le at *
  unfold stepM
  split
  · omega
  · unfold rootM; simp only; omega
  · split <;> (unfold latchM; simp only; omega)
  · split <;> (unfold headM; simp only; omega)
  · split <;> (unfold bodyM; simp only; omega)
  · split
    · unfold decideM
      split
      · simp only; omega
      split
      · simp only; omega
      split
      · simp only; omega
      split <;> (simp only; omega)
    · simp only; omega
end Go.Proofs.Ytbhohohgojcapaa
