import Derived.Test.YtbhohohgojcapaaGreatPkC5
import Derived.Test.YtbhohohgojcapaaGreatPkA8
namespace Go.Proofs.YtbhohohgojcapaaGreat
open Go.RowKit
def Shr (G : Nat -> Prop) (w w' : World) : Nat -> Prop := λ x => G x /\ ¬ Fresh w w' x
section
variable {w w' : World} {G G' S N : Nat -> Prop} {b p q m a : Nat} {A B : Ar} {M : Mc} {t : TypeId} {nv : Nx -> Value}
theorem J.shr (h : J w G b p q A B) (k : Keeps N w w') (hN : ∀ x, x < w.heap.size -> G x -> ¬ N x) : J w' (Shr G w w') b p q A B :=
 h.enterN k hN (λ x hx hg => ⟨hg, λ hf => by have := hf.1; omega⟩) (λ x hx => ⟨h.new x (Nat.le_trans k.size hx), λ hf => by have := hf.2; omega⟩)
end
end Go.Proofs.YtbhohohgojcapaaGreat
namespace Go.Proofs.YtbhohohgojcapaaGreat
open Go.RowKit
structure Ob where
 P : World -> Prop
 F : Nat -> Prop
 W : Nat -> Prop
 fr : ∀ (w w' : World) (N : Nat -> Prop), P w -> Keeps N w w' -> (∀ x, x < w.heap.size -> F x -> ¬ N x) -> P w'
structure Fam (w : World) (G : Nat -> Prop) (l : List Ob) : Prop where
 ok : ∀ (i : Nat) o, l[i]? = some o -> o.P w
 old : ∀ (i : Nat) o, l[i]? = some o -> ∀ x, o.F x -> x < w.heap.size
 wf : ∀ (i : Nat) o, l[i]? = some o -> ∀ x, o.W x -> o.F x
 off : ∀ (i : Nat) o, l[i]? = some o -> ∀ x, o.F x -> ¬ G x
 apart : ∀ (i j : Nat) o u, l[i]? = some o -> l[j]? = some u -> i ≠ j -> ∀ x, o.W x -> ¬ u.F x
section
variable {w w' : World} {G G' N : Nat -> Prop} {l : List Ob} {o o' : Ob} {i : Nat}
theorem Fam.nil : Fam w G [] := ⟨λ i o h => by simp at h, λ i o h => by simp at h, λ i o h => by simp at h, λ i o h => by simp at h, λ i j o u h => by simp at h⟩
theorem Fam.keeps (h : Fam w G l) (k : Keeps N w w') (hN : ∀ (i : Nat) o, l[i]? = some o -> ∀ x, o.F x -> ¬ N x) (hg : ∀ x, G' x -> G x \/ w.heap.size <= x) : Fam w' G' l :=
 ⟨λ i o hi => o.fr _ _ _ (h.ok i o hi) k (λ x _ hx => hN i o hi x hx), λ i o hi x hx => Nat.lt_of_lt_of_le (h.old i o hi x hx) k.size, h.wf, λ i o hi x hx hg' => by
  rcases hg x hg' with h1 | h1
  ·exact h.off i o hi x hx h1
  ·have := h.old i o hi x hx; omega, h.apart⟩
theorem Fam.nob (h : Fam w G l) (k : Keeps Nob w w') : Fam w' G l := h.keeps k (λ _ _ _ _ _ => id) (λ _ => .inl)
theorem Fam.arena (h : Fam w G l) (k : Keeps G w w') : Fam w' G l := h.keeps k h.off (λ _ => .inl)
theorem Fam.sub (h : Fam w G l) (hg : ∀ x, G' x -> G x) : Fam w G' l := h.keeps (Keeps.refl Nob w) (λ _ _ _ _ _ => id) (λ x hx => .inl (hg x hx))
theorem Fam.set (h : Fam w G l) (hi : l[i]? = some o) (k : Keeps N w w') (hN : ∀ x, x < w.heap.size -> N x -> o.W x) (hP : o'.P w') (hF : ∀ x, o'.F x -> o.F x \/ Fresh w w' x) (hW : ∀ x, o'.W x -> o.W x \/ Fresh w w' x) (hWF : ∀ x, o'.W x -> o'.F x) : Fam w' (Shr G w w') (l.set i o') := by
 have hcase : ∀ (j : Nat) u, (l.set i o')[j]? = some u -> (j = i /\ u = o') \/ (j ≠ i /\ l[j]? = some u) := λ j u hj => by
  rw [List.getElem?_set] at hj
  by_cases e : i = j
  ·subst e
   rw [if_pos rfl] at hj
   split at hj
   ·cases hj; exact .inl ⟨rfl, rfl⟩
   ·cases hj
  ·rw [if_neg e] at hj
   exact .inr ⟨λ h => e h.symm, hj⟩
 refine ⟨λ j u hj => ?_, λ j u hj x hx => ?_, λ j u hj x hx => ?_, λ j u hj x hx hg => ?_, λ j j' u u' hj hj' hne x hx hx' => ?_⟩
 ·rcases hcase j u hj with ⟨rfl, rfl⟩ | ⟨hne, hj⟩
  ·exact hP
  ·exact u.fr _ _ _ (h.ok j u hj) k (λ x hs hx hn => h.apart i j o u hi hj (λ e => hne e.symm) x (hN x hs hn) hx)
 ·rcases hcase j u hj with ⟨rfl, rfl⟩ | ⟨hne, hj⟩
  ·rcases hF x hx with h1 | h1
   ·exact Nat.lt_of_lt_of_le (h.old _ o hi x h1) k.size
   ·exact h1.2
  ·exact Nat.lt_of_lt_of_le (h.old j u hj x hx) k.size
 ·rcases hcase j u hj with ⟨rfl, rfl⟩ | ⟨hne, hj⟩
  ·exact hWF x hx
  ·exact h.wf j u hj x hx
 ·rcases hcase j u hj with ⟨rfl, rfl⟩ | ⟨hne, hj⟩
  ·rcases hF x hx with h1 | h1
   ·exact h.off _ o hi x h1 hg.1
   ·exact hg.2 h1
  ·exact h.off j u hj x hx hg.1
 ·rcases hcase j u hj with ⟨rfl, rfl⟩ | ⟨hn1, hj1⟩
  ·rcases hcase j' u' hj' with ⟨rfl, rfl⟩ | ⟨hn2, hj2⟩
   ·exact hne rfl
   ·rcases hW x hx with h1 | h1
    ·exact h.apart _ j' o u' hi hj2 hne x h1 hx'
    ·have := h.old j' u' hj2 x hx'; have := h1.1; omega
  ·rcases hcase j' u' hj' with ⟨rfl, rfl⟩ | ⟨hn2, hj2⟩
   ·rcases hF x hx' with h1 | h1
    ·exact h.apart j _ u o hj1 hi hne x hx h1
    ·have := h.old j u hj1 x (h.wf j u hj1 x hx); have := h1.1; omega
   ·exact h.apart j j' u u' hj1 hj2 hne x hx hx'
theorem Fam.push (h : Fam w G l) (k : Keeps Nob w w') (hP : o.P w') (hF : ∀ x, o.F x -> Fresh w w' x) (hWF : ∀ x, o.W x -> o.F x) : Fam w' (Shr G w w') (l ++ [o]) := by
 have hcase : ∀ (j : Nat) u, (l ++ [o])[j]? = some u -> (j = l.length /\ u = o) \/ (j < l.length /\ l[j]? = some u) := λ j u hj => by
  by_cases e : j < l.length
  ·rw [List.getElem?_append_left e] at hj; exact .inr ⟨e, hj⟩
  ·rw [List.getElem?_append_right (by omega)] at hj
   rcases hh : j - l.length with _ | n
   ·rw [hh] at hj; simp only [List.getElem?_cons_zero, Option.some.injEq] at hj
    exact .inl ⟨by omega, hj.symm⟩
   ·rw [hh] at hj; simp at hj
 refine ⟨λ j u hj => ?_, λ j u hj x hx => ?_, λ j u hj x hx => ?_, λ j u hj x hx hg => ?_, λ j j' u u' hj hj' hne x hx hx' => ?_⟩
 ·rcases hcase j u hj with ⟨rfl, rfl⟩ | ⟨_, hj⟩
  ·exact hP
  ·exact u.fr _ _ _ (h.ok j u hj) k (λ _ _ _ => id)
 ·rcases hcase j u hj with ⟨rfl, rfl⟩ | ⟨_, hj⟩
  ·exact (hF x hx).2
  ·exact Nat.lt_of_lt_of_le (h.old j u hj x hx) k.size
 ·rcases hcase j u hj with ⟨rfl, rfl⟩ | ⟨_, hj⟩
  ·exact hWF x hx
  ·exact h.wf j u hj x hx
 ·rcases hcase j u hj with ⟨rfl, rfl⟩ | ⟨_, hj⟩
  ·exact hg.2 (hF x hx)
  ·exact h.off j u hj x hx hg.1
 ·rcases hcase j u hj with ⟨e1, rfl⟩ | ⟨_, hj1⟩
  ·rcases hcase j' u' hj' with ⟨e2, rfl⟩ | ⟨_, hj2⟩
   ·exact hne (by omega)
   ·have := h.old j' u' hj2 x hx'; have := (hF x (hWF x hx)).1; omega
  ·rcases hcase j' u' hj' with ⟨e2, rfl⟩ | ⟨_, hj2⟩
   ·have := h.old j u hj1 x (h.wf j u hj1 x hx); have := (hF x hx').1; omega
   ·exact h.apart j j' u u' hj1 hj2 hne x hx hx'
theorem Fam.snoc (h : Fam w G l) (hP : o.P w) (hlt : ∀ x, o.F x -> x < w.heap.size) (hG : ∀ x, o.F x -> ¬ G x) (hWF : ∀ x, o.W x -> o.F x) (ha : ∀ (j : Nat) u, l[j]? = some u -> (∀ x, o.W x -> ¬ u.F x) /\ ∀ x, u.W x -> ¬ o.F x) : Fam w G (l ++ [o]) := by
 have hcase : ∀ (j : Nat) u, (l ++ [o])[j]? = some u -> (j = l.length /\ u = o) \/ (j < l.length /\ l[j]? = some u) := λ j u hj => by
  by_cases e : j < l.length
  ·rw [List.getElem?_append_left e] at hj; exact .inr ⟨e, hj⟩
  ·rw [List.getElem?_append_right (by omega)] at hj
   rcases hh : j - l.length with _ | n
   ·rw [hh] at hj; simp only [List.getElem?_cons_zero, Option.some.injEq] at hj
    exact .inl ⟨by omega, hj.symm⟩
   ·rw [hh] at hj; simp at hj
 refine ⟨λ j u hj => ?_, λ j u hj x hx => ?_, λ j u hj x hx => ?_, λ j u hj x hx hg => ?_, λ j j' u u' hj hj' hne x hx hx' => ?_⟩
 ·rcases hcase j u hj with ⟨rfl, rfl⟩ | ⟨_, hj⟩
  ·exact hP
  ·exact h.ok j u hj
 ·rcases hcase j u hj with ⟨rfl, rfl⟩ | ⟨_, hj⟩
  ·exact hlt x hx
  ·exact h.old j u hj x hx
 ·rcases hcase j u hj with ⟨rfl, rfl⟩ | ⟨_, hj⟩
  ·exact hWF x hx
  ·exact h.wf j u hj x hx
 ·rcases hcase j u hj with ⟨rfl, rfl⟩ | ⟨_, hj⟩
  ·exact hG x hx hg
  ·exact h.off j u hj x hx hg
 ·rcases hcase j u hj with ⟨e1, rfl⟩ | ⟨_, hj1⟩
  ·rcases hcase j' u' hj' with ⟨e2, rfl⟩ | ⟨_, hj2⟩
   ·exact hne (by omega)
   ·exact (ha j' u' hj2).1 x hx hx'
  ·rcases hcase j' u' hj' with ⟨e2, rfl⟩ | ⟨_, hj2⟩
   ·exact (ha j u hj1).2 x hx hx'
   ·exact h.apart j j' u u' hj1 hj2 hne x hx hx'
end
def rowOb (e : TypeId) (size : Nat) (v : Value) (n : Nat) (xs : List Value) : Ob where
 P := λ w => Own w (λ b => v.ownBlock = some b) e size v n xs
 F := λ b => v.ownBlock = some b
 W := λ b => v.ownBlock = some b
 fr := λ _ _ _ h k hd => h.keeps k hd
section
variable {w w' w'' : World} {G : Nat -> Prop} {l : List Ob} {i n m size : Nat} {e : TypeId} {v v' : Value} {xs ys : List Value} {S : Nat -> Prop}
end
def blkOb (b : Nat) (t : TypeId) (cs : Array Value) : Ob where
 P := λ w => Blk w b t cs
 F := λ x => x = b
 W := λ _ => False
 fr := λ _ _ _ h k hd => h.keeps k (hd b h.lt rfl)
def muBlk (b : Nat) (t : TypeId) (cs : Array Value) : Ob where
 P := λ w => Blk w b t cs
 F := λ x => x = b
 W := λ x => x = b
 fr := λ _ _ _ h k hd => h.keeps k (hd b h.lt rfl)
def noOb : Ob where
 P := λ _ => True
 F := λ _ => False
 W := λ _ => False
 fr := λ _ _ _ h _ _ => h
section
variable {w w' : World} {G : Nat -> Prop} {l : List Ob} {i : Nat} {o a : Ob}
theorem Fam.share (h : Fam w G l) (hi : l[i]? = some a) (hW : ∀ x, ¬ a.W x) (hP : o.P w) (hF : ∀ x, o.F x -> a.F x) (hw : ∀ x, ¬ o.W x) : Fam w G (l ++ [o]) :=
 h.snoc hP (λ x hx => h.old i a hi x (hF x hx)) (λ x hx => h.off i a hi x (hF x hx)) (λ x hx => absurd hx (hw x)) (λ j u hj => ⟨λ x hx => absurd hx (hw x), λ x hx hx' => by
  by_cases e : j = i
  ·subst e
   rw [hi] at hj; cases hj
   exact hW x hx
  ·exact h.apart j i u a hj hi e x hx (hF x hx')⟩)
theorem Fam.wr {o' : Ob} {N : Nat -> Prop} (h : Fam w Nob l) (hi : l[i]? = some o) (k : Keeps N w w') (hN : ∀ x, x < w.heap.size -> N x -> o.W x) (hP : o'.P w') (hF : ∀ x, o'.F x -> o.F x \/ Fresh w w' x) (hW : ∀ x, o'.W x -> o.W x \/ Fresh w w' x) (hWF : ∀ x, o'.W x -> o'.F x) : Fam w' Nob (l.set i o') :=
 (h.set hi k hN hP hF hW hWF).sub (λ _ h => h.elim)
theorem Fam.add (h : Fam w Nob l) (k : Keeps Nob w w') (hP : o.P w') (hF : ∀ x, o.F x -> Fresh w w' x) (hWF : ∀ x, o.W x -> o.F x) : Fam w' Nob (l ++ [o]) :=
 (h.push k hP hF hWF).sub (λ _ h => h.elim)
end
def Su (w0 w : World) (b p q : Nat) (A B : Ar) (l : List Ob) : Prop :=
 ∃ G, J w G b p q A B /\ Fam w G l /\ (∀ x, G x -> w0.heap.size <= x) /\ (∀ (i : Nat) o, l[i]? = some o -> ∀ x, o.W x -> w0.heap.size <= x) /\ Keeps (From w0.heap.size) w0 w
section
variable {w0 w w' : World} {b p q : Nat} {A B A' B' : Ar} {l : List Ob} {o o' : Ob} {i : Nat} {N : Nat -> Prop}
theorem Su.kept (h : Su w0 w b p q A B l) : Keeps Nob w0 w := by
 obtain ⟨_, _, _, _, _, h⟩ := h
 exact h.mono (λ x hx hf => absurd hx (Nat.not_lt.2 hf))
theorem Su.size (h : Su w0 w b p q A B l) : w0.heap.size <= w.heap.size := h.kept.size
theorem Su.blk (h : Su w0 w b p q A B l) : Blk w b 47 #[pV p, pV q] := by
 obtain ⟨_, h, _⟩ := h; exact h.blk
theorem Su.get (h : Su w0 w b p q A B l) (hi : l[i]? = some o) : o.P w := by
 obtain ⟨_, _, h, _⟩ := h; exact h.ok i o hi
theorem Su.nob (h : Su w0 w b p q A B l) (k : Keeps Nob w w') : Su w0 w' b p q A B l := by
 obtain ⟨G, hJ, hF, hg, hw, hk⟩ := h
 exact ⟨G, hJ.nob k, hF.nob k, hg, hw, hk.trans k (λ _ _ h => h.elim)⟩
theorem Su.arena (h : Su w0 w b p q A B l) : ∃ G, J w G b p q A B /\ (∀ x, G x -> w0.heap.size <= x) /\ ∀ w' A' B', J w' G b p q A' B' -> Keeps G w w' -> Su w0 w' b p q A' B' l := by
 obtain ⟨G, hJ, hF, hg, hw, hk⟩ := h
 exact ⟨G, hJ, hg, λ w' A' B' hJ' k => ⟨G, hJ', hF.arena k, hg, hw, hk.trans k (λ x _ h => hg x h)⟩⟩
theorem Su.set (h : Su w0 w b p q A B l) (hi : l[i]? = some o) (k : Keeps N w w') (hN : ∀ x, x < w.heap.size -> N x -> o.W x) (hP : o'.P w') (hF : ∀ x, o'.F x -> o.F x \/ Fresh w w' x) (hW : ∀ x, o'.W x -> o.W x \/ Fresh w w' x) (hWF : ∀ x, o'.W x -> o'.F x) : Su w0 w' b p q A B (l.set i o') := by
 have hsz := h.size
 obtain ⟨G, hJ, hf, hg, hw, hk⟩ := h
 refine ⟨Shr G w w', hJ.shr k (λ x hx hgx hn => hf.off i o hi x (hf.wf i o hi x (hN x hx hn)) hgx), hf.set hi k hN hP hF hW hWF, λ x hx => hg x hx.1, λ j u hj x hx => ?_, hk.trans k (λ x hx hn => hw i o hi x (hN x (Nat.lt_of_lt_of_le hx hk.size) hn))⟩
 rw [List.getElem?_set] at hj
 by_cases e : i = j
 ·subst e
  rw [if_pos rfl] at hj
  split at hj
  ·cases hj
   rcases hW x hx with h1 | h1
   ·exact hw _ o hi x h1
   ·exact Nat.le_trans hsz h1.1
  ·cases hj
 ·rw [if_neg e] at hj
  exact hw j u hj x hx
theorem Su.put (h : Su w0 w b p q A B l) (hi : l[i]? = some o) (k : Keeps Nob w w') (hP : o'.P w') (hF : ∀ x, o'.F x -> Fresh w w' x) (hWF : ∀ x, o'.W x -> o'.F x) : Su w0 w' b p q A B (l.set i o') :=
 h.set hi k (λ _ _ h => h.elim) hP (λ x hx => .inr (hF x hx)) (λ x hx => .inr (hF x (hWF x hx))) hWF
theorem Su.push (h : Su w0 w b p q A B l) (k : Keeps Nob w w') (hP : o.P w') (hF : ∀ x, o.F x -> Fresh w w' x) (hWF : ∀ x, o.W x -> o.F x) : Su w0 w' b p q A B (l ++ [o]) := by
 have hsz := h.size
 obtain ⟨G, hJ, hf, hg, hw, hk⟩ := h
 refine ⟨Shr G w w', hJ.shr k (λ x hx hgx hn => hn), hf.push k hP hF hWF, λ x hx => hg x hx.1, λ j u hj x hx => ?_, hk.trans k (λ x hx hn => hn.elim)⟩
 by_cases e : j < l.length
 ·rw [List.getElem?_append_left e] at hj; exact hw j u hj x hx
 ·rw [List.getElem?_append_right (by omega)] at hj
  rcases hh : j - l.length with _ | n
  ·rw [hh] at hj; simp only [List.getElem?_cons_zero, Option.some.injEq] at hj
   subst hj
   exact Nat.le_trans hsz (hF x (hWF x hx)).1
  ·rw [hh] at hj; simp at hj
theorem Su.blkPut {g : Nat} {t : TypeId} {cs : Array Value} (h : Su w0 w b p q A B l) (hi : l[i]? = some o) (k : Keeps Nob w w') (hb : Blk w' g t cs) (hg : w.heap.size <= g) : Su w0 w' b p q A B (l.set i (blkOb g t cs)) :=
 h.put hi k hb (λ x hx => by rw [show x = g from hx]; exact ⟨hg, hb.lt⟩) (λ x hx => hx.elim)
theorem Su.app {n m size : Nat} {e : TypeId} {v v' : Value} {xs ys : List Value} (h : Su w0 w b p q A B l) (hi : l[i]? = some (rowOb e size v n xs)) (k : Keeps (λ b => v.ownBlock = some b) w w') (ho : Own w' (λ b => v.ownBlock = some b \/ Fresh w w' b) e size v' m ys) : Su w0 w' b p q A B (l.set i (rowOb e size v' m ys)) :=
 h.set hi k (λ _ _ => id) ho.self (λ x hx => (ho.blk hx).1) (λ x hx => (ho.blk hx).1) (λ _ => id)
end
structure Du where
 x : Nat
 y : Nat
 Sx : Nat -> Prop
 Sy : Nat -> Prop
 A : Mc
 B : Mc
section
variable {wr w w' : World} {Z N : Nat -> Prop} {p q mx my : Nat} {M : Mc}
end
section
variable {w0 w w' : World} {b p q : Nat} {A B : Ar} {l : List Ob} {i : Nat} {d : Du}
end
def Mc.le (M : Mc) (c : Nat) : Prop := 0 <= M.again /\ M.again <= c /\ 0 <= M.right /\ M.right <= c
theorem Mc.le.mono {M : Mc} {c d : Nat} (h : M.le c) (hd : c <= d) : M.le d := by unfold Mc.le at *; omega
theorem Mc.le.low {M : Mc} {c : Nat} (h : M.le c) (hc : c < 9223372036854775807) : M.low := by unfold Mc.le at h; unfold Mc.low; omega
theorem Mc.le.new (k : List UInt8) (v : Int) (c : Nat) : (Mc.new k v).le c := by unfold Mc.le Mc.new; simp
theorem Mc.le.step {M : Mc} {c : Nat} (A : Ar) (h : M.le c) : (stepM A M).le (c + 1) := by
 unfold Mc.le at *
 unfold stepM
 split
 ·omega
 ·unfold rootM; simp only; omega
 ·split <;> (unfold latchM; simp only; omega)
 ·split <;> (unfold headM; simp only; omega)
 ·split <;> (unfold bodyM; simp only; omega)
 ·split
  ·unfold decideM
   split
   ·simp only; omega
   split
   ·simp only; omega
   split
   ·simp only; omega
   split <;> (simp only; omega)
  ·simp only; omega
end Go.Proofs.YtbhohohgojcapaaGreat
