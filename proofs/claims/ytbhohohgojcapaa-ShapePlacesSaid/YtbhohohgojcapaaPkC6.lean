import Derived.Test.YtbhohohgojcapaaPkC0
import Derived.Test.YtbhohohgojcapaaPkC5
namespace Go.Proofs.Ytbhohohgojcapaa
open Go.RowKit

section
variable {w w' : World} {l : List Ob} {i n m size : Nat} {o : Ob} {e t : TypeId} {v v' : Value} {xs ys : List Value} {g : Nat} {cs : Array Value}
theorem Fam.nob0 (h : Fam w Nob l) (k : Keeps Nob w w') : Fam w' Nob l := h.nob k
theorem Fam.alloc' (h : Fam w Nob l) (hg : g = w.heap.size) : Fam (w.alloc (.cells cs t)) Nob (l ++ [muBlk g t cs]) := by
  subst hg
  exact h.add (Keeps.alloc _ _ _) (Blk.new _ _ _) (fun x hx => by rw [show x = w.heap.size from hx]; exact ⟨Nat.le_refl _, by simp⟩) (fun _ h => h)
/-- A new block takes a place. -/
theorem Fam.allocAt (h : Fam w Nob l) (hi : l[i]? = some o) (k : Keeps Nob w w') (hb : Blk w' g t cs) (hg : w.heap.size ≤ g) : Fam w' Nob (l.set i (muBlk g t cs)) :=
  h.wr hi k (fun _ _ h => h.elim) hb (fun x hx => .inr (by rw [show x = g from hx]; exact ⟨hg, hb.lt⟩)) (fun x hx => .inr (by rw [show x = g from hx]; exact ⟨hg, hb.lt⟩)) (fun _ h => h)
theorem Fam.nilRow (h : Fam w Nob l) (e : TypeId) (size : Nat) : Fam w Nob (l ++ [rowOb e size (.slice none 0 0) 0 []]) :=
  h.add (Keeps.refl _ _) (Own.nil _ _ _ _) (fun x hx => by cases hx) (fun _ h => h)
theorem Fam.addNo (h : Fam w Nob l) : Fam w Nob (l ++ [noOb]) := h.add (Keeps.refl _ _) trivial (fun x h => h.elim) (fun x h => h.elim)
theorem Fam.app0 (h : Fam w Nob l) (hi : l[i]? = some (rowOb e size v n xs)) (k : Keeps (fun b => v.ownBlock = some b) w w') (ho : Own w' (fun b => v.ownBlock = some b ∨ Fresh w w' b) e size v' m ys) : Fam w' Nob (l.set i (rowOb e size v' m ys)) :=
  h.wr hi k (fun _ _ h => h) ho.self (fun x hx => (ho.blk hx).1) (fun x hx => (ho.blk hx).1) (fun _ h => h)
/-- A block is written. -/
theorem Fam.setBlk {cs' : Array Value} (h : Fam w Nob l) (hi : l[i]? = some (muBlk g t cs)) (k : Keeps (fun x => x = g) w w') (hb : Blk w' g t cs') : Fam w' Nob (l.set i (muBlk g t cs')) :=
  h.wr hi k (fun x _ e => e) hb (fun x hx => .inl hx) (fun x hx => .inl hx) (fun _ h => h)
/-- What only reads takes another's place, of no wider footing. -/
theorem Fam.swap {o' : Ob} (h : Fam w Nob l) (hi : l[i]? = some o) (hP : o'.P w) (hF : ∀ x, o'.F x → o.F x) (hw : ∀ x, ¬ o'.W x) : Fam w Nob (l.set i o') :=
  h.wr hi (Keeps.refl Nob w) (fun _ _ h => h.elim) hP (fun x hx => .inl (hF x hx)) (fun x hx => absurd hx (hw x)) (fun x hx => absurd hx (hw x))
end
end Go.Proofs.Ytbhohohgojcapaa
