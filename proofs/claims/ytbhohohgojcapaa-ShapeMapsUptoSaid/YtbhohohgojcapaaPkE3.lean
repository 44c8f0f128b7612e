import Derived.Test.YtbhohohgojcapaaPkC9
namespace Go.Proofs.Ytbhohohgojcapaa
open Go.RowKit

/-- Objects in memory w, those that may be written made since w0; all that was there at w0 is kept. -/
structure Fo (w0 w : World) (l : List Ob) : Prop where
  fam : Fam w Nob l
  own : ∀ (i : Nat) o, l[i]? = some o → ∀ x, o.W x → w0.heap.size ≤ x
  kept : Keeps Nob w0 w
section
variable {w0 w w' : World} {l : List Ob} {i n m size g : Nat} {o o' : Ob} {e t : TypeId} {v v' : Value} {xs ys : List Value} {cs cs' : Array Value} {N : Nat → Prop}
theorem Fo.nil (w : World) : Fo w w [] := ⟨Fam.nil, fun i o h => by simp at h, Keeps.refl _ _⟩
theorem Fo.get (h : Fo w0 w l) (hi : l[i]? = some o) : o.P w := h.fam.ok i _ hi
theorem Fo.nob (h : Fo w0 w l) (k : Keeps Nob w w') : Fo w0 w' l := ⟨h.fam.nob k, h.own, h.kept.trans k (fun _ _ h => h)⟩
theorem Fo.wr (h : Fo w0 w l) (hi : l[i]? = some o) (k : Keeps N w w') (hN : ∀ x, x < w.heap.size → N x → o.W x) (hP : o'.P w') (hF : ∀ x, o'.F x → o.F x ∨ Fresh w w' x) (hW : ∀ x, o'.W x → o.W x ∨ Fresh w w' x) (hWF : ∀ x, o'.W x → o'.F x) : Fo w0 w' (l.set i o') := by
  refine ⟨h.fam.wr hi k hN hP hF hW hWF, fun j u hj x hx => ?_, h.kept.trans k (fun x hx hn => ?_)⟩
  · rw [List.getElem?_set] at hj
    split at hj
    · split at hj
      · cases hj
        rcases hW x hx with h1 | h1
        · exact h.own i _ hi x h1
        · exact Nat.le_trans h.kept.size h1.1
      · cases hj
    · exact h.own j u hj x hx
  · have h1 := h.own i _ hi x (hN x (Nat.lt_of_lt_of_le hx h.kept.size) hn)
    exact absurd hx (Nat.not_lt.2 h1)
theorem Fo.push (h : Fo w0 w l) (k : Keeps Nob w w') (hP : o.P w') (hF : ∀ x, o.F x → Fresh w w' x) (hWF : ∀ x, o.W x → o.F x) : Fo w0 w' (l ++ [o]) := by
  refine ⟨h.fam.add k hP hF hWF, fun j u hj x hx => ?_, h.kept.trans k (fun _ _ h => h)⟩
  rcases List.getElem?_append (l₁ := l) (l₂ := [o]) (i := j) ▸ hj with hj
  split at hj
  · exact h.own j u hj x hx
  · rcases hh : j - l.length with _ | r
    · rw [hh] at hj; simp at hj; subst hj
      exact Nat.le_trans h.kept.size (hF x (hWF x hx)).1
    · rw [hh] at hj; simp at hj
/-- A thing of another make takes a place. -/
theorem Fo.put (h : Fo w0 w l) (hi : l[i]? = some o) (k : Keeps Nob w w') (hP : o'.P w') (hF : ∀ x, o'.F x → Fresh w w' x) (hWF : ∀ x, o'.W x → o'.F x) : Fo w0 w' (l.set i o') :=
  h.wr hi k (fun _ _ h => h.elim) hP (fun x hx => .inr (hF x hx)) (fun x hx => .inr (hF x (hWF x hx))) hWF
theorem Fo.no (h : Fo w0 w l) : Fo w0 w (l ++ [noOb]) := h.push (Keeps.refl _ _) trivial (fun x h => h.elim) (fun x h => h.elim)
theorem Fo.nilRow (h : Fo w0 w l) (e : TypeId) (size : Nat) : Fo w0 w (l ++ [rowOb e size (.slice none 0 0) 0 []]) :=
  h.push (Keeps.refl _ _) (Own.nil _ _ _ _) (fun x hx => by cases hx) (fun x h => h)
theorem Fo.blkPut (h : Fo w0 w l) (hi : l[i]? = some o) (k : Keeps Nob w w') (hb : Blk w' g t cs) (hg : w.heap.size ≤ g) : Fo w0 w' (l.set i (muBlk g t cs)) :=
  h.put hi k hb (fun x hx => by rw [show x = g from hx]; exact ⟨hg, hb.lt⟩) (fun _ h => h)
theorem Fo.blkSet (h : Fo w0 w l) (hi : l[i]? = some (muBlk g t cs)) (k : Keeps (fun x => x = g) w w') (hb : Blk w' g t cs') : Fo w0 w' (l.set i (muBlk g t cs')) :=
  h.wr hi k (fun x _ e => e) hb (fun x hx => .inl hx) (fun x hx => .inl hx) (fun _ h => h)
theorem Fo.app (h : Fo w0 w l) (hi : l[i]? = some (rowOb e size v n xs)) (k : Keeps (fun b => v.ownBlock = some b) w w') (ho : Own w' (fun b => v.ownBlock = some b ∨ Fresh w w' b) e size v' m ys) : Fo w0 w' (l.set i (rowOb e size v' m ys)) :=
  h.wr hi k (fun _ _ h => h) ho.self (fun x hx => (ho.blk hx).1) (fun x hx => (ho.blk hx).1) (fun _ h => h)
/-- What only reads grows by what is new. -/
theorem Fo.grow (h : Fo w0 w l) (hi : l[i]? = some o) (k : Keeps Nob w w') (hP : o'.P w') (hF : ∀ x, o'.F x → o.F x ∨ Fresh w w' x) (hW : ∀ x, ¬ o'.W x) : Fo w0 w' (l.set i o') :=
  h.wr hi k (fun _ _ h => h.elim) hP hF (fun x hx => absurd hx (hW x)) (fun x hx => absurd hx (hW x))
theorem Fo.drop (h : Fo w0 w l) (hi : l[i]? = some o) : Fo w0 w (l.set i noOb) :=
  h.put hi (Keeps.refl _ _) trivial (fun x h => h.elim) (fun x h => h.elim)
end
end Go.Proofs.Ytbhohohgojcapaa
