import Derived.Test.YtbhohohgojcapaaPkC2
import Derived.Test.YtbhohohgojcapaaPkC8
import Derived.Test.YtbhohohgojcapaaPkA0
import Derived.Test.YtbhohohgojcapaaPkC1
import Derived.BigQuiet
import Derived.Deep.Cut
namespace Go.Proofs.Ytbhohohgojcapaa
open Go.RowKit

section
variable {w w' : World} {l : List Ob} {i n m size : Nat} {o : Ob} {e t : TypeId} {v v' : Value} {xs ys : List Value} {g : Nat} {cs : Array Value}
theorem Fam.nob0 (h : Fam w Nob l) (k : Keeps Nob w w') : Fam w' Nob l := h.nob k
theorem Fam.alloc' (h : Fam w Nob l) (hg : g = w.heap.size) : Fam (w.alloc (.cells cs t)) Nob (l ++ [muBlk g t cs]) := by
  subst hg
  exact h.add (Keeps.alloc _ _ _) (Blk.new _ _ _) (fun x hx => by rw [show x = w.heap.size from hx]; exact ⟨Nat.le_refl _, by simp⟩) (fun _ h => h)
/-- A new block takes a place. -/
theorem Fam.allocAt (h : Fam w Nob l) (hi : l[i]? = some o) (k : Keeps Nob w w') (hb : Blk w' g t cs) (hg : w.heap.size ≤ g) : Fam w' Nob (l.set i (muBlk g t cs)) :=
  h.wr hi k (fun _ _ h => h.elim) hb (fun x hx => .inr (by rw [show x = g from hx]; exact ⟨hg, hb.lt⟩)) (fun x hx => .inr (by rw [show x = g from hx]; exact ⟨hg, hb.lt⟩)) (fun _ h => h)
theorem Fam.nilRow (h : Fam w Nob l) (e : TypeId) (size : Nat) : Fam w Nob (l ++ [rowOb e size (.slice none 0 0) 0 []]) :=
  h.add (Keeps.refl _ _) (Own.nil _ _ _ _) (fun x hx => by cases hx) (fun _ h => h)
theorem Fam.addNo (h : Fam w Nob l) : Fam w Nob (l ++ [noOb]) := h.add (Keeps.refl _ _) trivial (fun x h => h.elim) (fun x h => h.elim)
theorem Fam.app0 (h : Fam w Nob l) (hi : l[i]? = some (rowOb e size v n xs)) (k : Keeps (fun b => v.ownBlock = some b) w w') (ho : Own w' (fun b => v.ownBlock = some b ∨ Fresh w w' b) e size v' m ys) : Fam w' Nob (l.set i (rowOb e size v' m ys)) :=
  h.wr hi k (fun _ _ h => h) ho.self (fun x hx => (ho.blk hx).1) (fun x hx => (ho.blk hx).1) (fun _ h => h)
/-- A block is written. -/
theorem Fam.setBlk {cs' : Array Value} (h : Fam w Nob l) (hi : l[i]? = some (muBlk g t cs)) (k : Keeps (fun x => x = g) w w') (hb : Blk w' g t cs') : Fam w' Nob (l.set i (muBlk g t cs')) :=
  h.wr hi k (fun x _ e => e) hb (fun x hx => .inl hx) (fun x hx => .inl hx) (fun _ h => h)
/-- What only reads takes another's place, of no wider footing. -/
theorem Fam.swap {o' : Ob} (h : Fam w Nob l) (hi : l[i]? = some o) (hP : o'.P w) (hF : ∀ x, o'.F x → o.F x) (hw : ∀ x, ¬ o'.W x) : Fam w Nob (l.set i o') :=
  h.wr hi (Keeps.refl Nob w) (fun _ _ h => h.elim) hP (fun x hx => .inl (hF x hx)) (fun x hx => absurd hx (hw x)) (fun x hx => absurd hx (hw x))
end
theorem DocW.mono_ {w : World} {M D : Nat → Prop} {q : Nat} {L : Value} {xs : List Value} {A : Ar} (h : DocW w M D q L xs A) {ix : Int} {s : Sl} (hg : A.get ix = some s) : ∃ i g o c : Nat, ix = (i : Int) + 1 ∧ i < A.sl.length ∧ A.sl.length ≤ 65536 ∧ L = .slice (some ⟨g, o, none⟩) A.sl.length c ∧ ∃ X1 k1 X3 k3 X4 k4 X5 k5,
    w.cell? ⟨g, o + i * 7 + 1, none⟩ = some (.int .i64 s.nd.lvl) ∧ w.cell? ⟨g, o + i * 7 + 2, none⟩ = some (.slice X1 s.nd.high.length k1) ∧ w.cell? ⟨g, o + i * 7 + 3, none⟩ = some (.int .i64 s.nd.right) ∧ w.cell? ⟨g, o + i * 7 + 4, none⟩ = some (.slice X3 s.nd.keys.length k3) ∧ w.cell? ⟨g, o + i * 7 + 5, none⟩ = some (.slice X4 s.nd.vals.length k4) ∧ w.cell? ⟨g, o + i * 7 + 6, none⟩ = some (.slice X5 s.nd.kids.length k5) ∧
    IsNd w D (.int .i64 s.nd.lvl) (.slice X1 s.nd.high.length k1) (.int .i64 s.nd.right) (.slice X3 s.nd.keys.length k3) (.slice X4 s.nd.vals.length k4) (.slice X5 s.nd.kids.length k5) s.nd := by
  obtain ⟨i, g, o, c, c0, c1, c2, c3, c4, c5, hid, hs, h3, hi, hl, hL, hm, hgb, hc0, hc1, hc2, hc3, hc4, hc5, hnd⟩ := h.nd_ hg
  obtain ⟨X1, k1, e1, _, _⟩ := hnd.1.high.form
  obtain ⟨X3, k3, e3, _, _⟩ := hnd.2.keys.form
  obtain ⟨X4, k4, e4, _, _⟩ := hnd.2.vals.form
  obtain ⟨X5, k5, e5, _, _⟩ := hnd.2.kids.form
  have e0 := hnd.1.lvl
  have e2 := hnd.1.right
  unfold iV at e0 e2
  subst e0 e1 e2 e3 e4 e5
  exact ⟨i, g, o, c, hid, hi, hl, hL, X1, k1, X3, k3, X4, k4, X5, k5, hc0, hc1, hc2, hc3, hc4, hc5, hnd⟩
end Go.Proofs.Ytbhohohgojcapaa

namespace Go.Proofs.Ytbhohohgojcapaa

inductive Walk where
  | nil
  | read (i : Nat) (r : Walk)
  | act (i : Nat) (r : Walk)
  | two (i : Nat) (r : Walk) (j : Nat) (s : Walk)
def Walk.len : Walk → Nat
  | .nil => 0
  | .read _ r => r.len + 1
  | .act _ r => r.len + 1
  | .two _ r _ s => max r.len s.len + 1
section
variable {P : Program} {ops : Array Oper} {Q : Exit → Act → World → Prop} {md : Region.Mode} {k : Nat} {C : World → Prop} {R : Act → World → Prop}

/-- What stands in which place behind it. -/
def putsA (a : Act) : List (Option Tmp × Value) → Act
  | [] => a
  | (d, v) :: l => putsA (a.put d v) l
theorem Oper.wp_cut {o : Oper} {a : Act} {w : World} {N K K' : Act → World → Prop} (hK : ∀ a w, K a w → K' a w) (h : o.wp P a w K (Behind Q N)) : o.wp P a w K' Q := by
  unfold Oper.wp at *
  generalize (execOp a.eval o).run P w = r at *
  cases r with
  | ok n w' =>
    cases n <;> simp only [Oper.upon] at h ⊢
    case value u => exact hK _ _ h
    case skip => exact hK _ _ h
    case defer d => exact hK _ _ h
    case enter f args =>
      refine Calls.mono h fun e w'' he => ?_
      cases e with
      | returned u => exact hK _ _ he
      | panicked c => exact he
      | outgrown => exact he
    case row row args => exact Rows.mono h fun u w'' he => hK _ _ he
  | halt x w' => cases x <;> simp only [Oper.upon] at h ⊢ <;> exact h
end
end Go.Proofs.Ytbhohohgojcapaa

namespace Go.Proofs.Ytbhohohgojcapaa
open Go.RowKit

section
variable {P : Program} {ops : Array Oper} {Q : Exit → Act → World → Prop} {md : Region.Mode} {k : Nat} {C : World → Prop}
/-- An operation whose guard says no. -/
theorem wpCanon_skip {i : Nat} {rest : List Nat} {listed : Array Bool} {a : Act} {w : World} {o : Oper} (ho' : ops.toList[i]? = some o)
    (hr : early md ops k i o = true) (hw : Region.wanted o (yielded ops a.tmps) = false) (h : wpCanon P md ops Q k C rest (listed.setIfInBounds i true) (a.put o.dst undef) w) : wpCanon P md ops Q k C (i :: rest) listed a w := by
  have ho : ops[i]? = some o := by rw [← Array.getElem?_toList]; exact ho'
  simp only [wpCanon, ho]
  rw [if_pos hr]
  exact ⟨undef, .inr ⟨hw, rfl⟩, h⟩
end

section
variable {S T : Nat → Prop} {w : World} {a c0 c1 c2 c3 c4 c5 : Value} {n : Nd} {x : List UInt8}

end
end Go.Proofs.Ytbhohohgojcapaa

namespace Go.Proofs.Ytbhohohgojcapaa
open Go.RowKit

section
variable {S T : Nat → Prop} {w : World} {a c0 c1 c2 c3 c4 c5 : Value} {n : Nd} {x : List UInt8}

end
end Go.Proofs.Ytbhohohgojcapaa

namespace Go.Proofs.Ytbhohohgojcapaa
open Go.RowKit

section
variable {S T : Nat → Prop} {w : World} {a c0 c1 c2 c3 c4 c5 : Value} {n : Nd} {x : List UInt8}

end
end Go.Proofs.Ytbhohohgojcapaa

namespace Go.Proofs.Ytbhohohgojcapaa
open Go.RowKit

abbrev oL (b : Nat) (x y : Value) : Ob := muBlk b 79 #[x, y]
section
variable {w : World} {M D : Nat → Prop} {q : Nat} {L : Value} {xs : List Value} {A : Ar} {a0 a1 a2 a3 a4 first level : Int} {mv : Value} {met0 : List Int}
end
end Go.Proofs.Ytbhohohgojcapaa

namespace Go.Proofs.Ytbhohohgojcapaa
open Go.RowKit

/-- Of a node's first k kids: is each where it must be? -/
def kidsIn (down : Ch) (low : List UInt8) (n : Nd) (k : Nat) : Bool := (List.range k).all (fun k => kidOk down (n.kids.getD k 0) (wantLow low n k))
theorem kidsIn_succ {down : Ch} {low : List UInt8} {n : Nd} {k : Nat} : kidsIn down low n (k + 1) = (kidsIn down low n k && kidOk down (n.kids.getD k 0) (wantLow low n k)) := by
  unfold kidsIn
  rw [List.range_succ, List.all_append]
  simp
theorem kidsIn_not {down : Ch} {low : List UInt8} {n : Nd} {k : Nat} (hk : k < n.kids.length) (h : kidOk down (n.kids.getD k 0) (wantLow low n k) = false) : nodeKids down low n = false := by
  unfold nodeKids
  rw [List.all_eq_false]
  exact ⟨k, List.mem_range.2 hk, by rw [h]; decide⟩
theorem kidsM_drop {A : Ar} {down up : Ch} {i : Nat} {id : Int} {low : List UInt8} (h : up[i]? = some (id, low)) : kidsM A down (up.drop i) = if nodeKids down low (opNd A id) = true then kidsM A down (up.drop (i + 1)) else .wrong id 113 := by
  obtain ⟨hi, e⟩ := List.getElem?_eq_some_iff.1 h
  rw [List.drop_eq_getElem_cons hi, e]
  rfl
section
variable {w : World} {M D F F' : Nat → Prop} {q : Nat} {L : Value} {xs : List Value} {A : Ar} {up down : Ch} {Uv Uw Nv Nw : Value}
end
end Go.Proofs.Ytbhohohgojcapaa
