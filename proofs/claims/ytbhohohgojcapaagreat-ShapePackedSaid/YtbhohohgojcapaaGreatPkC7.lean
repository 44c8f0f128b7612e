import Derived.Test.YtbhohohgojcapaaGreatPkC1
import Derived.Test.YtbhohohgojcapaaGreatPkC6
import Derived.Test.YtbhohohgojcapaaGreatPkA0
namespace Go.Proofs.YtbhohohgojcapaaGreat
open Go.RowKit

/-- The document's arena, which nobody writes. -/
def arOb (M D : Nat → Prop) (q : Nat) (L : Value) (xs : List Value) (A : Ar) : Ob where
  P := fun w => DocW w M D q L xs A
  F := fun x => M x ∨ D x
  W := fun _ => False
  fr := fun _ _ _ h k hd => h.keeps k (fun x hx hm => hd x hx (.inl hm)) (fun x hx hm => hd x hx (.inr hm))
/-- A text in blocks of D. -/
def txOb (D : Nat → Prop) (v : Value) (l : List UInt8) : Ob where
  P := fun w => Byts w D v l
  F := D
  W := fun _ => False
  fr := fun _ _ _ h k hd => h.keeps k hd
/-- Texts in blocks of D. -/
def txsOb (D : Nat → Prop) (vs : List Value) (ls : List (List UInt8)) : Ob where
  P := fun w => vs.length = ls.length ∧ ∀ (i : Nat) u x, vs[i]? = some u → ls[i]? = some x → Byts w D u x
  F := D
  W := fun _ => False
  fr := fun _ _ _ h k hd => ⟨h.1, fun i u x hu hx => (h.2 i u x hu hx).keeps k hd⟩
/-- A chain in memory: its numbers' row, its lows' row, its lows. -/
def lvOb (F D : Nat → Prop) (Lv Lw : Value) (c : Ch) : Ob where
  P := fun w => Ints w F Lv (c.map Prod.fst) ∧ Txts w (fun x => F x ∨ D x) Lw (c.map Prod.snd)
  F := fun x => F x ∨ D x
  W := fun _ => False
  fr := fun _ _ _ h k hd => ⟨h.1.keeps k (fun x hx hf => hd x hx (.inl hf)), h.2.keeps k hd⟩
section
variable {w w' : World} {l : List Ob} {i n m size : Nat} {o : Ob} {e t : TypeId} {v v' : Value} {xs ys : List Value} {g : Nat} {cs : Array Value}
theorem Fam.nob0 (h : Fam w Nob l) (k : Keeps Nob w w') : Fam w' Nob l := h.nob k
theorem Fam.alloc' (h : Fam w Nob l) (hg : g = w.heap.size) : Fam (w.alloc (.cells cs t)) Nob (l ++ [muBlk g t cs]) := by
  subst hg
  exact h.add (Keeps.alloc _ _ _) (Blk.new _ _ _) (fun x hx => by rw [show x = w.heap.size from hx]; exact ⟨Nat.le_refl _, by simp⟩) (fun _ h => h)
/-- A new block takes a place. -/
theorem Fam.allocAt (h : Fam w Nob l) (hi : l[i]? = some o) (k : Keeps Nob w w') (hb : Blk w' g t cs) (hg : w.heap.size ≤ g) : Fam w' Nob (l.set i (muBlk g t cs)) :=
  h.wr hi k (fun _ _ h => h.elim) hb (fun x hx => .inr (by rw [show x = g from hx]; exact ⟨hg, hb.lt⟩)) (fun x hx => .inr (by rw [show x = g from hx]; exact ⟨hg, hb.lt⟩)) (fun _ h => h)
theorem Fam.nilRow (h : Fam w Nob l) (e : TypeId) (size : Nat) : Fam w Nob (l ++ [rowOb e size (.slice none 0 0) 0 []]) :=
  h.add (Keeps.refl _ _) (Own.nil _ _ _ _) (fun x hx => by cases hx) (fun _ h => h)
theorem Fam.addNo (h : Fam w Nob l) : Fam w Nob (l ++ [noOb]) := h.add (Keeps.refl _ _) trivial (fun x h => h.elim) (fun x h => h.elim)
theorem Fam.app0 (h : Fam w Nob l) (hi : l[i]? = some (rowOb e size v n xs)) (k : Keeps (fun b => v.ownBlock = some b) w w') (ho : Own w' (fun b => v.ownBlock = some b ∨ Fresh w w' b) e size v' m ys) : Fam w' Nob (l.set i (rowOb e size v' m ys)) :=
  h.wr hi k (fun _ _ h => h) ho.self (fun x hx => (ho.blk hx).1) (fun x hx => (ho.blk hx).1) (fun _ h => h)
/-- A block is written. -/
theorem Fam.setBlk {cs' : Array Value} (h : Fam w Nob l) (hi : l[i]? = some (muBlk g t cs)) (k : Keeps (fun x => x = g) w w') (hb : Blk w' g t cs') : Fam w' Nob (l.set i (muBlk g t cs')) :=
  h.wr hi k (fun x _ e => e) hb (fun x hx => .inl hx) (fun x hx => .inl hx) (fun _ h => h)
/-- What only reads takes another's place, of no wider footing. -/
theorem Fam.swap {o' : Ob} (h : Fam w Nob l) (hi : l[i]? = some o) (hP : o'.P w) (hF : ∀ x, o'.F x → o.F x) (hw : ∀ x, ¬ o'.W x) : Fam w Nob (l.set i o') :=
  h.wr hi (Keeps.refl Nob w) (fun _ _ h => h.elim) hP (fun x hx => .inl (hF x hx)) (fun x hx => absurd hx (hw x)) (fun x hx => absurd hx (hw x))
end
theorem DocW.mono_ {w : World} {M D : Nat → Prop} {q : Nat} {L : Value} {xs : List Value} {A : Ar} (h : DocW w M D q L xs A) {ix : Int} {s : Sl} (hg : A.get ix = some s) : ∃ i g o c : Nat, ix = (i : Int) + 1 ∧ i < A.sl.length ∧ A.sl.length ≤ 65536 ∧ L = .slice (some ⟨g, o, none⟩) A.sl.length c ∧ ∃ X1 k1 X3 k3 X4 k4 X5 k5,
    w.cell? ⟨g, o + i * 7 + 1, none⟩ = some (.int .i64 s.nd.lvl) ∧ w.cell? ⟨g, o + i * 7 + 2, none⟩ = some (.slice X1 s.nd.high.length k1) ∧ w.cell? ⟨g, o + i * 7 + 3, none⟩ = some (.int .i64 s.nd.right) ∧ w.cell? ⟨g, o + i * 7 + 4, none⟩ = some (.slice X3 s.nd.keys.length k3) ∧ w.cell? ⟨g, o + i * 7 + 5, none⟩ = some (.slice X4 s.nd.vals.length k4) ∧ w.cell? ⟨g, o + i * 7 + 6, none⟩ = some (.slice X5 s.nd.kids.length k5) ∧
    IsNd w D (.int .i64 s.nd.lvl) (.slice X1 s.nd.high.length k1) (.int .i64 s.nd.right) (.slice X3 s.nd.keys.length k3) (.slice X4 s.nd.vals.length k4) (.slice X5 s.nd.kids.length k5) s.nd := by
  obtain ⟨i, g, o, c, c0, c1, c2, c3, c4, c5, hid, hs, h3, hi, hl, hL, hm, hgb, hc0, hc1, hc2, hc3, hc4, hc5, hnd⟩ := h.nd_ hg
  obtain ⟨X1, k1, e1, _, _⟩ := hnd.1.high.form
  obtain ⟨X3, k3, e3, _, _⟩ := hnd.2.keys.form
  obtain ⟨X4, k4, e4, _, _⟩ := hnd.2.vals.form
  obtain ⟨X5, k5, e5, _, _⟩ := hnd.2.kids.form
  have e0 := hnd.1.lvl
  have e2 := hnd.1.right
  unfold iV at e0 e2
  subst e0 e1 e2 e3 e4 e5
  exact ⟨i, g, o, c, hid, hi, hl, hL, X1, k1, X3, k3, X4, k4, X5, k5, hc0, hc1, hc2, hc3, hc4, hc5, hnd⟩
end Go.Proofs.YtbhohohgojcapaaGreat

namespace Go.Proofs.YtbhohohgojcapaaGreat

inductive Walk where
  | nil
  | read (i : Nat) (r : Walk)
  | act (i : Nat) (r : Walk)
  | two (i : Nat) (r : Walk) (j : Nat) (s : Walk)
def Walk.len : Walk → Nat
  | .nil => 0
  | .read _ r => r.len + 1
  | .act _ r => r.len + 1
  | .two _ r _ s => max r.len s.len + 1
section
variable {P : Program} {ops : Array Oper} {Q : Exit → Act → World → Prop} {md : Region.Mode} {k : Nat} {C : World → Prop} {R : Act → World → Prop}

/-- What stands in which place behind it. -/
def putsA (a : Act) : List (Option Tmp × Value) → Act
  | [] => a
  | (d, v) :: l => putsA (a.put d v) l
theorem Oper.wp_cut {o : Oper} {a : Act} {w : World} {N K K' : Act → World → Prop} (hK : ∀ a w, K a w → K' a w) (h : o.wp P a w K (Behind Q N)) : o.wp P a w K' Q := by
  unfold Oper.wp at *
  generalize (execOp a.eval o).run P w = r at *
  cases r with
  | ok n w' =>
    cases n <;> simp only [Oper.upon] at h ⊢
    case value u => exact hK _ _ h
    case skip => exact hK _ _ h
    case defer d => exact hK _ _ h
    case enter f args =>
      refine Calls.mono h fun e w'' he => ?_
      cases e with
      | returned u => exact hK _ _ he
      | panicked c => exact he
      | outgrown => exact he
    case row row args => exact Rows.mono h fun u w'' he => hK _ _ he
  | halt x w' => cases x <;> simp only [Oper.upon] at h ⊢ <;> exact h
theorem wpList_behind {N : Act → World → Prop} (hN : ∀ a w, N a w → Q .normal a w) : ∀ (l : List Oper) (a : Act) (w : World), wpList P ops (Behind Q N) l a w → wpList P ops Q l a w
  | [], _, _, h => hN _ _ h
  | o :: rest, a, w, h => by
    simp only [wpList] at h ⊢
    split
    · rename_i hw
      rw [if_pos hw] at h
      rcases h with h | h
      · exact .inl (Oper.wp_cut (fun a w h => wpList_behind hN rest a w h) h)
      · exact .inr ⟨h.1, letsOut_behind h.2⟩
    · rename_i hw
      rw [if_neg hw] at h
      exact wpList_behind hN rest _ _ h
/-- What is left of a statement, apart from what follows it. -/
theorem wpList_cut {l : List Oper} {a : Act} {w : World} (vals : List (Option Tmp × Value)) (F : World → Prop) (h : wpList P ops (Behind Q (fun a' w' => a' = putsA a vals ∧ F w')) l a w) (he : ∀ w', F w' → Q .normal (putsA a vals) w') : wpList P ops Q l a w :=
  wpList_behind (fun a' w' ⟨e, hf⟩ => by rw [e]; exact he w' hf) l a w h
end
end Go.Proofs.YtbhohohgojcapaaGreat
