import Derived.Test.YtbhohohgojcapaaPkA0
namespace Go.Proofs.Ytbhohohgojcapaa

inductive Walk where
  | nil
  | read (i : Nat) (r : Walk)
  | act (i : Nat) (r : Walk)
  | two (i : Nat) (r : Walk) (j : Nat) (s : Walk)
def Walk.len : Walk → Nat
  | .nil => 0
  | .read _ r => r.len + 1
  | .act _ r => r.len + 1
  | .two _ r _ s => max r.len s.len + 1
section
variable {P : Program} {ops : Array Oper} {Q : Exit → Act → World → Prop} {md : Region.Mode} {k : Nat} {C : World → Prop} {R : Act → World → Prop}

/-- What stands in which place behind it. -/
def putsA (a : Act) : List (Option Tmp × Value) → Act
  | [] => a
  | (d, v) :: l => putsA (a.put d v) l
theorem Oper.wp_cut {o : Oper} {a : Act} {w : World} {N K K' : Act → World → Prop} (hK : ∀ a w, K a w → K' a w) (h : o.wp P a w K (Behind Q N)) : o.wp P a w K' Q := by
  unfold Oper.wp at *
  generalize (execOp a.eval o).run P w = r at *
  cases r with
  | ok n w' =>
    cases n <;> simp only [Oper.upon] at h ⊢
    case value u => exact hK _ _ h
    case skip => exact hK _ _ h
    case defer d => exact hK _ _ h
    case enter f args =>
      refine Calls.mono h fun e w'' he => ?_
      cases e with
      | returned u => exact hK _ _ he
      | panicked c => exact he
      | outgrown => exact he
    case row row args => exact Rows.mono h fun u w'' he => hK _ _ he
  | halt x w' => cases x <;> simp only [Oper.upon] at h ⊢ <;> exact h
end
end Go.Proofs.Ytbhohohgojcapaa
