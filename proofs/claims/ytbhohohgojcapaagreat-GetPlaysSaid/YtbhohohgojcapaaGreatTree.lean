/- A statement whose order Go leaves open, walked as a tree: what only reads is taken as soon as it may come; where two that act may come, both ways are walked; all ways end in R. No condition. -/
import Derived.Test.YtbhohohgojcapaaGreatBase
namespace Go.Proofs.YtbhohohgojcapaaGreat

inductive Walk where
  | nil
  | read (i : Nat) (r : Walk)
  | act (i : Nat) (r : Walk)
  | two (i : Nat) (r : Walk) (j : Nat) (s : Walk)
def Walk.len : Walk → Nat
  | .nil => 0
  | .read _ r => r.len + 1
  | .act _ r => r.len + 1
  | .two _ r _ s => max r.len s.len + 1
/-- Reads, one behind the other. -/
def Walk.reads : List Nat → Walk → Walk
  | [], r => r
  | i :: l, r => .read i (Walk.reads l r)

section
variable {P : Program} {ops : Array Oper} {Q : Exit → Act → World → Prop} {md : Region.Mode} {k : Nat} {C : World → Prop} {R : Act → World → Prop}

/-- What stands in which place behind it. -/
def putsA (a : Act) : List (Option Tmp × Value) → Act
  | [] => a
  | (d, v) :: l => putsA (a.put d v) l
theorem wpOp_behind {i : Nat} {a : Act} {w : World} {o : Oper} {K : Act → World → Prop} (ho' : ops.toList[i]? = some o) (h : wpList P ops (Behind Q K) [o] a w) : wpOp P ops Q i K a w := by
  have ho : ops[i]? = some o := by rw [← Array.getElem?_toList]; exact ho'
  simp only [wpList] at h
  unfold wpOp
  simp only [ho]
  split
  · rename_i hw
    rw [if_pos hw] at h
    rcases h with h | h
    · exact .inl (Oper.wp_behind h)
    · exact .inr ⟨h.1, letsOut_behind h.2⟩
  · rename_i hw
    rw [if_neg hw] at h
    exact h

end
end Go.Proofs.YtbhohohgojcapaaGreat
