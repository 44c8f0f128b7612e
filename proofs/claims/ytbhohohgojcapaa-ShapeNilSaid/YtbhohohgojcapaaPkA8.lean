import Derived.Test.YtbhohohgojcapaaPkA7
import Derived.Test.YtbhohohgojcapaaPkA0
namespace Go.Proofs.Ytbhohohgojcapaa
open Go.RowKit

/-- Do the keys rise? -/
def Rise (l : List (List UInt8)) : Prop := ∀ (j : Nat) a b, l[j]? = some a → l[j + 1]? = some b → cmp a b < 0
def rises : List (List UInt8) → Bool
  | [] => true
  | [_] => true
  | a :: b :: l => decide (cmp a b < 0) && rises (b :: l)
theorem rises_iff : ∀ (l : List (List UInt8)), rises l = true ↔ Rise l
  | [] => ⟨fun _ j a b h => by simp at h, fun _ => rfl⟩
  | [_] => ⟨fun _ j a b _ h => by simp at h, fun _ => rfl⟩
  | a :: b :: l => by
    unfold rises
    rw [Bool.and_eq_true, decide_eq_true_eq, rises_iff (b :: l)]
    constructor
    · rintro ⟨h1, h2⟩ j x y hx hy
      cases j with
      | zero => simp at hx hy; subst hx hy; exact h1
      | succ j => exact h2 j x y (by simpa using hx) (by simpa using hy)
    · intro h
      exact ⟨h 0 a b rfl rfl, fun j x y hx hy => h (j + 1) x y (by simpa using hx) (by simpa using hy)⟩

section
variable {S T : Nat → Prop} {w : World} {a : Value} {ls : List (List UInt8)}

/-- Is a node right? -/
def right (n : Nd) : Bool := if n.lvl = 0 then rises n.keys && (decide (n.vals.length = n.keys.length) && decide (n.kids.length = 0)) else rises n.keys && (decide (0 < n.lvl) && (decide (n.vals.length = 0) && decide (n.kids.length = n.keys.length + 1)))
def leaf (n : Nd) : Bool := right n && decide (n.lvl = 0)
def inner (n : Nd) : Bool := right n && decide (0 < n.lvl)
variable {c0 c1 c2 c3 c4 c5 : Value} {n : Nd}

end
end Go.Proofs.Ytbhohohgojcapaa
