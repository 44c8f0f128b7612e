/- How keys stand in a row that rises. -/
import Derived.Test.YtbhohohgojcapaaTexts
import Derived.Test.YtbhohohgojcapaaRight
import Derived.Test.YtbhohohgojcapaaFindM
namespace Go.Proofs.Ytbhohohgojcapaa
open Go.RowKit

theorem cmp_cons (x y : UInt8) (l m : List UInt8) : cmp (x :: l) (y :: m) = if x < y then -1 else if y < x then 1 else cmp l m := by
  show Lib.compareBytes (x :: l) (y :: m) = _
  conv => lhs; unfold Lib.compareBytes
theorem cmp_lt_trans : ∀ (a b c : List UInt8), cmp a b < 0 → cmp b c < 0 → cmp a c < 0
  | [], [], _, h, _ => absurd h (by decide)
  | [], _ :: _, [], _, h => absurd h (by show ¬ (1 : Int) < 0; decide)
  | [], _ :: _, _ :: _, _, _ => by show (-1 : Int) < 0; decide
  | _ :: _, [], _, h, _ => absurd h (by show ¬ (1 : Int) < 0; decide)
  | _ :: _, _ :: _, [], _, h => absurd h (by show ¬ (1 : Int) < 0; decide)
  | x :: a, y :: b, z :: c, h1, h2 => by
    rw [cmp_cons] at h1 h2 ⊢
    by_cases hxy : x < y
    · by_cases hyz : y < z
      · rw [if_pos (UInt8.lt_trans hxy hyz)]; decide
      · rw [if_neg hyz] at h2
        by_cases hzy : z < y
        · rw [if_pos hzy] at h2; exact absurd h2 (by decide)
        · have : y = z := UInt8.le_antisymm (UInt8.not_lt.1 hzy) (UInt8.not_lt.1 hyz)
          subst this
          rw [if_pos hxy]; decide
    · rw [if_neg hxy] at h1
      by_cases hyx : y < x
      · rw [if_pos hyx] at h1; exact absurd h1 (by decide)
      · have : x = y := UInt8.le_antisymm (UInt8.not_lt.1 hyx) (UInt8.not_lt.1 hxy)
        subst this
        rw [if_neg hyx] at h1
        by_cases hxz : x < z
        · rw [if_pos hxz]; decide
        · rw [if_neg hxz] at h2 ⊢
          by_cases hzx : z < x
          · rw [if_pos hzx] at h2; exact absurd h2 (by decide)
          · rw [if_neg hzx] at h2 ⊢
            exact cmp_lt_trans a b c h1 h2
theorem rise_lt {l : List (List UInt8)} (h : Rise l) (i : Nat) {a : List UInt8} (ha : l[i]? = some a) : ∀ (d : Nat) b, l[i + 1 + d]? = some b → cmp a b < 0
  | 0, b, hb => h i a b ha hb
  | d + 1, b, hb => by
    have hlt : i + 1 + d < l.length := by have := (List.getElem?_eq_some_iff.1 hb).1; omega
    have hc : l[i + 1 + d]? = some l[i + 1 + d] := List.getElem?_eq_getElem hlt
    exact cmp_lt_trans _ _ _ (rise_lt h i ha d _ hc) (h (i + 1 + d) _ _ hc (by rw [← hb]; congr 1))
theorem rise_lt' {l : List (List UInt8)} (h : Rise l) {i j : Nat} {a b : List UInt8} (hij : i < j) (ha : l[i]? = some a) (hb : l[j]? = some b) : cmp a b < 0 :=
  rise_lt h i ha (j - (i + 1)) b (by rw [show i + 1 + (j - (i + 1)) = j by omega]; exact hb)

end Go.Proofs.Ytbhohohgojcapaa
