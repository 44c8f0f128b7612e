/- Where a key is in a row, as such. -/
import Derived.Test.YtbhohohgojcapaaGreatTexts
namespace Go.Proofs.YtbhohohgojcapaaGreat
open Go.RowKit

/-- How many keys are below; is it there? -/
def below (l : List (List UInt8)) (k : List UInt8) : Nat := l.countP (fun x => decide (cmp x k < 0))
def has (l : List (List UInt8)) (k : List UInt8) : Bool := l.any (fun x => cmp x k == 0)
theorem below_le (l k) : below l k ≤ l.length := List.countP_le_length
theorem below_take (l : List (List UInt8)) (k : List UInt8) (n : Nat) : below (l.take n) k ≤ n := Nat.le_trans (below_le _ _) (List.length_take_le _ _)
theorem below_succ {l : List (List UInt8)} {k x : List UInt8} {n : Nat} (h : l[n]? = some x) : below (l.take (n + 1)) k = below (l.take n) k + if cmp x k < 0 then 1 else 0 := by
  rw [List.take_add_one, h]
  unfold below
  rw [List.countP_append]
  simp [List.countP_cons]
theorem has_succ {l : List (List UInt8)} {k x : List UInt8} {n : Nat} (h : l[n]? = some x) : has (l.take (n + 1)) k = (has (l.take n) k || cmp x k == 0) := by
  rw [List.take_add_one, h]
  unfold has
  rw [List.any_append]
  simp

end Go.Proofs.YtbhohohgojcapaaGreat
