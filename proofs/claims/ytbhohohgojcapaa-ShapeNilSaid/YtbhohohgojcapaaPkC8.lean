import Derived.Test.YtbhohohgojcapaaPkC4
import Derived.BigQuiet
namespace Go.Proofs.Ytbhohohgojcapaa
open Go.RowKit

/-- Of a node's first k kids: is each where it must be? -/
def kidsIn (down : Ch) (low : List UInt8) (n : Nd) (k : Nat) : Bool := (List.range k).all (fun k => kidOk down (n.kids.getD k 0) (wantLow low n k))
theorem kidsIn_succ {down : Ch} {low : List UInt8} {n : Nd} {k : Nat} : kidsIn down low n (k + 1) = (kidsIn down low n k && kidOk down (n.kids.getD k 0) (wantLow low n k)) := by
  unfold kidsIn
  rw [List.range_succ, List.all_append]
  simp
theorem kidsIn_not {down : Ch} {low : List UInt8} {n : Nd} {k : Nat} (hk : k < n.kids.length) (h : kidOk down (n.kids.getD k 0) (wantLow low n k) = false) : nodeKids down low n = false := by
  unfold nodeKids
  rw [List.all_eq_false]
  exact ⟨k, List.mem_range.2 hk, by rw [h]; decide⟩
theorem kidsM_drop {A : Ar} {down up : Ch} {i : Nat} {id : Int} {low : List UInt8} (h : up[i]? = some (id, low)) : kidsM A down (up.drop i) = if nodeKids down low (opNd A id) = true then kidsM A down (up.drop (i + 1)) else .wrong id 113 := by
  obtain ⟨hi, e⟩ := List.getElem?_eq_some_iff.1 h
  rw [List.drop_eq_getElem_cons hi, e]
  rfl
section
variable {w : World} {M D F F' : Nat → Prop} {q : Nat} {L : Value} {xs : List Value} {A : Ar} {up down : Ch} {Uv Uw Nv Nw : Value}
end
end Go.Proofs.Ytbhohohgojcapaa
