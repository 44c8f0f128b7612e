import Derived.Test.YtbhohohgojcapaaPkA1
import Derived.Test.YtbhohohgojcapaaPkB4
namespace Go.Proofs.Ytbhohohgojcapaa
open Go.ChangeShapes Go.WideShapes Go.ChangeAt Go.RowKit
set_option maxRecDepth 100000

section
variable {H : Type} {enc : TypeId × Value → H} {w : World} {base : Nat} {spare : Nat → Bool} {held : Bool} {fuel : Nat} {cs : List Value} {x : DataW H × List MemPlace}

theorem open_u1 {v : Value} (h : DataW.trod enc Try.prog w base spare held fuel 31 [v] = some x) : ∃ n : Nat, v = .int .u64 n ∧ U64 n := by
  obtain ⟨n, e, _, hw⟩ := DataW.trod_int Try.underlying31 h
  injection e with e _
  obtain ⟨h1, h2⟩ := bounds_u64 hw
  obtain ⟨m, rfl⟩ : ∃ m : Nat, n = (m : Int) := ⟨n.toNat, by omega⟩
  exact ⟨m, e, by unfold U64; omega⟩
theorem open_b1 {v : Value} (h : DataW.trod enc Try.prog w base spare held fuel 4 [v] = some x) : ∃ b, v = .bool b := by
  obtain ⟨b, e, _⟩ := DataW.trod_bool Try.underlying4 h
  injection e with e _
  exact ⟨b, e⟩
theorem i64_of {n : Int} (h : I64_ n) : I64 n := bounds_i64 h

theorem list_of {P : Nat → OpM → Prop} : ∀ (n : Nat), (∀ i, i < n → ∃ x, P i x) → ∃ ls : List OpM, ls.length = n ∧ ∀ (i : Nat) x, ls[i]? = some x → P i x
  | 0, _ => ⟨[], rfl, fun i x h => by simp at h⟩
  | n + 1, h => by
    obtain ⟨ls, h2, h3⟩ := list_of n (fun i hi => h i (by omega))
    obtain ⟨x, hp⟩ := h n (by omega)
    refine ⟨ls ++ [x], by simp [h2], fun i y hy => ?_⟩
    by_cases hi : i < n
    · rw [List.getElem?_append_left (by omega)] at hy
      exact h3 i y hy
    · rw [List.getElem?_append_right (by omega)] at hy
      have e : i = n := by
        rcases hh : i - ls.length with _ | k
        · omega
        · rw [hh] at hy; simp at hy
      subst e
      rw [h2, Nat.sub_self] at hy
      cases hy
      exact hp

end
end Go.Proofs.Ytbhohohgojcapaa

namespace Go.Proofs.Ytbhohohgojcapaa
open Go.ChangeShapes Go.WideShapes Go.ChangeAt Go.RowKit
set_option maxRecDepth 100000

section
variable {H : Type} {enc : TypeId × Value → H} {w : World} {base : Nat} {spare : Nat → Bool} {held : Bool} {fuel : Nat} {cs : List Value} {x : DataW H × List MemPlace}

end
end Go.Proofs.Ytbhohohgojcapaa
