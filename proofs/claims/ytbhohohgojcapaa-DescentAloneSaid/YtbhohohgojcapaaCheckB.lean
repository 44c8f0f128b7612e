/- node.innerForm. -/
import Derived.Test.YtbhohohgojcapaaCheckA
namespace Go.Proofs.Ytbhohohgojcapaa
open Go.RowKit Go.Maps

theorem take_snocC {α : Type} (l : List α) (k : Nat) (x : α) (h : l[k]? = some x) : l.take (k + 1) = l.take k ++ [x] := by
  rw [List.take_add_one, h]; rfl
/-- The map tells which numbers have been met. -/
def Met (D : DataW Unit) (l : List Int) : Prop := IsMap D ∧ ∀ x : Int, D.atKey (.int .i64 x) (.lit (.int .i64 0)) = .lit (.int .i64 (if x ∈ l then 1 else 0))
theorem Met.nil : Met (.map []) [] := ⟨isMap_empty, fun x => by simp; rfl⟩
theorem key_int (x : Int) : WideAt.IsKeyLit (.int .i64 x) := by simp [WideAt.IsKeyLit]
theorem Met.step {D : DataW Unit} {l : List Int} (h : Met D l) (x : Int) : Met (D.put (.int .i64 x) (.lit (.int .i64 1))) (l ++ [x]) := by
  refine ⟨h.1.put _ _, fun y => ?_⟩
  by_cases hy : y = x
  · subst hy
    rw [atKey_put_same h.1 (key_int y)]
    simp
  · rw [atKey_put_other (by intro e; injection e with _ e; exact hy e), h.2 y]
    simp [hy]
theorem nodup_snoc {l : List Int} {x : Int} (h : l.Nodup) (hx : x ∉ l) : (l ++ [x]).Nodup := by
  rw [List.nodup_append]
  refine ⟨h, by simp, fun a ha b hb => ?_⟩
  simp at hb; subst hb
  intro e; subst e; exact hx ha
theorem kidsFine_false {l : List Int} {nodes : Int} (h : ¬ (l.Nodup ∧ ∀ k ∈ l, 1 ≤ k ∧ k ≤ nodes)) : kidsFine l nodes = false := by
  cases hb : kidsFine l nodes with
  | false => rfl
  | true =>
    unfold kidsFine at hb
    simp only [Bool.and_eq_true, decide_eq_true_eq, List.all_eq_true] at hb
    exact absurd hb h
theorem kidsFine_true {l : List Int} {nodes : Int} (h1 : l.Nodup) (h2 : ∀ k ∈ l, 1 ≤ k ∧ k ≤ nodes) : kidsFine l nodes = true := by
  unfold kidsFine
  simp only [Bool.and_eq_true, decide_eq_true_eq, List.all_eq_true]
  exact ⟨h1, h2⟩

section
variable {S T : Nat → Prop} {w : World} {c0 c1 c2 c3 c4 c5 : Value} {n : Nd}

end
end Go.Proofs.Ytbhohohgojcapaa
