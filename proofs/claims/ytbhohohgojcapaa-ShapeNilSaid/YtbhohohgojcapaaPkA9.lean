import Derived.Test.YtbhohohgojcapaaPkA0
import Derived.BigQuiet
namespace Go.Proofs.Ytbhohohgojcapaa
open Go.RowKit

def confOk (c0 c1 c2 c3 c4 : Int) : Bool := decide (1 ≤ c0 ∧ c0 ≤ 65536) && (decide (2 ≤ c1 ∧ c1 ≤ 64) && (decide (3 ≤ c2 ∧ c2 ≤ 64) && (decide (1 ≤ c3 ∧ c3 ≤ c1) && decide (1 ≤ c4 ∧ c4 ≤ 64))))
def confE (c0 c1 c2 c3 c4 : Int) : Int := if confOk c0 c1 c2 c3 c4 then 0 else 1

theorem betweenP (n lo hi : Int) (w : World) : Calls Try.prog 121 #[.int .i64 n, .int .i64 lo, .int .i64 hi] w fun e w' => e = .returned (.bool (decide (lo ≤ n ∧ n ≤ hi))) ∧ w' = w := by
  by_cases h1 : lo ≤ n
  · by_cases h2 : n ≤ hi
    · go_enter Try.func121, Try.ntmps121
      go_wp2
      go_ret
      exact ⟨by simp [h1, h2], rfl⟩
    · go_enter Try.func121, Try.ntmps121
      go_wp2
      go_ret
      exact ⟨by simp [h1, h2], rfl⟩
  · go_enter Try.func121, Try.ntmps121
    go_wp2
    go_ret
    exact ⟨by simp; intro _; omega, rfl⟩

set_option maxRecDepth 100000 in
set_option maxHeartbeats 1000000 in
theorem confP (c0 c1 c2 c3 c4 : Int) (w : World) : Calls Try.prog 104 #[.agg #[.int .i64 c0, .int .i64 c1, .int .i64 c2, .int .i64 c3, .int .i64 c4]] w fun e w' => e = .returned (.int .i64 (confE c0 c1 c2 c3 c4)) ∧ Keeps Nob w w' := by
  unfold confE confOk
  generalize h0 : decide (1 ≤ c0 ∧ c0 ≤ 65536) = b0
  generalize h1 : decide (2 ≤ c1 ∧ c1 ≤ 64) = b1
  generalize h2 : decide (3 ≤ c2 ∧ c2 ≤ 64) = b2
  generalize h3 : decide (1 ≤ c3 ∧ c3 ≤ c1) = b3
  generalize h4 : decide (1 ≤ c4 ∧ c4 ≤ 64) = b4
  have H0 := Lib.hid h0
  have H1 := Lib.hid h1
  have H2 := Lib.hid h2
  have H3 := Lib.hid h3
  have H4 := Lib.hid h4
  clear h0 h1 h2 h3 h4
  cases b0 <;> cases b1 <;> cases b2 <;> cases b3 <;> cases b4
  all_goals
    go_enter Try.func104, Try.ntmps104
    go_wp2_with (go_at_call 121; refine (betweenP _ _ _ _).mono ?_; rintro e w1 ⟨rfl, rfl⟩; (first | rw [H0.out] | rw [H1.out] | rw [H2.out] | rw [H3.out] | rw [H4.out]))
    go_ret
    exact ⟨rfl, Keeps.alloc _ _ _⟩

end Go.Proofs.Ytbhohohgojcapaa
