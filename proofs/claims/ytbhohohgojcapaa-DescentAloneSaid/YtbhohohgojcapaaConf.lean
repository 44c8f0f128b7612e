/- Config: the bounds, of the program and of the document. -/
import Derived.Test.YtbhohohgojcapaaBase
import Derived.BigQuiet
namespace Go.Proofs.Ytbhohohgojcapaa
open Go.RowKit

def confOk (c0 c1 c2 c3 c4 : Int) : Bool := decide (1 ≤ c0 ∧ c0 ≤ 65536) && (decide (2 ≤ c1 ∧ c1 ≤ 64) && (decide (3 ≤ c2 ∧ c2 ≤ 64) && (decide (1 ≤ c3 ∧ c3 ≤ c1) && decide (1 ≤ c4 ∧ c4 ≤ 64))))
def confE (c0 c1 c2 c3 c4 : Int) : Int := if confOk c0 c1 c2 c3 c4 then 0 else 1

set_option maxRecDepth 100000 in
set_option maxHeartbeats 1000000 in
theorem confR (c0 c1 c2 c3 c4 : Int) (w : World) : Calls Try.prog 74 #[.agg #[.int .i64 c0, .int .i64 c1, .int .i64 c2, .int .i64 c3, .int .i64 c4]] w fun e w' => e = .returned (.int .i64 (confE c0 c1 c2 c3 c4)) ∧ Keeps Nob w w' := by
  generalize hE : confE c0 c1 c2 c3 c4 = E
  have HE := Lib.hid hE
  clear hE
  go_enter Try.func74, Try.ntmps74
  go_wp2
  all_goals
    go_ret
    refine ⟨?_, Keeps.alloc _ _ _⟩
    rw [← HE.out]
    unfold confE confOk
    clear HE
    simp
    omega
end Go.Proofs.Ytbhohohgojcapaa
