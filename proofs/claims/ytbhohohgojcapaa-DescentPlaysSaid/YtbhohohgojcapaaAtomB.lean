/- What CompareAndSwap and Add of sync/atomic's Uint64 and Int64 do to the one cell behind their receiver. Asked: the cell is there and is not frozen. -/
import Derived.Test.YtbhohohgojcapaaAtom
namespace Go.Proofs.Ytbhohohgojcapaa
open Go.RowKit

section
variable {a : Addr} {x y o : Int} {w : World}

theorem ext_casU1 (hc : w.cell? a = some (.int .u64 x)) (hz : w.frozen? a = false) : (callFunc 126 #[.pointer (some a), .int .u64 x, .int .u64 y]).run Try.prog w = .ok (.value (.bool true)) (w.setCell a (.int .u64 y)) :=
  run_call_cas_hit (fn := Try.f126) (by kernel_rfl) (by kernel_rfl) (by kernel_rfl) (by kernel_rfl) .u64 (by kernel_rfl) hc hz
theorem ext_casU0 (hc : w.cell? a = some (.int .u64 x)) (hz : w.frozen? a = false) (hne : ¬ x = o) : (callFunc 126 #[.pointer (some a), .int .u64 o, .int .u64 y]).run Try.prog w = .ok (.value (.bool false)) w :=
  run_call_cas_miss (fn := Try.f126) (by kernel_rfl) (by kernel_rfl) (by kernel_rfl) (by kernel_rfl) .u64 (by kernel_rfl) hc hz hne
theorem ext_casI1 (hc : w.cell? a = some (.int .i64 x)) (hz : w.frozen? a = false) : (callFunc 115 #[.pointer (some a), .int .i64 x, .int .i64 y]).run Try.prog w = .ok (.value (.bool true)) (w.setCell a (.int .i64 y)) :=
  run_call_cas_hit (fn := Try.f115) (by kernel_rfl) (by kernel_rfl) (by kernel_rfl) (by kernel_rfl) .i64 (by kernel_rfl) hc hz
theorem ext_casI0 (hc : w.cell? a = some (.int .i64 x)) (hz : w.frozen? a = false) (hne : ¬ x = o) : (callFunc 115 #[.pointer (some a), .int .i64 o, .int .i64 y]).run Try.prog w = .ok (.value (.bool false)) w :=
  run_call_cas_miss (fn := Try.f115) (by kernel_rfl) (by kernel_rfl) (by kernel_rfl) (by kernel_rfl) .i64 (by kernel_rfl) hc hz hne
theorem ext_addU (hc : w.cell? a = some (.int .u64 x)) (hz : w.frozen? a = false) : (callFunc 112 #[.pointer (some a), .int .u64 y]).run Try.prog w = .ok (.value (.int .u64 ((x + y) % 18446744073709551616))) (w.setCell a (.int .u64 ((x + y) % 18446744073709551616))) :=
  run_call_add (fn := Try.f112) (by kernel_rfl) (by kernel_rfl) (by kernel_rfl) (by kernel_rfl) .u64 (by kernel_rfl) hc hz (by simp [go_sem, IntKind.wrap_u64])

set_option maxHeartbeats 400000 in
theorem casU1 (hc : w.cell? a = some (.int .u64 x)) (hz : w.frozen? a = false) : Calls Try.prog 111 #[.pointer (some a), .int .u64 x, .int .u64 y] w fun e w' => e = .returned (.bool true) ∧ w.setCell a (.int .u64 y) = w' := by
  have h := ext_casU1 (y := y) hc hz
  clear hc hz
  go_enter Try.func111, Try.ntmps111
  go_wp2
  go_ret
  exact ⟨rfl, rfl⟩
set_option maxHeartbeats 400000 in
theorem casU0 (hc : w.cell? a = some (.int .u64 x)) (hz : w.frozen? a = false) (hne : ¬ x = o) : Calls Try.prog 111 #[.pointer (some a), .int .u64 o, .int .u64 y] w fun e w' => e = .returned (.bool false) ∧ w = w' := by
  have h := ext_casU0 (y := y) hc hz hne
  clear hc hz hne
  go_enter Try.func111, Try.ntmps111
  go_wp2
  go_ret
  exact ⟨rfl, rfl⟩
set_option maxHeartbeats 400000 in
theorem casI1 (hc : w.cell? a = some (.int .i64 x)) (hz : w.frozen? a = false) : Calls Try.prog 95 #[.pointer (some a), .int .i64 x, .int .i64 y] w fun e w' => e = .returned (.bool true) ∧ w.setCell a (.int .i64 y) = w' := by
  have h := ext_casI1 (y := y) hc hz
  clear hc hz
  go_enter Try.func95, Try.ntmps95
  go_wp2
  go_ret
  exact ⟨rfl, rfl⟩
set_option maxHeartbeats 400000 in
theorem casI0 (hc : w.cell? a = some (.int .i64 x)) (hz : w.frozen? a = false) (hne : ¬ x = o) : Calls Try.prog 95 #[.pointer (some a), .int .i64 o, .int .i64 y] w fun e w' => e = .returned (.bool false) ∧ w = w' := by
  have h := ext_casI0 (y := y) hc hz hne
  clear hc hz hne
  go_enter Try.func95, Try.ntmps95
  go_wp2
  go_ret
  exact ⟨rfl, rfl⟩
set_option maxHeartbeats 400000 in
theorem addU (hc : w.cell? a = some (.int .u64 x)) (hz : w.frozen? a = false) : Calls Try.prog 92 #[.pointer (some a), .int .u64 y] w fun e w' => (∃ v, e = .returned v) ∧ w.setCell a (.int .u64 ((x + y) % 18446744073709551616)) = w' := by
  have h := ext_addU (y := y) hc hz
  clear hc hz
  go_enter Try.func92, Try.ntmps92
  go_wp2
  go_ret
  exact ⟨⟨_, rfl⟩, rfl⟩
end
end Go.Proofs.Ytbhohohgojcapaa
