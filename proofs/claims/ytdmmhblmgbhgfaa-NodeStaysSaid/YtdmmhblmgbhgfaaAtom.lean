/- What the methods of sync/atomic's Int64 and Uint64 do to the one cell behind their receiver. Asked: the cell is there and is not frozen. -/
import Derived.Test.YtdmmhblmgbhgfaaProg
import Derived.Test.YtdmmhblmgbhgfaaMem
import Derived.Laws.LoneSync
namespace Go.Proofs.Ytdmmhblmgbhgfaa
open Go.RowKit

section
variable {a : Addr} {x y : Int} {w : World}

theorem ext_loadU (hc : w.cell? a = some (.int .u64 x)) : (callFunc 116 #[.pointer (some a)]).run Try.prog w = .ok (.value (.int .u64 x)) w :=
  run_call_load (fn := Try.f116) (by kernel_rfl) (by kernel_rfl) (by kernel_rfl) (by kernel_rfl) .u64 (by kernel_rfl) hc
theorem ext_loadI (hc : w.cell? a = some (.int .i64 x)) : (callFunc 117 #[.pointer (some a)]).run Try.prog w = .ok (.value (.int .i64 x)) w :=
  run_call_load (fn := Try.f117) (by kernel_rfl) (by kernel_rfl) (by kernel_rfl) (by kernel_rfl) .i64 (by kernel_rfl) hc
theorem ext_storeU {u : Value} (hc : w.cell? a = some u) (hz : w.frozen? a = false) : (callFunc 115 #[.pointer (some a), .int .u64 y]).run Try.prog w = .ok (.value (.tuple #[])) (w.setCell a (.int .u64 y)) :=
  run_call_store (fn := Try.f115) (by kernel_rfl) (by kernel_rfl) (by kernel_rfl) (by kernel_rfl) (by kernel_rfl) hc hz
theorem ext_storeI {u : Value} (hc : w.cell? a = some u) (hz : w.frozen? a = false) : (callFunc 114 #[.pointer (some a), .int .i64 y]).run Try.prog w = .ok (.value (.tuple #[])) (w.setCell a (.int .i64 y)) :=
  run_call_store (fn := Try.f114) (by kernel_rfl) (by kernel_rfl) (by kernel_rfl) (by kernel_rfl) (by kernel_rfl) hc hz

set_option maxHeartbeats 400000 in
theorem loadU (hc : w.cell? a = some (.int .u64 x)) : Calls Try.prog 71 #[.pointer (some a)] w fun e w' => e = .returned (.int .u64 x) ∧ w = w' := by
  have h := ext_loadU hc
  clear hc
  go_enter Try.func71, Try.ntmps71
  go_wp2
  go_ret
  exact ⟨rfl, rfl⟩
set_option maxHeartbeats 400000 in
theorem loadI (hc : w.cell? a = some (.int .i64 x)) : Calls Try.prog 72 #[.pointer (some a)] w fun e w' => e = .returned (.int .i64 x) ∧ w = w' := by
  have h := ext_loadI hc
  clear hc
  go_enter Try.func72, Try.ntmps72
  go_wp2
  go_ret
  exact ⟨rfl, rfl⟩
set_option maxHeartbeats 400000 in
theorem storeU {u : Value} (hc : w.cell? a = some u) (hz : w.frozen? a = false) : Calls Try.prog 69 #[.pointer (some a), .int .u64 y] w fun e w' => e = .returned (.tuple #[]) ∧ w.setCell a (.int .u64 y) = w' := by
  have h := ext_storeU (y := y) hc hz
  clear hc hz
  go_enter Try.func69, Try.ntmps69
  go_wp2
  go_end0
  exact ⟨rfl, rfl⟩
set_option maxHeartbeats 400000 in
theorem storeI {u : Value} (hc : w.cell? a = some u) (hz : w.frozen? a = false) : Calls Try.prog 68 #[.pointer (some a), .int .i64 y] w fun e w' => e = .returned (.tuple #[]) ∧ w.setCell a (.int .i64 y) = w' := by
  have h := ext_storeI (y := y) hc hz
  clear hc hz
  go_enter Try.func68, Try.ntmps68
  go_wp2
  go_end0
  exact ⟨rfl, rfl⟩
end
end Go.Proofs.Ytdmmhblmgbhgfaa
