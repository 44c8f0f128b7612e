/- What the methods of sync/atomic's Int64 and Uint64 do to the one cell behind their receiver. Asked: the cell is there and is not frozen. -/
import Derived.Test.YtbhohohgojcapaaProg
import Derived.Test.YtbhohohgojcapaaMem
import Derived.Laws.LoneSync
namespace Go.Proofs.Ytbhohohgojcapaa
open Go.RowKit

section
variable {a : Addr} {x y : Int} {w : World}

theorem ext_loadU (hc : w.cell? a = some (.int .u64 x)) : (callFunc 98 #[.pointer (some a)]).run Try.prog w = .ok (.value (.int .u64 x)) w :=
  run_call_load (fn := Try.f98) (by kernel_rfl) (by kernel_rfl) (by kernel_rfl) (by kernel_rfl) .u64 (by kernel_rfl) hc
theorem ext_loadI (hc : w.cell? a = some (.int .i64 x)) : (callFunc 116 #[.pointer (some a)]).run Try.prog w = .ok (.value (.int .i64 x)) w :=
  run_call_load (fn := Try.f116) (by kernel_rfl) (by kernel_rfl) (by kernel_rfl) (by kernel_rfl) .i64 (by kernel_rfl) hc
theorem ext_storeU {u : Value} (hc : w.cell? a = some u) (hz : w.frozen? a = false) : (callFunc 110 #[.pointer (some a), .int .u64 y]).run Try.prog w = .ok (.value (.tuple #[])) (w.setCell a (.int .u64 y)) :=
  run_call_store (fn := Try.f110) (by kernel_rfl) (by kernel_rfl) (by kernel_rfl) (by kernel_rfl) (by kernel_rfl) hc hz
theorem ext_storeI {u : Value} (hc : w.cell? a = some u) (hz : w.frozen? a = false) : (callFunc 108 #[.pointer (some a), .int .i64 y]).run Try.prog w = .ok (.value (.tuple #[])) (w.setCell a (.int .i64 y)) :=
  run_call_store (fn := Try.f108) (by kernel_rfl) (by kernel_rfl) (by kernel_rfl) (by kernel_rfl) (by kernel_rfl) hc hz

set_option maxHeartbeats 400000 in
theorem loadU (hc : w.cell? a = some (.int .u64 x)) : Calls Try.prog 59 #[.pointer (some a)] w fun e w' => e = .returned (.int .u64 x) ∧ w = w' := by
  have h := ext_loadU hc
  clear hc
  go_enter Try.func59, Try.ntmps59
  go_wp2
  go_ret
  exact ⟨rfl, rfl⟩
set_option maxHeartbeats 400000 in
theorem loadI (hc : w.cell? a = some (.int .i64 x)) : Calls Try.prog 100 #[.pointer (some a)] w fun e w' => e = .returned (.int .i64 x) ∧ w = w' := by
  have h := ext_loadI hc
  clear hc
  go_enter Try.func100, Try.ntmps100
  go_wp2
  go_ret
  exact ⟨rfl, rfl⟩
set_option maxHeartbeats 400000 in
theorem storeU {u : Value} (hc : w.cell? a = some u) (hz : w.frozen? a = false) : Calls Try.prog 88 #[.pointer (some a), .int .u64 y] w fun e w' => e = .returned (.tuple #[]) ∧ w.setCell a (.int .u64 y) = w' := by
  have h := ext_storeU (y := y) hc hz
  clear hc hz
  go_enter Try.func88, Try.ntmps88
  go_wp2
  go_end0
  exact ⟨rfl, rfl⟩
set_option maxHeartbeats 400000 in
theorem storeI {u : Value} (hc : w.cell? a = some u) (hz : w.frozen? a = false) : Calls Try.prog 86 #[.pointer (some a), .int .i64 y] w fun e w' => e = .returned (.tuple #[]) ∧ w.setCell a (.int .i64 y) = w' := by
  have h := ext_storeI (y := y) hc hz
  clear hc hz
  go_enter Try.func86, Try.ntmps86
  go_wp2
  go_end0
  exact ⟨rfl, rfl⟩
end
end Go.Proofs.Ytbhohohgojcapaa
