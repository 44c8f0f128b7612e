/- pick: which of n things a raw number speaks of. -/
import Derived.Test.YtbhohohgojcapaaJos
namespace Go.Proofs.Ytbhohohgojcapaa
open Go.RowKit

set_option maxHeartbeats 400000 in
theorem pick12_ {c n : Int} (w : World) (hc : I64 c) (hn : 1 ≤ n) : Calls Try.prog 11 #[iV c, iV n] w fun e w' => e = .returned (iV (pk c n)) ∧ w = w' := by
  unfold I64 at hc
  obtain ⟨hc1, hc2⟩ := hc
  by_cases h : c < 0
  · have e : pk c n = (-(c + 1)) % n := by unfold pk; rw [if_pos h]
    have E := Lib.hid e; clear e
    unfold iV
    change Calls _ _ _ _ (fun e w' => e = .returned (iV (pk c n)) ∧ w = w')
    go_enter Try.func11, Try.ntmps11
    go_wp2
    go_ret
    exact ⟨ret_i (by rw [E.out, ← Int.neg_tmod, Int.tmod_eq_emod_of_nonneg (by omega)]), rfl⟩
  · have e : pk c n = c % n := by unfold pk; rw [if_neg h]
    have E := Lib.hid e; clear e
    have h' : 0 ≤ c := by omega
    clear h
    unfold iV
    change Calls _ _ _ _ (fun e w' => e = .returned (iV (pk c n)) ∧ w = w')
    go_enter Try.func11, Try.ntmps11
    go_wp2
    go_ret
    exact ⟨ret_i E.out.symm, rfl⟩
end Go.Proofs.Ytbhohohgojcapaa
