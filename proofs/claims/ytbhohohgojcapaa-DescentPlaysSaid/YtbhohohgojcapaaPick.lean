/- pick: which of n things a raw number speaks of. -/
import Derived.Test.YtbhohohgojcapaaAr
namespace Go.Proofs.Ytbhohohgojcapaa
open Go.RowKit

/-- A number of 64 bits with a sign. -/
def I64 (n : Int) : Prop := -9223372036854775808 ≤ n ∧ n ≤ 9223372036854775807
def pk (c n : Int) : Int := (if c < 0 then -(c + 1) else c) % n
theorem pk_range (c n : Int) (hn : 0 < n) : 0 ≤ pk c n ∧ pk c n < n := ⟨Int.emod_nonneg _ (by omega), Int.emod_lt_of_pos _ hn⟩

theorem ret_i {a b : Int} (h : a = b) : Ending.returned (.int .i64 a) = .returned (iV b) := by rw [h]; rfl

set_option maxHeartbeats 400000 in
theorem pick_ {c n : Int} (w : World) (hc : I64 c) (hn : 1 ≤ n) : Calls Try.prog 43 #[iV c, iV n] w fun e w' => e = .returned (iV (pk c n)) ∧ w = w' := by
  unfold I64 at hc
  obtain ⟨hc1, hc2⟩ := hc
  by_cases h : c < 0
  · have e : pk c n = (-(c + 1)) % n := by unfold pk; rw [if_pos h]
    have E := Lib.hid e; clear e
    unfold iV
    change Calls _ _ _ _ (fun e w' => e = .returned (iV (pk c n)) ∧ w = w')
    go_enter Try.func43, Try.ntmps43
    go_wp2
    go_ret
    exact ⟨ret_i (by rw [E.out, ← Int.neg_tmod, Int.tmod_eq_emod_of_nonneg (by omega)]), rfl⟩
  · have e : pk c n = c % n := by unfold pk; rw [if_neg h]
    have E := Lib.hid e; clear e
    have h' : 0 ≤ c := by omega
    clear h
    unfold iV
    change Calls _ _ _ _ (fun e w' => e = .returned (iV (pk c n)) ∧ w = w')
    go_enter Try.func43, Try.ntmps43
    go_wp2
    go_ret
    exact ⟨ret_i E.out.symm, rfl⟩
end Go.Proofs.Ytbhohohgojcapaa
