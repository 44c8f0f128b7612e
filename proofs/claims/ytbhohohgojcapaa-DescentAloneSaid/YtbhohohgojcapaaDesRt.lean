/- A descent: Right of the program's machine. -/
import Derived.Test.YtbhohohgojcapaaDesN
namespace Go.Proofs.Ytbhohohgojcapaa
open Go.RowKit

section
variable {w : World} {G S : Nat → Prop} {b p q m : Nat} {A B : Ar} {M : Mc} {v : Value} {key : List UInt8} {level : Int}
theorem againX (h : MX w m p S M) : Calls Try.prog 27 #[pV m] w fun e w' => e = .returned (iV M.again) ∧ w = w' := by
  obtain ⟨kv, c0, c1, c2, c3, c4, c5, hb, _, _⟩ := h.cells
  have q := hb.cell 13
  clear h hb
  unfold pV iV at *
  go_enter Try.func27, Try.ntmps27
  go_wp2
  go_ret
  exact ⟨rfl, rfl⟩
theorem rightX (h : MX w m p S M) : Calls Try.prog 28 #[pV m] w fun e w' => e = .returned (iV M.right) ∧ w = w' := by
  obtain ⟨kv, c0, c1, c2, c3, c4, c5, hb, _, _⟩ := h.cells
  have q := hb.cell 14
  clear h hb
  unfold pV iV at *
  go_enter Try.func28, Try.ntmps28
  go_wp2
  go_ret
  exact ⟨rfl, rfl⟩
end
end Go.Proofs.Ytbhohohgojcapaa
