/- Law 10's Raw: one call of both arenas. -/
import Derived.Test.YtbhohohgojcapaaRawA
import Derived.Test.YtbhohohgojcapaaRawB
import Derived.Test.YtbhohohgojcapaaRawC
namespace Go.Proofs.Ytbhohohgojcapaa
open Go.RowKit

section
variable {w : World} {G : Nat → Prop} {b p q : Nat} {A B : Ar} {ix : Int}

theorem rawJ {S : Nat → Prop} {cs : Array Value} {o : OpM} (h : J w G b p q A A) (ho : IsOp w S cs o) (hS : ∀ x, S x → ¬ G x) :
    Calls Try.prog 13 #[pV b, .agg cs] w fun e w' => e = .returned (.bool true) ∧ J w' G b p q (step A o) (step A o) ∧ Keeps G w w' := by
  obtain ⟨⟨c0, c1, c2, c3, c4, c5, rfl, hn⟩, h1, h2, h3, h4, h5⟩ := ho
  obtain ⟨r1, r2⟩ := pk_range o.kd 9 (by decide)
  unfold step
  by_cases k0 : pk o.kd 9 = 0
  · rw [if_pos k0]; exact raw0J h k0 h1 h2 h3 h4 hn h5 hS
  rw [if_neg k0]
  by_cases k1 : pk o.kd 9 = 1
  · rw [if_pos k1]; exact raw1J h k1 h1 h2 h3 h4 hn h5 hS
  rw [if_neg k1]
  by_cases k2 : pk o.kd 9 = 2
  · rw [if_pos k2]; exact raw2J h k2 h1 h2 h3 h4 hn h5 hS
  rw [if_neg k2]
  by_cases k3 : pk o.kd 9 = 3
  · rw [if_pos k3]; exact raw3J h k3 h1 h2 h3 h4 hn h5 hS
  rw [if_neg k3]
  by_cases k4 : pk o.kd 9 = 4
  · rw [if_pos k4]; exact raw4J h k4 h1 h2 h3 h4 hn h5 hS
  rw [if_neg k4]
  by_cases k5 : pk o.kd 9 = 5
  · rw [if_pos k5]; exact raw5J h k5 h1 h2 h3 h4 hn h5 hS
  rw [if_neg k5]
  by_cases k6 : pk o.kd 9 = 6
  · rw [if_pos k6]; exact raw6J h k6 h1 h2 h3 h4 hn h5 hS
  rw [if_neg k6]
  by_cases k7 : pk o.kd 9 = 7
  · rw [if_pos k7]; exact raw7J h k7 h1 h2 h3 h4 hn h5 hS
  rw [if_neg k7]
  exact raw8J h (by omega) h1 h2 h3 h4 hn h5 hS
end
end Go.Proofs.Ytbhohohgojcapaa
