/- Law 10's Raw: one call of both arenas; and head, the live question. -/
import Derived.Test.YtdmmhblmgbhgfaaRawA
import Derived.Test.YtdmmhblmgbhgfaaRawB
import Derived.Test.YtdmmhblmgbhgfaaRawC
import Derived.Test.YtdmmhblmgbhgfaaBegun
namespace Go.Proofs.Ytdmmhblmgbhgfaa
open Go.RowKit

section
variable {w : World} {G : Nat → Prop} {b p q : Nat} {A B : Ar} {ix : Int}

theorem rawJ {S : Nat → Prop} {cs : Array Value} {o : OpM} (h : J w G b p q A A) (ho : IsOp w S cs o) (hS : ∀ x, S x → ¬ G x) :
    Calls Try.prog 26 #[pV b, .agg cs] w fun e w' => e = .returned (.bool true) ∧ J w' G b p q (step A o) (step A o) ∧ Keeps G w w' := by
  obtain ⟨⟨c0, c1, c2, c3, c4, c5, rfl, hn⟩, h1, h2, h3, h4, h5⟩ := ho
  obtain ⟨r1, r2⟩ := pk_range o.kd 9 (by decide)
  unfold step
  by_cases k0 : pk o.kd 9 = 0
  · rw [if_pos k0]; exact raw0J h k0 h1 h2 h3 h4 hn h5 hS
  rw [if_neg k0]
  by_cases k1 : pk o.kd 9 = 1
  · rw [if_pos k1]; exact raw1J h k1 h1 h2 h3 h4 hn h5 hS
  rw [if_neg k1]
  by_cases k2 : pk o.kd 9 = 2
  · rw [if_pos k2]; exact raw2J h k2 h1 h2 h3 h4 hn h5 hS
  rw [if_neg k2]
  by_cases k3 : pk o.kd 9 = 3
  · rw [if_pos k3]; exact raw3J h k3 h1 h2 h3 h4 hn h5 hS
  rw [if_neg k3]
  by_cases k4 : pk o.kd 9 = 4
  · rw [if_pos k4]; exact raw4J h k4 h1 h2 h3 h4 hn h5 hS
  rw [if_neg k4]
  by_cases k5 : pk o.kd 9 = 5
  · rw [if_pos k5]; exact raw5J h k5 h1 h2 h3 h4 hn h5 hS
  rw [if_neg k5]
  by_cases k6 : pk o.kd 9 = 6
  · rw [if_pos k6]; exact raw6J h k6 h1 h2 h3 h4 hn h5 hS
  rw [if_neg k6]
  by_cases k7 : pk o.kd 9 = 7
  · rw [if_pos k7]; exact raw7J h k7 h1 h2 h3 h4 hn h5 hS
  rw [if_neg k7]
  exact raw8J h (by omega) h1 h2 h3 h4 hn h5 hS

set_option maxRecDepth 100000 in
set_option maxHeartbeats 800000 in
theorem headJ (w : World) : Calls Try.prog 36 #[] w fun e w' => e = .returned (.bool true) ∧ Keeps Nob w w' := by
  have HN := Lib.hid (new_ok (n := 2) w (by decide) (by decide))
  unfold iV pV at *
  go_enter Try.func36, Try.ntmps36
  go_wp2_with fail
  refine HN.out.mono ?_
  rintro e w1 ⟨rfl, hX, k1⟩
  obtain ⟨P, hP⟩ : ∃ P, w.heap.size + 2 = P := ⟨_, rfl⟩
  rw [hP] at hX ⊢
  have HX := Lib.hid hX
  have K := Lib.hid k1
  have S1 := Lib.hid k1.size
  clear hX k1 hP HN
  go_wp2_with fail
  obtain ⟨sl, ids, hX⟩ := HX.out
  have hal := allocX hX
  have e1 : opAlloc (⟨2, [⟨0, Nd.zero⟩], 1⟩ : Ar) = (2, 0, ⟨2, [⟨0, Nd.zero⟩, ⟨1, Nd.zero⟩], 1⟩) := rfl
  rw [e1] at hal
  refine hal.mono ?_
  rintro e w2 ⟨rfl, hX2, k2⟩
  replace K := Lib.hid (K.out.trans k2 (fun x hx hm => by have := hm.1; omega))
  have HX2 := Lib.hid hX2
  clear hX hal k2 hX2 HX e1
  unfold iV
  go_wp2_with fail
  obtain ⟨sl2, ids2, hX⟩ := HX2.out
  have hul := unlockX (id := 2) (c := true) hX
  have e1 : opUnlock (⟨2, [⟨0, Nd.zero⟩, ⟨1, Nd.zero⟩], 1⟩ : Ar) 2 true = (0, ⟨2, [⟨0, Nd.zero⟩, ⟨2, Nd.zero⟩], 1⟩) := rfl
  rw [e1] at hul
  refine hul.mono ?_
  rintro e w3 ⟨rfl, hX3, k3⟩
  have hkm : Keeps (fun b => w.heap.size ≤ b) w2 w3 := k3.mono (fun x hx hm => by
    rcases hm with hm | hm
    · exact hm.1
    · have := hm.1; have := S1.out; omega)
  replace K := Lib.hid (K.out.trans hkm (fun x hx hm => by have h : w.heap.size ≤ x := hm; omega))
  have HX3 := Lib.hid hX3
  clear hX hul k3 hX3 HX2 e1 hkm
  have HWd := Lib.hid (wordX (ix := 2) HX3.out)
  have HR := Lib.hid (root_ HX3.out)
  have HU := Lib.hid (used_ HX3.out)
  unfold iV pV at *
  go_wp2_with (first
    | (go_at_call 22; refine HWd.out.mono ?_; rintro e w' ⟨rfl, rfl⟩)
    | (go_at_call 24; refine HR.out.mono ?_; rintro e w' ⟨rfl, rfl⟩)
    | (go_at_call 19; refine HU.out.mono ?_; rintro e w' ⟨rfl, rfl⟩))
  go_ret
  exact ⟨by rfl, K.out⟩
end
end Go.Proofs.Ytdmmhblmgbhgfaa
