/- Law 10's Begun: both arenas begun, or none. -/
import Derived.Test.YtbhohohgojcapaaJo
namespace Go.Proofs.Ytbhohohgojcapaa
open Go.RowKit

/-- An arena as it begins. -/
def ar0 (n : Nat) : Ar := ⟨n, [⟨0, Nd.zero⟩], 1⟩

section
variable {w : World}
set_option maxRecDepth 100000 in
set_option maxHeartbeats 800000 in
theorem begunJ {n : Nat} (w : World) (h1 : 1 ≤ n) (h2 : n ≤ 65536) : Calls Try.prog 10 #[iV n] w fun e w' => ∃ b p q, e = .returned (.tuple #[pV b, .bool true]) ∧ J w' (From w.heap.size) b p q (ar0 n) (ar0 n) ∧ Keeps Nob w w' := by
  have HN := Lib.hid (new_ok w h1 h2)
  have HM := fun wx => docNew_ok (n := n) wx h1 h2
  clear h1 h2
  unfold iV pV at *
  go_enter Try.func10, Try.ntmps10
  go_wp2_with fail
  refine HN.out.mono ?_
  rintro e w1 ⟨rfl, hX, k1⟩
  obtain ⟨P, hP⟩ : ∃ P, w.heap.size + 2 = P := ⟨_, rfl⟩
  rw [hP] at hX ⊢
  have HX := Lib.hid hX
  have K1 := Lib.hid k1
  clear hX k1 hP HN
  go_wp2_with fail
  refine (HM w1).mono ?_
  rintro e w2 ⟨rfl, hY, k2⟩
  obtain ⟨Q, hQ⟩ : ∃ Q, w1.heap.size + 1 = Q := ⟨_, rfl⟩
  rw [hQ] at hY ⊢
  have HY := Lib.hid hY
  have K2 := Lib.hid k2
  clear hY k2 hQ HM
  go_wp2
  refine post_at (fun w3 hw => ?_)
  have k3 : Keeps Nob w2 w3 := by rw [hw]; exact Keeps.alloc _ _ _
  have hb : Blk w3 w2.heap.size 48 #[.pointer (some ⟨P, 0, none⟩), .pointer (some ⟨Q, 0, none⟩)] := by rw [hw]; exact Blk.new _ _ _
  clear hw
  have s1 := K1.out.size
  have s2 := K2.out.size
  have s3 := k3.size
  have kk : ∀ {P : Nat → Prop} {z : Nat}, ∀ x, x < z → P x → ¬ Nob x := fun _ _ _ => id
  have hJ : J w3 (From w.heap.size) w2.heap.size P Q (ar0 n) (ar0 n) := by
    obtain ⟨sl, ids, hX⟩ := HX.out
    obtain ⟨L, xs, hY⟩ := HY.out
    refine ⟨hb, ⟨_, Nob, _, Nob, ⟨sl, ids, (hX.keeps K2.out kk kk).keeps k3 kk kk⟩, ⟨L, xs, hY.keeps k3 kk kk⟩, fun x hx => ⟨hx.1, fun h => ?_, fun h => h, ?_⟩, fun x hx => ⟨?_, fun h => h, ?_⟩, fun x hx => hx.elim (fun h => h.elim) (fun h => h.elim)⟩, ?_, fun x hx => ?_, ?_, ?_⟩
    · have := hx.2; have := h.1; omega
    · have := hx.2; omega
    · have := hx.1; show _ ≤ _; omega
    · have := hx.2; omega
    · show _ ≤ _; omega
    · show _ ≤ _; omega
    · intro s hs; simp [ar0] at hs; subst hs; exact sm_zero
    · intro s hs; simp [ar0] at hs; subst hs; exact sm_zero
  have kf : Keeps Nob w w3 := (K1.out.trans K2.out (fun _ _ h => h)).trans k3 (fun _ _ h => h)
  clear hb k3 s1 s2 s3
  go_ret2
  exact ⟨_, _, _, rfl, hJ, kf⟩

set_option maxHeartbeats 400000 in
theorem begunBad {n : Int} (w : World) (hn : n < 1 ∨ 65536 < n) : Calls Try.prog 10 #[iV n] w fun e w' => e = .returned (.tuple #[.pointer none, .bool true]) ∧ w = w' := by
  have HN := Lib.hid (new_bad w hn)
  have HM := Lib.hid (docNew_bad w hn)
  clear hn
  unfold iV at *
  go_enter Try.func10, Try.ntmps10
  go_wp2_with (first
    | (go_at_call 38; refine HN.out.mono ?_; rintro e w1 ⟨rfl, rfl⟩)
    | (go_at_call 39; refine HM.out.mono ?_; rintro e w1 ⟨rfl, rfl⟩))
  go_ret2
  exact ⟨rfl, rfl⟩
end
end Go.Proofs.Ytbhohohgojcapaa
