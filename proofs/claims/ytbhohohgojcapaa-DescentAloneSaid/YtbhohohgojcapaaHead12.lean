/- Law 12's head: a machine goes down an empty leaf. -/
import Derived.Test.YtbhohohgojcapaaFams
import Derived.Test.YtbhohohgojcapaaJos
import Derived.Lib.SlBytesConst
namespace Go.Proofs.Ytbhohohgojcapaa
open Go.RowKit

def hMc : Nat → Mc
  | 0 => Mc.new [107] 0
  | k + 1 => stepM (ar0 3) (hMc k)
theorem hMc_go : ∀ k, k < 4 → decide ((stepM (ar0 3) (hMc k)).nx = .done) = false
  | 0, _ => rfl | 1, _ => rfl | 2, _ => rfl | 3, _ => rfl
  | n + 4, h => by omega
theorem hMc_end : decide ((stepM (ar0 3) (hMc 4)).nx = .done) = true := rfl
theorem hMc_low : ∀ k, k ≤ 4 → (hMc k).low
  | 0, _ => ⟨by decide, by decide, by decide, by decide⟩ | 1, _ => ⟨by decide, by decide, by decide, by decide⟩ | 2, _ => ⟨by decide, by decide, by decide, by decide⟩ | 3, _ => ⟨by decide, by decide, by decide, by decide⟩ | 4, _ => ⟨by decide, by decide, by decide, by decide⟩
  | n + 5, h => by omega
theorem hMc_out : (hMc 5).outId = 1 ∧ (hMc 5).outWord = 0 ∧ (hMc 5).outNd = Nd.zero := ⟨rfl, rfl, rfl⟩

section
variable {w : World}

theorem byts_mark (w : World) (x : UInt8) : Byts (w.alloc (.cells #[bV x] 5 (1, 2))) (fun b => b = w.heap.size) (.slice (some ⟨w.heap.size, 0, none⟩) 1 1) [x] := by
  refine ⟨some ⟨w.heap.size, 0, none⟩, 1, rfl, by simp, by decide, fun _ => ⟨_, rfl, rfl, fun i y hy => ?_⟩⟩
  match i, hy with
  | 0, hy => cases hy; rw [add_lit]; exact cell_of_row _ _ 0 #[bV x] _ _ (heap_alloc_new w _)
  | i + 1, hy => simp at hy

set_option maxRecDepth 100000 in
set_option maxHeartbeats 1000000 in
theorem head12 (w : World) : Calls Try.prog 9 #[] w fun e w' => e = .returned (.bool true) ∧ Keeps Nob w w' := by
  have HBg := Lib.hid (begunJ (n := 3) w (by decide) (by decide))
  unfold iV pV at *
  go_enter Try.func9, Try.ntmps9
  go_wp2_with fail
  refine HBg.out.mono ?_
  rintro e w1 ⟨b, p, q, rfl, hJ, hk⟩
  have HJ := Lib.hid hJ
  have K := Lib.hid hk
  have b0 := hJ.blk.cell 0
  unfold pV at b0
  clear hJ hk HBg
  have hcv : ∀ (w : World) (b : Nat) (C : Array Value) (n c : Nat), b = w.heap.size → (convert 30 30 (.slice (some ⟨b, 0, none⟩) n c)).run Try.prog (w.alloc (.cells C 5)) = .ok (.slice (some ⟨b, 0, none⟩) n c) (w.alloc (.cells C 5 (C.size, C.size + 1))) := fun w b C n c hb => by
    subst hb; exact Lib.run_convert_bytes_const (P := Try.prog) w 30 5 C n c Try.underlying30 Try.underlying5
  go_wp2_with fail
  clear b0 hcv
  refine calls_at (fun w2 hw => ?_)
  have hk : Keeps Nob w1 w2 := by rw [hw]; exact Keeps.alloc _ _ _
  have HBy : Hid (Byts w2 (fun b => b = w1.heap.size) (.slice (some ⟨w1.heap.size, 0, none⟩) 1 1) [107]) := by rw [hw]; exact byts_mark w1 107
  clear hw
  replace HJ := Lib.hid (HJ.out.nob hk)
  replace K := Lib.hid (K.out.trans hk (fun _ _ h => h))
  clear hk
  refine (newXB (level := 0) HJ.out HBy.out (by unfold Sm; decide)).mono ?_
  rintro e w3 ⟨m, rfl, hf, hJ, hX, hk⟩
  have HM : Hid (w.heap.size ≤ m) := Nat.le_trans K.out.size hf.1
  have HP0 : Hid (∃ G' S', J w3 G' b p q (ar0 3) (ar0 3) ∧ MbX w3 G' m p S' (hMc 0) ∧ Keeps (From w.heap.size) w w3) := ⟨_, _, hJ, hX, (K.out.trans hk (fun _ _ h => h)).mono (fun _ _ h => h.elim)⟩
  clear hf hJ hX hk HBy HJ K
  unfold pV
  go_wp2
  go_loopw [4] (fun i wr => ∃ k : Nat, k ≤ 4 ∧ i = .int .i64 k ∧ ∃ G' S', J wr G' b p q (ar0 3) (ar0 3) ∧ MbX wr G' m p S' (hMc k) ∧ Keeps (From w.heap.size) w wr) (fun i _ => 4 - (intOf i).toNat)
  case atStart => exact ⟨0, Nat.zero_le _, rfl, HP0.out⟩
  obtain ⟨k, hk, rfl, G', S', hJ, hX, hkk⟩ := hrel
  have HJ := Lib.hid hJ
  have HX := Lib.hid hX
  have K := Lib.hid hkk
  clear hJ hX hkk
  rcases Nat.lt_or_ge k 4 with hlt | hlt
  · have hgo := hMc_go k hlt
    go_wp2_with (go_at_call 15; refine (stepXB HJ.out HX.out (hMc_low k hk)).mono ?_; rintro e w4 ⟨rfl, hJ, ⟨S2, hX, _⟩, hkk⟩; rw [hgo]; have HP : Hid (∃ G' S', J w4 G' b p q (ar0 3) (ar0 3) ∧ MbX w4 G' m p S' (hMc (k + 1)) ∧ Keeps (From w.heap.size) w w4) := ⟨_, _, hJ, hX, K.out.trans hkk (fun x hx e => by have h := HM.out; rw [show x = m from e]; exact h)⟩; clear hJ hX hkk)
    go_roundw
    case rel => exact ⟨k + 1, by omega, by go_num, HP.out⟩
    case measure => simp [intOf]; omega
  obtain rfl : k = 4 := by omega
  clear hk hlt HP0
  have hgo := hMc_end
  have hlow := Lib.hid (hMc_low 4 (by decide))
  go_wp2_with (first
    | (go_at_call 15; refine (stepXB HJ.out HX.out hlow.out).mono ?_; rintro e w4 ⟨rfl, hJ, ⟨S2, hX, _⟩, hkk⟩; rw [hgo]; have HX5 := Lib.hid hX; have K5 : Hid (Keeps (From w.heap.size) w w4) := K.out.trans hkk (fun x hx e => by have h := HM.out; rw [show x = m from e]; exact h); clear hJ hX hkk)
    | (go_at_call 14; refine (atX HX5.out.mw).mono ?_; rintro e w5 ⟨d0, d1, d2, d3, d4, d5, rfl, hO, hkk⟩; have hf := hMc_out; rw [show stepM (ar0 3) (hMc 4) = hMc 5 from rfl] at *; obtain ⟨f1, f2, f3⟩ := hf; rw [f1, f2]; rw [f3] at hO; obtain ⟨D1, j1, e1⟩ := Own.form hO.1.high; obtain ⟨D3, j3, e3⟩ := OTx.form hO.2.keys; obtain ⟨D4, j4, e4⟩ := OTx.form hO.2.vals; obtain ⟨D5, j5, e5⟩ := Own.form hO.2.kids; have e0 := hO.1.lvl; have e2 := hO.1.right; unfold iV at e0 e2; subst e0 e1 e2 e3 e4 e5; have K6 := Lib.hid (K5.out.trans hkk (fun _ _ h => h.elim)); clear hO hkk f1 f2 f3; unfold iV; rw [show Nd.zero.keys.length = 0 from rfl]))
  go_ret
  exact ⟨rfl, (K6.out.alloc' _).mono (fun x hx h => absurd hx (Nat.not_lt.2 h))⟩
end
end Go.Proofs.Ytbhohohgojcapaa
