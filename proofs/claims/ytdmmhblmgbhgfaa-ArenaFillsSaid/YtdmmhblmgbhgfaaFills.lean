/- The walk of the law ArenaFills: it answers true, whatever the two numbers. -/
import Derived.Test.YtdmmhblmgbhgfaaArH
import Derived.Test.YtdmmhblmgbhgfaaPick
namespace Go.Proofs.Ytdmmhblmgbhgfaa
open Go.RowKit

/-- The arena of n slots behind k calls of Alloc. -/
def fillA (n k : Nat) : Ar := ⟨n, ⟨0, Nd.zero⟩ :: List.replicate k ⟨1, Nd.zero⟩, 1⟩
theorem fillA_len (n k : Nat) : (fillA n k).sl.length = k + 1 := by simp [fillA]
theorem fillA_succ (n k : Nat) : { fillA n k with sl := (fillA n k).sl ++ [⟨1, Nd.zero⟩] } = fillA n (k + 1) := by
  simp [fillA, List.replicate_succ']
theorem held_rep (i k : Nat) (nd : Nd) : (heldFrom i (List.replicate k ⟨1, nd⟩)).length = k := by
  induction k generalizing i with
  | zero => rfl
  | succ k ih => rw [List.replicate_succ]; simp [heldFrom, ih]
theorem fillA_held (n k : Nat) : (heldFrom 1 (fillA n k).sl).length = k := by
  have := held_rep 2 k Nd.zero
  simpa [fillA, heldFrom] using this
theorem ArX.len_le {w M D p A} (h : ArX w M D p A) : A.sl.length ≤ A.nodes ∧ A.nodes ≤ 65536 := by
  obtain ⟨_, _, h⟩ := h; exact h.bound
theorem ArX.mono_M {w M D p A} {M' : Nat → Prop} (h : ArX w M D p A) (hm : ∀ b, M b → M' b) (hl : ∀ b, M' b → b < w.heap.size) (ha : ∀ b, M' b → ¬ D b) : ArX w M' D p A := by
  obtain ⟨s, i, h⟩ := h
  exact ⟨s, i, h.blk, h.row.mono (fun b _ hb => hm b hb), h.nodup, h.len, h.slot, hm _ h.mp, fun id hid => hm _ (h.mids id hid), ha, hl, h.dlt, h.bound⟩

set_option maxRecDepth 100000 in
set_option maxHeartbeats 1000000 in
theorem fills_ok (n many : Int) (w : World) (hm : I64 many) : Calls Try.prog 3 #[iV n, iV many] w fun e w' => e = .returned (.bool true) ∧ Keeps Nob w w' := by
  by_cases hn : n < 1 ∨ 65536 < n
  · have HB := Lib.hid (new_bad w hn)
    rcases hn with h1 | h1
    · unfold iV at *
      go_enter Try.func3, Try.ntmps3
      go_wp2_with (go_at_call 17; refine HB.out.mono ?_; rintro e w' ⟨rfl, rfl⟩)
      go_ret
      exact ⟨rfl, Keeps.refl _ _⟩
    · have h0 : ¬ n < 1 := by omega
      have h2 : 1 ≤ n := by omega
      clear h0
      unfold iV at *
      go_enter Try.func3, Try.ntmps3
      go_wp2_with (go_at_call 17; refine HB.out.mono ?_; rintro e w' ⟨rfl, rfl⟩)
      go_ret
      exact ⟨rfl, Keeps.refl _ _⟩
  · obtain ⟨N, hN⟩ : ∃ N : Nat, n = N := ⟨n.toNat, by omega⟩
    subst hN
    have h1 : 1 ≤ N := by omega
    have h2 : N ≤ 65536 := by omega
    clear hn
    have HN := Lib.hid (new_ok w h1 h2)
    have HP := fun w => Lib.hid (pick_ (n := 300) w hm (by omega))
    have hpr := pk_range many 300 (by omega)
    obtain ⟨hp0, hp1⟩ := hpr
    unfold iV pV at HN
    unfold iV at HP ⊢
    generalize pk many 300 = T at *
    go_enter Try.func3, Try.ntmps3
    go_wp2_with (first
      | (go_at_call 17; refine HN.out.mono ?_; rintro e w0 ⟨rfl, hX, hK⟩; have HX := Lib.hid hX; have HK := Lib.hid hK; clear hX hK)
      | (go_at_call 18; refine ((HP _).out).mono ?_; rintro e w' ⟨rfl, rfl⟩))
    clear hm HP HN
    go_loopw [8] (fun i wr => ∃ k : Nat, (k : Int) ≤ T ∧ k + 1 ≤ N ∧ i = .int .i64 k ∧ ArX wr (fun b => w.heap.size ≤ b ∧ b < wr.heap.size) Nob (w.heap.size + 2) (fillA N k) ∧ Keeps Nob w wr) (fun i _ => (T - intOf i).toNat)
    case atStart => exact ⟨0, hp0, by omega, rfl, HX.out, HK.out⟩
    case round =>
      clear HX HK
      obtain ⟨k, hk, hkN, rfl, hX, hK⟩ := hrel
      obtain ⟨slots, ids, hA⟩ := hX
      have hlen := fillA_len N k
      have HU := Lib.hid (used_ hA)
      rw [hlen] at HU
      have HKR := Lib.hid hK
      clear hlen hK
      by_cases hlt : (k : Int) < T
      · by_cases hfull : k + 1 = N
        · have HF := Lib.hid (alloc_full hA (by rw [fillA_len, hfull]; rfl))
          have HL := fun q => Lib.hid (left_ (hA.keeps (Keeps.drewN Nob wr q) (fun _ _ _ => id) (fun _ _ _ => id)))
          rw [fillA_len] at HL
          have hz : (((fillA N k).nodes : Int) - ((k + 1 : Nat) : Int)) = 0 := by show (N : Int) - _ = 0; omega
          rw [hz] at HL
          clear hA hz
          subst hfull
          unfold iV pV at *
          go_wp2_with (first
            | (go_at_call 19; refine HU.out.mono ?_; rintro e w' ⟨rfl, rfl⟩)
            | (go_at_call 20; refine HF.out.mono ?_; rintro e w' ⟨rfl, q, rfl⟩)
            | (go_at_call 21; refine ((HL _).out).mono ?_; rintro e w' ⟨rfl, q2, rfl⟩))
          go_ret
          exact ⟨rfl, HKR.out.drewN' _⟩
        · have hN2 : k + 2 ≤ N := by omega
          have hne : ((k : Int) + 1 == N) = false := by simpa using (by omega : ¬ (k : Int) + 1 = N)
          have HF := Lib.hid (alloc_room hA (by rw [fillA_len]; show k + 1 < N; omega))
          rw [fillA_len, fillA_succ] at HF
          clear hA hfull
          unfold iV pV at *
          go_wp2_with (first
            | (go_at_call 19; refine HU.out.mono ?_; rintro e w' ⟨rfl, rfl⟩)
            | (go_at_call 20; refine HF.out.mono ?_; rintro e w1 ⟨rfl, hX1, hK1⟩; have HA1 := Lib.hid hX1; have HK1 := Lib.hid hK1; clear hX1 hK1))
          obtain ⟨slots1, ids1, hA1⟩ := HA1.out
          obtain ⟨b, hb⟩ : ∃ b, ids1[k + 1]? = some b := ⟨_, List.getElem?_eq_getElem (by rw [hA1.len, fillA_len]; omega)⟩
          have hs : (fillA N (k + 1)).sl[k + 1]? = some ⟨1, Nd.zero⟩ := by simp [fillA]
          have HW := Lib.hid (word_in (id := (k : Int) + 1 + 1) hA1 (by omega) hb hs)
          have HU1 := Lib.hid (used_ hA1)
          have HL1 := Lib.hid (left_ hA1)
          rw [fillA_len] at HU1 HL1
          have hz : ((fillA N (k + 1)).nodes : Int) = N := rfl
          rw [hz] at HL1
          clear hA1 hb hs hz
          have e1 : ((k + 1 + 1 : Nat) : Int) = (k : Int) + 1 + 1 := by omega
          have e2 : (N : Int) - ((k + 1 + 1 : Nat) : Int) = (N : Int) - ((k : Int) + 1) - 1 := by omega
          rw [e2] at HL1
          rw [e1] at HU1
          clear e1 e2
          unfold iV pV at *
          go_wp2_with (first
            | (go_at_call 22; refine HW.out.mono ?_; rintro e w' ⟨rfl, rfl⟩)
            | (go_at_call 19; refine HU1.out.mono ?_; rintro e w' ⟨rfl, rfl⟩)
            | (go_at_call 21; refine (HL1.out).mono ?_; rintro e w' ⟨rfl, q2, rfl⟩))
          go_roundw
          case rel =>
            refine ⟨k + 1, by omega, by omega, by go_num, ?_, (HKR.out.trans HK1.out (fun b hb hm => absurd hb (Nat.not_lt.2 hm.1))).drewN' _⟩
            have hsz := HKR.out.size
            refine (HA1.out.keeps (Keeps.drewN Nob w1 q2) (fun _ _ _ => id) (fun _ _ _ => id)).mono_M (fun b hb => ?_) (fun b hb => hb.2) (fun _ _ => id)
            rcases hb with hb | hb
            · exact ⟨hb.1, Nat.lt_of_lt_of_le hb.2 HK1.out.size⟩
            · exact ⟨Nat.le_trans hsz hb.1, hb.2⟩
          case measure => simp [intOf]; omega
      · have HHe := Lib.hid (held_ hA)
        have HA := Lib.hid hA
        have HFH := Lib.hid (fillA_held N k)
        have hkT : (k : Int) = T := by omega
        clear hA HU hkT
        unfold pV at HHe
        go_wp2_with (go_at_call 23; refine HHe.out.mono ?_; rintro e w1 ⟨v, rfl, hO, hK1⟩; obtain ⟨A', c', hv⟩ := hO.form; rw [HFH.out] at hv; subst hv; have HK1 := Lib.hid hK1; clear hO hK1)
        have hA1 := HA.out.keeps HK1.out (fun _ _ _ => id) (fun _ _ _ => id)
        have HU1 := Lib.hid (used_ hA1)
        have HR1 := Lib.hid (root_ hA1)
        rw [fillA_len] at HU1
        have e1 : ((k + 1 : Nat) : Int) = (k : Int) + 1 := by omega
        have e2 : (fillA N k).root = 1 := rfl
        rw [e1] at HU1
        rw [e2] at HR1
        clear hA1 e1 e2
        unfold iV pV at *
        go_wp2_with (first
          | (go_at_call 19; refine HU1.out.mono ?_; rintro e w' ⟨rfl, rfl⟩)
          | (go_at_call 24; refine HR1.out.mono ?_; rintro e w' ⟨rfl, rfl⟩))
        go_ret
        exact ⟨rfl, HKR.out.trans HK1.out (fun _ _ => id)⟩
end Go.Proofs.Ytdmmhblmgbhgfaa
