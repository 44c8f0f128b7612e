/- What the methods of the document's arena do: Lock, held, Unlock, Grow. -/
import Derived.Test.YtbhohohgojcapaaDocA
import Derived.Test.YtbhohohgojcapaaArB
namespace Go.Proofs.Ytbhohohgojcapaa
open Go.RowKit

section
variable {M D : Nat → Prop} {w : World} {q : Nat} {L : Value} {xs : List Value} {A : Ar} {ix : Int}

/-- The document's arena behind a call, and what the call wrote. -/
def DocS (_ w' : World) (M D : Nat → Prop) (q : Nat) (A : Ar) : Prop := ∃ L xs, DocW w' M D q L xs A

theorem mod2_int (x : Nat) : (x : Int).tmod 2 = ((x % 2 : Nat) : Int) := by
  rw [Int.tmod_eq_emod_of_nonneg (by omega)]; omega

set_option maxHeartbeats 800000 in
theorem lockR {wd : Nat} (h : DocW w M D q L xs A) (hw : U64 wd) : Calls Try.prog 90 #[pV q, iV ix, .int .u64 wd] w fun e w' => e = .returned (.tuple #[.bool (opLock A ix wd).1, iV (opLock A ix wd).2.1]) ∧ DocS w w' M D q (opLock A ix wd).2.2 ∧ Keeps M w w' := by
  have H := Lib.hid (thereR (ix := ix) h)
  have HA := Lib.hid h
  cases hg : A.get ix with
  | none =>
    rw [opLock_none hg]
    rw [hg] at H
    clear h hg hw
    unfold pV iV at *
    go_enter Try.func90, Try.ntmps90
    go_wp2_with (go_at_call 76; refine H.out.mono ?_; rintro e w' ⟨rfl, rfl⟩)
    go_ret2
    exact ⟨rfl, ⟨_, _, HA.out⟩, Keeps.refl _ _⟩
  | some s =>
    rw [opLock_some hg]
    rw [hg] at H
    obtain ⟨i, g, o, c, hid, hs, h3, hi, hl, rfl, hm, hb, hc, hf, hu⟩ := h.at_ hg
    have c1 : w.cell? ⟨q, 1, none⟩ = some (.slice (some ⟨g, o, none⟩) A.sl.length c) := h.blk.cell 1
    have h1 : 1 ≤ ix := by omega
    have h2 : ix ≤ A.sl.length := by omega
    have h3' : ix.toNat - 1 = i := by omega
    have HSW := Lib.hid (h.setWord hs (x := wd + 1))
    have HM := Lib.hid hm
    have HI := Lib.hid h3
    have hw0 : (0 : Int) ≤ wd := by omega
    have hw1 : (wd : Int) < 18446744073709551616 := by unfold U64 at hw; omega
    have hmod := mod2_int wd
    clear h hg hs hm hb hu hid
    by_cases hq : s.word = wd
    · rw [hq] at hc
      by_cases he : wd % 2 = 0
      · rw [if_pos ⟨hq, he⟩]
        rw [he] at hmod
        have HU : Hid (U64 (wd + 1)) := by show U64 _; unfold U64 at *; omega
        have hlt : (wd : Int) + 1 < 18446744073709551616 := by unfold U64 at hw; omega
        clear hq he hw
        unfold pV iV at *
        go_enter Try.func90, Try.ntmps90
        go_wp2_with (go_at_call 76; refine H.out.mono ?_; rintro e w' ⟨rfl, rfl⟩)
        go_ret2
        refine ⟨rfl, ?_, Keeps.setCell w HM.out _⟩
        have := HSW.out HU.out
        unfold Ar.put; rw [HI.out]; exact ⟨_, _, this⟩
      · rw [if_neg (fun hx => he hx.2)]
        have ho : wd % 2 = 1 := by omega
        rw [ho] at hmod
        clear hq he hw ho
        unfold pV iV at *
        go_enter Try.func90, Try.ntmps90
        go_wp2_with (go_at_call 76; refine H.out.mono ?_; rintro e w' ⟨rfl, rfl⟩)
        go_ret2
        exact ⟨rfl, ⟨_, _, HA.out⟩, Keeps.refl _ _⟩
    · rw [if_neg (fun hx => hq hx.1)]
      have hq' : ¬ (s.word : Int) = wd := by omega
      clear hq hmod hw
      unfold pV iV at *
      go_enter Try.func90, Try.ntmps90
      go_wp2_with (go_at_call 76; refine H.out.mono ?_; rintro e w' ⟨rfl, rfl⟩)
      go_ret2
      exact ⟨rfl, ⟨_, _, HA.out⟩, Keeps.refl _ _⟩

set_option maxHeartbeats 400000 in
theorem heldR (h : DocW w M D q L xs A) : Calls Try.prog 93 #[pV q, iV ix] w fun e w' => e = .returned (iV (opHeld A ix)) ∧ w = w' := by
  have H := Lib.hid (thereR (ix := ix) h)
  cases hg : A.get ix with
  | none =>
    rw [opHeld_none hg]
    rw [hg] at H
    clear h hg
    unfold pV iV at *
    go_enter Try.func93, Try.ntmps93
    go_wp2_with (go_at_call 76; refine H.out.mono ?_; rintro e w' ⟨rfl, rfl⟩)
    go_ret
    exact ⟨rfl, rfl⟩
  | some s =>
    rw [opHeld_some hg]
    rw [hg] at H
    obtain ⟨i, g, o, c, hid, hs, h3, hi, hl, rfl, hm, hb, hc, hf, hu⟩ := h.at_ hg
    have c1 : w.cell? ⟨q, 1, none⟩ = some (.slice (some ⟨g, o, none⟩) A.sl.length c) := h.blk.cell 1
    have h1 : 1 ≤ ix := by omega
    have h2 : ix ≤ A.sl.length := by omega
    have h3' : ix.toNat - 1 = i := by omega
    have hw0 : (0 : Int) ≤ s.word := by omega
    have hw1 : (s.word : Int) < 18446744073709551616 := by unfold U64 at hu; omega
    have hmod := mod2_int s.word
    clear h hg hs hm hb hu hid
    by_cases he : s.word % 2 = 0
    · rw [if_pos he]
      rw [he] at hmod
      clear he
      unfold pV iV at *
      go_enter Try.func93, Try.ntmps93
      go_wp2_with (go_at_call 76; refine H.out.mono ?_; rintro e w' ⟨rfl, rfl⟩)
      go_ret
      exact ⟨rfl, rfl⟩
    · rw [if_neg he]
      rw [show s.word % 2 = 1 by omega] at hmod
      clear he
      unfold pV iV at *
      go_enter Try.func93, Try.ntmps93
      go_wp2_with (go_at_call 76; refine H.out.mono ?_; rintro e w' ⟨rfl, rfl⟩)
      go_ret
      exact ⟨rfl, rfl⟩

set_option maxHeartbeats 800000 in
theorem growR {old to : Int} (h : DocW w M D q L xs A) : Calls Try.prog 55 #[pV q, iV old, iV to] w fun e w' => e = .returned (.tuple #[.bool (opGrow A old to).1, iV (opGrow A old to).2.1]) ∧ DocS w w' M D q (opGrow A old to).2.2 ∧ Keeps M w w' := by
  have H := Lib.hid (thereR (ix := to) h)
  have HA := Lib.hid h
  cases hg : A.get to with
  | none =>
    rw [opGrow_none hg]
    rw [hg] at H
    clear h hg
    unfold pV iV at *
    go_enter Try.func55, Try.ntmps55
    go_wp2_with (go_at_call 76; refine H.out.mono ?_; rintro e w' ⟨rfl, rfl⟩)
    go_ret2
    exact ⟨rfl, ⟨_, _, HA.out⟩, Keeps.refl _ _⟩
  | some s =>
    rw [opGrow_some hg]
    rw [hg] at H
    have hc : w.cell? ⟨q, 2, none⟩ = some (.int .i64 A.root) := h.blk.cell 2
    have hf := h.blk.frozen 2
    have HR := Lib.hid (h.setRoot to)
    have HM : Hid (M q) := h.mp
    clear h hg
    by_cases hq : A.root = old
    · rw [if_pos hq]
      rw [hq] at hc
      clear hq
      unfold pV iV at *
      go_enter Try.func55, Try.ntmps55
      go_wp2_with (go_at_call 76; refine H.out.mono ?_; rintro e w' ⟨rfl, rfl⟩)
      go_ret2
      exact ⟨rfl, ⟨_, _, HR.out⟩, Keeps.setCell w HM.out _⟩
    · rw [if_neg hq]
      unfold pV iV at *
      go_enter Try.func55, Try.ntmps55
      go_wp2_with (go_at_call 76; refine H.out.mono ?_; rintro e w' ⟨rfl, rfl⟩)
      go_ret2
      exact ⟨rfl, ⟨_, _, HA.out⟩, Keeps.refl _ _⟩

set_option maxHeartbeats 800000 in
theorem unlockR {c : Bool} (h : DocW w M D q L xs A) : Calls Try.prog 49 #[pV q, iV ix, .bool c] w fun e w' => e = .returned (iV (opUnlock A ix c).1) ∧ DocS w w' M D q (opUnlock A ix c).2 ∧ Keeps M w w' := by
  have H := Lib.hid (heldR (ix := ix) h)
  rcases held_cases A ix with ⟨h0, s, hg, he⟩ | ⟨hn, hn'⟩
  · have hx : opUnlock A ix c = (0, A.put ix ⟨back s.word c, s.nd⟩) := by unfold opUnlock; rw [hg]; simp [he]
    rw [hx]
    rw [h0] at H
    obtain ⟨i, g, o, c', hid, hs, h3, hi, hl, rfl, hm, hb, hc, hf, hu⟩ := h.at_ hg
    have c1 : w.cell? ⟨q, 1, none⟩ = some (.slice (some ⟨g, o, none⟩) A.sl.length c') := h.blk.cell 1
    have h1 : 1 ≤ ix := by omega
    have h2 : ix ≤ A.sl.length := by omega
    have h3' : ix.toNat - 1 = i := by omega
    have HSW := Lib.hid (h.setWord hs (back_u64 s.word c hu))
    have HM := Lib.hid hm
    have HI := Lib.hid h3
    obtain ⟨e1, _⟩ := back_int s.word he hu
    have E1 := Lib.hid e1
    have e3 : IntKind.u64.wrap ((s.word : Int) - 1) = ((back s.word false : Nat) : Int) := by
      rw [IntKind.wrap_u64]; unfold back U64 at *; simp; omega
    have E3 := Lib.hid e3
    clear h hg hs hm hb hid h0 he hx hu e1 e3
    unfold pV iV at *
    cases c
    all_goals
      go_enter Try.func49, Try.ntmps49
      go_wp2_with (go_at_call 93; refine H.out.mono ?_; rintro e w' ⟨rfl, rfl⟩)
      go_ret
      refine ⟨rfl, ?_, Keeps.setCell w HM.out _⟩
      have := HSW.out
      unfold Ar.put; rw [HI.out]
      first | rw [IntKind.wrap_u64, E1.out] | rw [E1.out] | rw [E3.out]
      exact ⟨_, _, this⟩
  · rw [opUnlock_no hn]
    have HA := Lib.hid h
    have hn2 : (opHeld A ix != 0) = true := by simp [hn]
    clear h hn hn'
    show Calls _ _ _ _ (fun e w' => e = .returned (iV (opHeld A ix)) ∧ DocS w w' M D q A ∧ Keeps M w w')
    generalize opHeld A ix = ob at *
    unfold pV iV at *
    go_enter Try.func49, Try.ntmps49
    go_wp2_with (go_at_call 93; refine H.out.mono ?_; rintro e w' ⟨rfl, rfl⟩)
    go_ret
    exact ⟨rfl, ⟨_, _, HA.out⟩, Keeps.refl _ _⟩
end
end Go.Proofs.Ytbhohohgojcapaa
