/- What the methods Lock, Unlock and Grow of the program's arena do. -/
import Derived.Test.YtbhohohgojcapaaArM
import Derived.Test.YtbhohohgojcapaaArH
import Derived.Test.YtbhohohgojcapaaAtomB
namespace Go.Proofs.Ytbhohohgojcapaa
open Go.RowKit

section
variable {M D : Nat → Prop} {w : World} {p : Nat} {slots : Value} {ids : List Nat} {A : Ar} {id : Int}

set_option maxHeartbeats 800000 in
theorem lockX {wd : Nat} (h : ArW w M D p slots ids A) (hw : U64 wd) : Calls Try.prog 89 #[pV p, iV id, .int .u64 wd] w fun e w' => e = .returned (.tuple #[.bool (opLock A id wd).1, iV (opLock A id wd).2.1]) ∧ ArW w' M D p slots ids (opLock A id wd).2.2 ∧ Keeps M w w' := by
  cases hg : A.get id with
  | none =>
    rw [opLock_none hg]
    have H := Lib.hid (at_out h (get_none hg))
    have HA := Lib.hid h
    clear h hg hw
    unfold pV iV at *
    go_enter Try.func89, Try.ntmps89
    go_wp2_with (go_at_call 58; refine H.out.mono ?_; rintro e w' ⟨rfl, rfl⟩)
    go_ret2
    exact ⟨rfl, HA.out, Keeps.refl _ _⟩
  | some s =>
    rw [opLock_some hg]
    obtain ⟨i, b, hid, hs, hi, hb⟩ := h.at_ hg
    have H := Lib.hid (at_in h hid hb)
    have HA := Lib.hid h
    have hc := h.slotCell hb hs
    have hf := h.slotFrozen hb hs 0
    have hM : M b := h.mids b (List.mem_of_getElem? hb)
    have HSW := Lib.hid (h.setWord hb hs (x := wd + 1))
    have HM := Lib.hid hM
    have hodd := odd_bits wd hw
    have HI := Lib.hid hi
    clear h hg hid hs hb hM hi
    by_cases he : wd % 2 = 0
    · rw [he] at hodd
      have hb1 : (bits BinOp.and IntKind.u64 (↑wd) 1 == 0) = true := by rw [hodd]; rfl
      clear hodd
      have hlt : (wd : Int) + 1 < 18446744073709551616 := by unfold U64 at hw; omega
      have HU : Hid (U64 (wd + 1)) := by show U64 _; unfold U64 at *; omega
      clear hw
      by_cases hq : s.word = wd
      · rw [if_pos ⟨hq, he⟩]
        rw [hq] at hc
        clear hq he
        unfold pV iV at *
        go_enter Try.func89, Try.ntmps89
        go_wp2_with (first
          | (go_at_call 58; refine H.out.mono ?_; rintro e w' ⟨rfl, rfl⟩)
          | (go_at_call 111; refine (casU1 hc hf).mono ?_; rintro e w' ⟨rfl, rfl⟩))
        go_ret2
        refine ⟨rfl, ?_, Keeps.setCell w HM.out _⟩
        have := HSW.out HU.out
        unfold Ar.put; rw [HI.out]; exact this
      · rw [if_neg (fun hx => hq hx.1)]
        have hq' : ¬ (s.word : Int) = wd := by omega
        clear hq he
        unfold pV iV at *
        go_enter Try.func89, Try.ntmps89
        go_wp2_with (first
          | (go_at_call 58; refine H.out.mono ?_; rintro e w' ⟨rfl, rfl⟩)
          | (go_at_call 111; refine (casU0 hc hf hq').mono ?_; rintro e w' ⟨rfl, rfl⟩))
        go_ret2
        exact ⟨rfl, HA.out, Keeps.refl _ _⟩
    · rw [if_neg (fun hx => he hx.2)]
      have ho : wd % 2 = 1 := by omega
      rw [ho] at hodd
      have hb1 : (bits BinOp.and IntKind.u64 (↑wd) 1 == 0) = false := by rw [hodd]; rfl
      clear hodd he ho hw hc hf
      unfold pV iV at *
      go_enter Try.func89, Try.ntmps89
      go_wp2_with (go_at_call 58; refine H.out.mono ?_; rintro e w' ⟨rfl, rfl⟩)
      go_ret2
      exact ⟨rfl, HA.out, Keeps.refl _ _⟩

set_option maxHeartbeats 400000 in
theorem under_no (h : ArW w M D p slots ids A) (hn : opHeld A id ≠ 0) : Calls Try.prog 91 #[pV p, iV id] w fun e w' => e = .returned (.tuple #[.pointer none, iV (opHeld A id)]) ∧ w = w' := by
  cases hg : A.get id with
  | none =>
    rw [opHeld_none hg]
    have H := Lib.hid (at_out h (get_none hg))
    clear h hg hn
    unfold pV iV at *
    go_enter Try.func91, Try.ntmps91
    go_wp2_with (go_at_call 58; refine H.out.mono ?_; rintro e w' ⟨rfl, rfl⟩)
    go_ret2
    exact ⟨rfl, rfl⟩
  | some s =>
    rw [opHeld_some hg] at hn ⊢
    by_cases he : s.word % 2 = 0
    · rw [if_pos he]
      obtain ⟨i, b, hid, hs, hi, hb⟩ := h.at_ hg
      have H := Lib.hid (at_in h hid hb)
      have hc := h.slotCell hb hs
      have hodd := odd_bits s.word (h.word64 hb hs)
      rw [he] at hodd
      have hb1 : (bits BinOp.and IntKind.u64 (↑s.word) 1 == 0) = true := by rw [hodd]; rfl
      clear h hg hid hs hb hi hn he hodd
      unfold pV iV at *
      go_enter Try.func91, Try.ntmps91
      go_wp2_with (first
        | (go_at_call 58; refine H.out.mono ?_; rintro e w' ⟨rfl, rfl⟩)
        | (go_at_call 59; refine (loadU hc).mono ?_; rintro e w' ⟨rfl, rfl⟩))
      go_ret2
      exact ⟨rfl, rfl⟩
    · exact absurd (if_neg he) hn

set_option maxHeartbeats 400000 in
theorem under_yes {s : Sl} {i b : Nat} (h : ArW w M D p slots ids A) (hid : id = (i : Int) + 1) (hs : A.sl[i]? = some s) (hb : ids[i]? = some b) (he : ¬ s.word % 2 = 0) : Calls Try.prog 91 #[pV p, iV id] w fun e w' => e = .returned (.tuple #[pV b, iV 0]) ∧ w = w' := by
  have H := Lib.hid (at_in h hid hb)
  have hc := h.slotCell hb hs
  have hodd := odd_bits s.word (h.word64 hb hs)
  rw [show s.word % 2 = 1 by omega] at hodd
  have hb1 : (bits BinOp.and IntKind.u64 (↑s.word) 1 == 0) = false := by rw [hodd]; rfl
  clear h hid hs hb he hodd
  unfold pV iV at *
  go_enter Try.func91, Try.ntmps91
  go_wp2_with (first
    | (go_at_call 58; refine H.out.mono ?_; rintro e w' ⟨rfl, rfl⟩)
    | (go_at_call 59; refine (loadU hc).mono ?_; rintro e w' ⟨rfl, rfl⟩))
  go_ret2
  exact ⟨rfl, rfl⟩

theorem held_cases (A : Ar) (id : Int) : (opHeld A id = 0 ∧ ∃ s, A.get id = some s ∧ ¬ s.word % 2 = 0) ∨ (opHeld A id ≠ 0 ∧ (opHeld A id == 0) = false) := by
  unfold opHeld
  cases hg : A.get id with
  | none => exact .inr ⟨by decide, by decide⟩
  | some s =>
    by_cases he : s.word % 2 = 0
    · right; simp [he]
    · exact .inl ⟨if_neg he, s, rfl, he⟩
theorem opUnlock_no {c : Bool} (hn : opHeld A id ≠ 0) : opUnlock A id c = (opHeld A id, A) := by
  unfold opUnlock opHeld at *
  cases hg : A.get id with
  | none => rfl
  | some s =>
    simp only [hg] at hn
    by_cases he : s.word % 2 = 0
    · simp [he]
    · exact absurd (if_neg he) hn
theorem opSetHead_no {n : Nd} (hn : opHeld A id ≠ 0) : opSetHead A id n = (opHeld A id, A) := by
  unfold opSetHead opHeld at *
  cases hg : A.get id with
  | none => rfl
  | some s =>
    simp only [hg] at hn
    by_cases he : s.word % 2 = 0
    · simp [he]
    · exact absurd (if_neg he) hn
theorem opSetBody_no {n : Nd} (hn : opHeld A id ≠ 0) : opSetBody A id n = (opHeld A id, A) := by
  unfold opSetBody opHeld at *
  cases hg : A.get id with
  | none => rfl
  | some s =>
    simp only [hg] at hn
    by_cases he : s.word % 2 = 0
    · simp [he]
    · exact absurd (if_neg he) hn
theorem back_int (x : Nat) (hx : ¬ x % 2 = 0) (hu : U64 x) : ((x : Int) + 1) % 18446744073709551616 = (back x true : Nat) ∧ ((x : Int) + 18446744073709551615) % 18446744073709551616 = (back x false : Nat) := by
  unfold back U64 at *
  constructor
  · simp
  · simp; omega
theorem back_u64 (x : Nat) (c : Bool) (hu : U64 x) : U64 (back x c) := by
  unfold back U64 at *
  cases c
  · simp; omega
  · simp; omega

set_option maxHeartbeats 800000 in
theorem unlockX {c : Bool} (h : ArW w M D p slots ids A) : Calls Try.prog 48 #[pV p, iV id, .bool c] w fun e w' => e = .returned (iV (opUnlock A id c).1) ∧ ArW w' M D p slots ids (opUnlock A id c).2 ∧ Keeps M w w' := by
  rcases held_cases A id with ⟨h0, s, hg, he⟩ | ⟨hn, hn'⟩
  · obtain ⟨i, b, hid, hs, hi, hb⟩ := h.at_ hg
    have hx : opUnlock A id c = (0, A.put id ⟨back s.word c, s.nd⟩) := by unfold opUnlock; rw [hg]; simp [he]
    rw [hx]
    have H := Lib.hid (under_yes h hid hs hb he)
    have hc := h.slotCell hb hs
    have hf := h.slotFrozen hb hs 0
    have hM : M b := h.mids b (List.mem_of_getElem? hb)
    have hu := h.word64 hb hs
    have HSW := Lib.hid (h.setWord hb hs (back_u64 s.word c hu))
    have HM := Lib.hid hM
    have HI := Lib.hid hi
    obtain ⟨e1, e2⟩ := back_int s.word he hu
    have E1 := Lib.hid e1
    have E2 := Lib.hid e2
    clear h hg hid hs hb hM hi h0 he hx hu e1 e2
    unfold pV iV at *
    cases c
    all_goals
      go_enter Try.func48, Try.ntmps48
      go_wp2_with (first
        | (go_at_call 91; refine H.out.mono ?_; rintro e w' ⟨rfl, rfl⟩)
        | (go_at_call 92; refine (addU hc hf).mono ?_; rintro e w' ⟨⟨v, rfl⟩, rfl⟩))
      go_ret
      refine ⟨rfl, ?_, Keeps.setCell w HM.out _⟩
      have := HSW.out
      unfold Ar.put; rw [HI.out]
      first | rw [E1.out] | rw [E2.out]
      exact this
  · rw [opUnlock_no hn]
    have H := Lib.hid (under_no h hn)
    have HA := Lib.hid h
    have hn2 : (opHeld A id != 0) = true := by simp [hn]
    clear h hn hn'
    show Calls _ _ _ _ (fun e w' => e = .returned (iV (opHeld A id)) ∧ ArW w' M D p slots ids A ∧ Keeps M w w')
    generalize opHeld A id = o at *
    unfold pV iV at *
    go_enter Try.func48, Try.ntmps48
    go_wp2_with (go_at_call 91; refine H.out.mono ?_; rintro e w' ⟨rfl, rfl⟩)
    go_ret
    exact ⟨rfl, HA.out, Keeps.refl _ _⟩

set_option maxHeartbeats 800000 in
theorem growX {old to : Int} (h : ArW w M D p slots ids A) : Calls Try.prog 54 #[pV p, iV old, iV to] w fun e w' => e = .returned (.tuple #[.bool (opGrow A old to).1, iV (opGrow A old to).2.1]) ∧ ArW w' M D p slots ids (opGrow A old to).2.2 ∧ Keeps M w w' := by
  cases hg : A.get to with
  | none =>
    rw [opGrow_none hg]
    have H := Lib.hid (at_out h (get_none hg))
    have HA := Lib.hid h
    clear h hg
    unfold pV iV at *
    go_enter Try.func54, Try.ntmps54
    go_wp2_with (go_at_call 58; refine H.out.mono ?_; rintro e w' ⟨rfl, rfl⟩)
    go_ret2
    exact ⟨rfl, HA.out, Keeps.refl _ _⟩
  | some s =>
    rw [opGrow_some hg]
    obtain ⟨i, b, hid, hs, hi, hb⟩ := h.at_ hg
    have H := Lib.hid (at_in h hid hb)
    have HA := Lib.hid h
    have hc : w.cell? ⟨p, 2, none⟩ = some (.int .i64 A.root) := h.blk.cell 2
    have hf := h.blk.frozen 2
    have HR := Lib.hid (h.setRoot to)
    have HM : Hid (M p) := h.mp
    clear h hg hid hs hb hi
    by_cases hq : A.root = old
    · rw [if_pos hq]
      rw [hq] at hc
      clear hq
      unfold pV iV at *
      go_enter Try.func54, Try.ntmps54
      go_wp2_with (first
        | (go_at_call 58; refine H.out.mono ?_; rintro e w' ⟨rfl, rfl⟩)
        | (go_at_call 95; refine (casI1 hc hf).mono ?_; rintro e w' ⟨rfl, rfl⟩))
      go_ret2
      exact ⟨rfl, HR.out, Keeps.setCell w HM.out _⟩
    · rw [if_neg hq]
      unfold pV iV at *
      go_enter Try.func54, Try.ntmps54
      go_wp2_with (first
        | (go_at_call 58; refine H.out.mono ?_; rintro e w' ⟨rfl, rfl⟩)
        | (go_at_call 95; refine (casI0 hc hf hq).mono ?_; rintro e w' ⟨rfl, rfl⟩))
      go_ret2
      exact ⟨rfl, HA.out, Keeps.refl _ _⟩
end
end Go.Proofs.Ytbhohohgojcapaa
