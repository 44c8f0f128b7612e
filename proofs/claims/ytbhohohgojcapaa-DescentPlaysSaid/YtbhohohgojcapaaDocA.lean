/- What the methods of the document's arena do: Used, Left, Root, There, Word. -/
import Derived.Test.YtbhohohgojcapaaDocM
namespace Go.Proofs.Ytbhohohgojcapaa
open Go.RowKit

section
variable {M D : Nat → Prop} {w : World} {q : Nat} {L : Value} {xs : List Value} {A : Ar} {ix : Int}

set_option maxHeartbeats 400000 in
theorem usedR (h : DocW w M D q L xs A) : Calls Try.prog 26 #[pV q] w fun e w' => e = .returned (iV A.sl.length) ∧ w = w' := by
  obtain ⟨_, a, c, rfl, _, _, _⟩ := h.row
  have c1 : w.cell? ⟨q, 1, none⟩ = some (.slice a A.sl.length c) := h.blk.cell 1
  clear h
  unfold pV iV
  go_enter Try.func26, Try.ntmps26
  go_wp2
  go_ret
  exact ⟨rfl, rfl⟩

set_option maxHeartbeats 400000 in
theorem leftR (h : DocW w M D q L xs A) : Calls Try.prog 71 #[pV q] w fun e w' => e = .returned (iV (A.nodes - A.sl.length)) ∧ ∃ n, w.drewN n = w' := by
  have hb := h.bound
  have hb1 := hb.1
  have hb2 := hb.2
  obtain ⟨_, a, c, rfl, _, _, _⟩ := h.row
  have c0 : w.cell? ⟨q, 0, none⟩ = some (iV A.nodes) := h.blk.cell 0
  have c1 : w.cell? ⟨q, 1, none⟩ = some (.slice a A.sl.length c) := h.blk.cell 1
  clear h hb
  unfold pV iV at *
  go_enter Try.func71, Try.ntmps71
  go_wp2
  go_quiet (fail)
  go_wp2
  go_ret
  exact ⟨rfl, _, rfl⟩

set_option maxHeartbeats 400000 in
theorem rootR (h : DocW w M D q L xs A) : Calls Try.prog 62 #[pV q] w fun e w' => e = .returned (iV A.root) ∧ w = w' := by
  have c2 : w.cell? ⟨q, 2, none⟩ = some (.int .i64 A.root) := h.blk.cell 2
  clear h
  unfold pV iV at *
  go_enter Try.func62, Try.ntmps62
  go_wp2
  go_ret
  exact ⟨rfl, rfl⟩

set_option maxHeartbeats 400000 in
theorem thereR (h : DocW w M D q L xs A) : Calls Try.prog 76 #[pV q, iV ix] w fun e w' => e = .returned (.bool (A.get ix).isSome) ∧ w = w' := by
  obtain ⟨_, a, c, rfl, _, _, _⟩ := h.row
  have c1 : w.cell? ⟨q, 1, none⟩ = some (.slice a A.sl.length c) := h.blk.cell 1
  clear h
  cases hg : A.get ix with
  | none =>
    rcases get_none hg with h1 | h1
    · clear hg
      unfold pV iV
      go_enter Try.func76, Try.ntmps76
      go_wp2
      go_ret
      exact ⟨rfl, rfl⟩
    · have h2 : 1 ≤ ix := by omega
      have hd : decide (ix ≤ (A.sl.length : Int)) = false := by simp; omega
      clear hg
      unfold pV iV
      go_enter Try.func76, Try.ntmps76
      go_wp2
      go_ret
      exact ⟨rfl, rfl⟩
  | some s =>
    obtain ⟨h1, h2⟩ := get_le hg
    clear hg
    unfold pV iV
    go_enter Try.func76, Try.ntmps76
    go_wp2
    go_ret
    exact ⟨rfl, rfl⟩

set_option maxHeartbeats 400000 in
theorem wordR (h : DocW w M D q L xs A) : Calls Try.prog 46 #[pV q, iV ix] w fun e w' => e = .returned (.tuple #[.int .u64 (opWord A ix), iV (opErr A ix)]) ∧ w = w' := by
  have H := Lib.hid (thereR (ix := ix) h)
  cases hg : A.get ix with
  | none =>
    rw [opWord_none hg, opErr_none hg]
    rw [hg] at H
    clear h hg
    unfold pV iV at *
    go_enter Try.func46, Try.ntmps46
    go_wp2_with (go_at_call 76; refine H.out.mono ?_; rintro e w' ⟨rfl, rfl⟩)
    go_ret2
    exact ⟨rfl, rfl⟩
  | some s =>
    rw [opWord_some hg, opErr_some hg]
    rw [hg] at H
    obtain ⟨i, g, o, c, hid, hs, h3, hi, hl, rfl, hm, hb, hc, hf, hu⟩ := h.at_ hg
    have c1 : w.cell? ⟨q, 1, none⟩ = some (.slice (some ⟨g, o, none⟩) A.sl.length c) := h.blk.cell 1
    have h1 : 1 ≤ ix := by omega
    have h2 : ix ≤ A.sl.length := by omega
    have h3' : ix.toNat - 1 = i := by omega
    clear h hg hs hm hb hf hu hid
    unfold pV iV at *
    go_enter Try.func46, Try.ntmps46
    go_wp2_with (go_at_call 76; refine H.out.mono ?_; rintro e w' ⟨rfl, rfl⟩)
    go_ret2
    exact ⟨rfl, rfl⟩
end
end Go.Proofs.Ytbhohohgojcapaa
