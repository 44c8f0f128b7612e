/- spoil: it writes into the node's own rows alone. -/
import Derived.Test.YtdmmhblmgbhgfaaShape
import Derived.Test.YtdmmhblmgbhgfaaRegion
namespace Go.Proofs.Ytdmmhblmgbhgfaa
open Go.RowKit

theorem bV_inc (b : UInt8) : Value.int .u8 (((b.toNat : Int) + 1) % 256) = bV (b + 1) := by
  unfold bV
  rw [UInt8.toNat_add]
  congr 1

section
variable {S : Nat → Prop} {w : World} {c0 c1 c2 c3 c4 c5 : Value} {n : Nd}

/-- What a round of spoil keeps. -/
def SpK (S : Nat → Prop) (w : World) (c0 c1 c2 c3 c4 c5 : Value) (n : Nd) (wr : World) : Prop :=
  Spo S w c1 c3 c4 c5 n.high.length n.keys.length n.vals.length n.kids.length wr ∧ Blk wr w.heap.size 51 #[c0, c1, c2, c3, c4, c5]
section
variable {wr : World} {g i : Nat} {cs : Array Value}
theorem SpK.byte (h : SpK S w c0 c1 c2 c3 c4 c5 n wr) (hs : S g) (hb : Blk wr g 5 cs) (b : UInt8) : SpK S w c0 c1 c2 c3 c4 c5 n (wr.setCell ⟨g, i, none⟩ (bV b)) :=
  ⟨h.1.byte hs hb b, h.2.far (Blk.ne_ h.2 hb (by decide)) _⟩
theorem SpK.nil_ (h : SpK S w c0 c1 c2 c3 c4 c5 n wr) (hs : S g) (hb : Blk wr g 44 cs) : SpK S w c0 c1 c2 c3 c4 c5 n (wr.setCell ⟨g, i, none⟩ (.slice none 0 0)) :=
  ⟨h.1.nil_ hs hb, h.2.far (Blk.ne_ h.2 hb (by decide)) _⟩
theorem SpK.int (h : SpK S w c0 c1 c2 c3 c4 c5 n wr) (hs : S g) (hb : Blk wr g 3 cs) (b : Int) : SpK S w c0 c1 c2 c3 c4 c5 n (wr.setCell ⟨g, i, none⟩ (.int .i64 b)) :=
  ⟨h.1.int hs hb b, h.2.far (Blk.ne_ h.2 hb (by decide)) _⟩
end

set_option maxRecDepth 100000 in
set_option maxHeartbeats 1000000 in
theorem spoil9 (h : ONd w S c0 c1 c2 c3 c4 c5 n) : Calls Try.prog 41 #[.agg #[c0, c1, c2, c3, c4, c5]] w fun e w' => e = .returned (.tuple #[]) ∧ Keeps S w w' := by
  obtain ⟨A1, k1, e1, _, m1⟩ := h.1.high.r.form
  obtain ⟨A3, k3, e3, _, m3⟩ := h.2.keys.r.form
  obtain ⟨A4, k4, e4, _, m4⟩ := h.2.vals.r.form
  obtain ⟨A5, k5, e5, _, m5⟩ := h.2.kids.r.form
  subst e1 e3 e4 e5
  have z1 : n.high.length ≤ 9223372036854775807 := by unfold maxLen at m1; omega
  have z3 : n.keys.length ≤ 9223372036854775807 := by unfold maxLen at m3; omega
  have z4 : n.vals.length ≤ 9223372036854775807 := by unfold maxLen at m4; omega
  have z5 : n.kids.length ≤ 9223372036854775807 := by unfold maxLen at m5; omega
  have HP0 : Hid (SpK S w c0 (.slice A1 n.high.length k1) c2 (.slice A3 n.keys.length k3) (.slice A4 n.vals.length k4) (.slice A5 n.kids.length k5) n (w.alloc (.cells #[c0, .slice A1 n.high.length k1, c2, .slice A3 n.keys.length k3, .slice A4 n.vals.length k4, .slice A5 n.kids.length k5] 51))) := ⟨(Spo.of h).alloc _, Blk.new _ _ _⟩
  clear h m1 m3 m4 m5
  go_enter Try.func41, Try.ntmps41
  go_wp2
  go_loopw [2] (fun i wr => ∃ k : Nat, k ≤ n.high.length ∧ i = .int .i64 k ∧ SpK S w c0 (.slice A1 n.high.length k1) c2 (.slice A3 n.keys.length k3) (.slice A4 n.vals.length k4) (.slice A5 n.kids.length k5) n wr) (fun i _ => n.high.length - (intOf i).toNat)
  case atStart => exact ⟨0, Nat.zero_le _, rfl, HP0.out⟩
  obtain ⟨k, hk, rfl, hP⟩ := hrel
  have q := fun i => hP.2.cell i
  rcases Nat.lt_or_ge k n.high.length with hlt | hlt
  · obtain ⟨g, o, cs, b, rfl, hs, hb, hc⟩ := hP.1.high.get hlt
    have hf := hb.frozen (o + k)
    unfold bV at hc
    have HP := Lib.hid hP
    have HB := Lib.hid hb
    have HSg : Hid (S g) := hs
    clear hP hb hs
    go_wp2
    go_roundw
    case rel => exact ⟨k + 1, by omega, by go_num, by rw [bV_inc]; exact HP.out.byte HSg.out HB.out _⟩
    case measure => simp [intOf]; omega
  obtain rfl : k = n.high.length := by omega
  have HP1 := Lib.hid hP
  clear hP
  go_wp2
  clear q
  go_loopw [3] (fun i wr => ∃ k : Nat, k ≤ n.keys.length ∧ i = .int .i64 k ∧ SpK S w c0 (.slice A1 n.high.length k1) c2 (.slice A3 n.keys.length k3) (.slice A4 n.vals.length k4) (.slice A5 n.kids.length k5) n wr) (fun i _ => n.keys.length - (intOf i).toNat)
  case atStart => exact ⟨0, Nat.zero_le _, rfl, HP1.out⟩
  obtain ⟨k, hk, rfl, hP⟩ := hrel
  have q := fun i => hP.2.cell i
  rcases Nat.lt_or_ge k n.keys.length with hlt | hlt
  · obtain ⟨g, o, cs, A', m, c', rfl, hs, hb, hc, hsb, hm⟩ := hP.1.keys.get hlt
    have hm2 : m ≤ 9223372036854775807 := by unfold maxLen at hm; omega
    have HP := Lib.hid hP
    have HB := Lib.hid hb
    have HSg : Hid (S g) := hs
    have HSB := Lib.hid hsb
    have CS : Hid (cs[o + k]? = some (.slice A' m c')) := by rw [← hb.cell]; exact hc
    clear hP hb hs hsb hm
    go_wp2
    clear q hc
    go_loopw [4] (fun i wz => ∃ j : Nat, j ≤ m ∧ i = .int .i64 j ∧ (SpK S w c0 (.slice A1 n.high.length k1) c2 (.slice (some ⟨g, o, none⟩) n.keys.length k3) (.slice A4 n.vals.length k4) (.slice A5 n.kids.length k5) n wz ∧ Blk wz g 44 cs ∧ ShB wz S (.slice A' m c') m)) (fun i _ => m - (intOf i).toNat)
    case atStart => exact ⟨0, Nat.zero_le _, rfl, HP.out, HB.out, HSB.out⟩
    obtain ⟨j, hj, rfl, hP2, hb2, hsb2⟩ := hrel
    have q := fun i => hP2.2.cell i
    have hc : cs[o + k]? = some (.slice A' m c') := CS.out
    have hcc : wr.cell? ⟨g, o + k, none⟩ = some (.slice A' m c') := by rw [hb2.cell]; exact hc
    clear hc
    rcases Nat.lt_or_ge j m with hjm | hjm
    · obtain ⟨g2, o2, cs2, b, rfl, hs2, hb3, hc3⟩ := hsb2.get hjm
      have hf2 := hb3.frozen (o2 + j)
      unfold bV at hc3
      have HP2 := Lib.hid hP2
      have HB2 := Lib.hid hb2
      have HB3 := Lib.hid hb3
      have HS2 : Hid (S g2) := hs2
      have HSB2 := Lib.hid hsb2
      clear hP2 hb2 hb3 hs2 hsb2
      go_wp2
      go_roundw
      case rel => exact ⟨j + 1, by omega, by go_num, by rw [bV_inc]; exact ⟨HP2.out.byte HS2.out HB3.out _, HB2.out.far (Blk.ne_ HB2.out HB3.out (by decide)) _, HSB2.out.byte _⟩⟩
      case measure => simp [intOf]; omega
    · obtain rfl : j = m := by omega
      have hf2 := hb2.frozen (o + k)
      have HP2 := Lib.hid hP2
      have HB2 := Lib.hid hb2
      clear hP2 hb2 hsb2
      go_wp2
      go_roundw
      case rel => exact ⟨k + 1, by omega, by go_num, HP2.out.nil_ HSg.out HB2.out⟩
      case measure => simp [intOf]; omega
  obtain rfl : k = n.keys.length := by omega
  have HP2 := Lib.hid hP
  clear hP
  go_wp2
  clear q
  go_loopw [5] (fun i wr => ∃ k : Nat, k ≤ n.vals.length ∧ i = .int .i64 k ∧ SpK S w c0 (.slice A1 n.high.length k1) c2 (.slice A3 n.keys.length k3) (.slice A4 n.vals.length k4) (.slice A5 n.kids.length k5) n wr) (fun i _ => n.vals.length - (intOf i).toNat)
  case atStart => exact ⟨0, Nat.zero_le _, rfl, HP2.out⟩
  obtain ⟨k, hk, rfl, hP⟩ := hrel
  have q := fun i => hP.2.cell i
  rcases Nat.lt_or_ge k n.vals.length with hlt | hlt
  · obtain ⟨g, o, cs, A', m, c', rfl, hs, hb, hc, hsb, hm⟩ := hP.1.vals.get hlt
    have hm2 : m ≤ 9223372036854775807 := by unfold maxLen at hm; omega
    have HP := Lib.hid hP
    have HB := Lib.hid hb
    have HSg : Hid (S g) := hs
    have HSB := Lib.hid hsb
    have CS : Hid (cs[o + k]? = some (.slice A' m c')) := by rw [← hb.cell]; exact hc
    clear hP hb hs hsb hm
    go_wp2
    clear q hc
    go_loopw [6] (fun i wz => ∃ j : Nat, j ≤ m ∧ i = .int .i64 j ∧ (SpK S w c0 (.slice A1 n.high.length k1) c2 (.slice A3 n.keys.length k3) (.slice (some ⟨g, o, none⟩) n.vals.length k4) (.slice A5 n.kids.length k5) n wz ∧ Blk wz g 44 cs ∧ ShB wz S (.slice A' m c') m)) (fun i _ => m - (intOf i).toNat)
    case atStart => exact ⟨0, Nat.zero_le _, rfl, HP.out, HB.out, HSB.out⟩
    obtain ⟨j, hj, rfl, hP2, hb2, hsb2⟩ := hrel
    have q := fun i => hP2.2.cell i
    have hc : cs[o + k]? = some (.slice A' m c') := CS.out
    have hcc : wr.cell? ⟨g, o + k, none⟩ = some (.slice A' m c') := by rw [hb2.cell]; exact hc
    clear hc
    rcases Nat.lt_or_ge j m with hjm | hjm
    · obtain ⟨g2, o2, cs2, b, rfl, hs2, hb3, hc3⟩ := hsb2.get hjm
      have hf2 := hb3.frozen (o2 + j)
      unfold bV at hc3
      have HP2 := Lib.hid hP2
      have HB2 := Lib.hid hb2
      have HB3 := Lib.hid hb3
      have HS2 : Hid (S g2) := hs2
      have HSB2 := Lib.hid hsb2
      clear hP2 hb2 hb3 hs2 hsb2
      go_wp2
      go_roundw
      case rel => exact ⟨j + 1, by omega, by go_num, by rw [bV_inc]; exact ⟨HP2.out.byte HS2.out HB3.out _, HB2.out.far (Blk.ne_ HB2.out HB3.out (by decide)) _, HSB2.out.byte _⟩⟩
      case measure => simp [intOf]; omega
    · obtain rfl : j = m := by omega
      have hf2 := hb2.frozen (o + k)
      have HP2 := Lib.hid hP2
      have HB2 := Lib.hid hb2
      clear hP2 hb2 hsb2
      go_wp2
      go_roundw
      case rel => exact ⟨k + 1, by omega, by go_num, HP2.out.nil_ HSg.out HB2.out⟩
      case measure => simp [intOf]; omega
  obtain rfl : k = n.vals.length := by omega
  have HP3 := Lib.hid hP
  clear hP
  go_wp2
  clear q
  go_loopw [7] (fun i wr => ∃ k : Nat, k ≤ n.kids.length ∧ i = .int .i64 k ∧ SpK S w c0 (.slice A1 n.high.length k1) c2 (.slice A3 n.keys.length k3) (.slice A4 n.vals.length k4) (.slice A5 n.kids.length k5) n wr) (fun i _ => n.kids.length - (intOf i).toNat)
  case atStart => exact ⟨0, Nat.zero_le _, rfl, HP3.out⟩
  obtain ⟨k, hk, rfl, hP⟩ := hrel
  have q := fun i => hP.2.cell i
  rcases Nat.lt_or_ge k n.kids.length with hlt | hlt
  · obtain ⟨g, o, cs, b, rfl, hs, hb, hc⟩ := hP.1.kids.get hlt
    have hf := hb.frozen (o + k)
    unfold iV at hc
    have HP := Lib.hid hP
    have HB := Lib.hid hb
    have HSg : Hid (S g) := hs
    clear hP hb hs
    go_wp2
    go_roundw
    case rel => exact ⟨k + 1, by omega, by go_num, HP.out.int HSg.out HB.out _⟩
    case measure => simp [intOf]; omega
  obtain rfl : k = n.kids.length := by omega
  have HP4 := Lib.hid hP
  clear hP
  go_wp2
  go_end0
  exact ⟨rfl, HP4.out.1.kept⟩
end
end Go.Proofs.Ytdmmhblmgbhgfaa
