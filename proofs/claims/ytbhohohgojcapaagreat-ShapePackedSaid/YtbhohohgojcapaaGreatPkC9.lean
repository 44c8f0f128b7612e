import Derived.Test.YtbhohohgojcapaaGreatPkC8
namespace Go.Proofs.YtbhohohgojcapaaGreat
open Go.RowKit

section
variable {S T : Nat → Prop} {w : World} {a c0 c1 c2 c3 c4 c5 : Value} {n : Nd} {x : List UInt8}

set_option maxRecDepth 100000 in
set_option maxHeartbeats 2000000 in
theorem kidsR {a0 a1 a2 a3 a4 : Int} (h : IsNd w S c0 c1 c2 c3 c4 c5 n) : Calls Tryz.prog 140 #[.agg #[c0, c1, c2, c3, c4, c5], .agg #[.int .i64 a0, .int .i64 a1, .int .i64 a2, .int .i64 a3, .int .i64 a4]] w fun e w' => e = .returned (.bool (decide ((n.kids.length : Int) ≤ a2) && kidsFine n.kids a0)) ∧ Keeps Nob w w' := by
  obtain ⟨X1, k1, e1, y1, z1⟩ := h.1.high.form
  obtain ⟨X3, k3, e3, y3, z3⟩ := h.2.keys.form
  obtain ⟨X4, k4, e4, y4, z4⟩ := h.2.vals.form
  obtain ⟨X5, k5, e5, y5, z5⟩ := h.2.kids.form
  have e0 := h.1.lvl
  have e2 := h.1.right
  unfold iV at e0 e2
  subst e0 e1 e2 e3 e4 e5
  have HN0 := Lib.hid h
  have hl5 : n.kids.length ≤ 9223372036854775807 := Nat.le_trans y5 z5
  clear h y1 y3 y4 y5 z1 z3 z4 z5
  obtain ⟨bf, hbf⟩ : ∃ b, kidsFine n.kids a0 = b := ⟨_, rfl⟩
  obtain ⟨bl, hbl⟩ : ∃ b, decide ((n.kids.length : Int) ≤ a2) = b := ⟨_, rfl⟩
  rw [hbf, hbl]
  have HBF := Lib.hid hbf
  have hgt : decide (a2 < (n.kids.length : Int)) = !bl := by rw [← hbl]; by_cases h : (n.kids.length : Int) ≤ a2 <;> simp [h] <;> omega
  clear hbf hbl
  cases bl
  · go_enter Tryz.func140, Tryz.ntmps140
    go_wp2
    go_ret
    exact ⟨rfl, (Keeps.alloc _ _ _).alloc' _⟩
  go_enter Tryz.func140, Tryz.ntmps140
  go_wp2
  have K0 := Lib.hid (show ∀ o1 o2, Keeps Nob w ((w.alloc o1).alloc o2) from fun o1 o2 => (Keeps.alloc _ w _).alloc' _)
  have BN0 := Lib.hid (show ∀ o2, Blk ((w.alloc (.cells #[.int .i64 n.lvl, .slice X1 n.high.length k1, .int .i64 n.right, .slice X3 n.keys.length k3, .slice X4 n.vals.length k4, .slice X5 n.kids.length k5] 35)).alloc o2) w.heap.size 35 #[.int .i64 n.lvl, .slice X1 n.high.length k1, .int .i64 n.right, .slice X3 n.keys.length k3, .slice X4 n.vals.length k4, .slice X5 n.kids.length k5] from fun o2 => (Blk.new w _ _).alloc _)
  have BC0 := Lib.hid (show ∀ o1, Blk ((w.alloc o1).alloc (.cells #[.int .i64 a0, .int .i64 a1, .int .i64 a2, .int .i64 a3, .int .i64 a4] 49)) (w.heap.size + 1) 49 #[.int .i64 a0, .int .i64 a1, .int .i64 a2, .int .i64 a3, .int .i64 a4] from fun o1 => Blk.new' (by simp) _ _)
  go_loopw [5] (fun i wr => ∃ k : Nat, k ≤ n.kids.length ∧ i = .int .i64 k ∧ (n.kids.take k).Nodup ∧ (∀ x ∈ n.kids.take k, 1 ≤ x ∧ x ≤ a0) ∧ Keeps Nob w wr ∧ Blk wr w.heap.size 35 #[.int .i64 n.lvl, .slice X1 n.high.length k1, .int .i64 n.right, .slice X3 n.keys.length k3, .slice X4 n.vals.length k4, .slice X5 n.kids.length k5] ∧ Blk wr (w.heap.size + 1) 49 #[.int .i64 a0, .int .i64 a1, .int .i64 a2, .int .i64 a3, .int .i64 a4]) (fun i _ => n.kids.length - (intOf i).toNat)
  case atStart => exact ⟨0, Nat.zero_le _, rfl, by simp, by simp, K0.out _ _, BN0.out _, BC0.out _⟩
  clear K0 BN0 BC0
  obtain ⟨k, hk, rfl, hnd, hin, hkr, hbn, hbc⟩ := hrel
  have HND := Lib.hid hnd
  have HIN := Lib.hid hin
  have HK := Lib.hid hkr
  have HBN := Lib.hid hbn
  have HBC := Lib.hid hbc
  have q := fun i => hbn.cell i
  have q2 := fun i => hbc.cell i
  clear hnd hin hkr hbn hbc
  rcases Nat.lt_or_ge k n.kids.length with hlt | hlt
  · obtain ⟨kid, hkid⟩ : ∃ x, n.kids[k]? = some x := ⟨_, List.getElem?_eq_getElem hlt⟩
    obtain ⟨ad, rfl, _, hc⟩ := HN0.out.2.kids.cells hlt
    have q0 : wr.cell? (ad.add k) = some (.int .i64 kid) := HK.out.cell (hc k kid hkid) id
    have HCE := Lib.hid hc
    have HT := Lib.hid (take_snocC n.kids k kid hkid)
    have HMEM : Hid (kid ∈ n.kids) := List.mem_of_getElem? hkid
    have HKID : Hid (n.kids[k]? = some kid) := hkid
    clear hc hkid
    have hbad : ¬ (1 ≤ kid ∧ kid ≤ a0) → bf = false := fun hb => by
      rw [← HBF.out]
      exact kidsFine_false (fun hh => hb (hh.2 kid HMEM.out))
    have HBAD := Lib.hid hbad
    clear hbad
    by_cases hc1 : kid < 1
    · go_wp2
      go_quiet (fail)
      go_wp2
      go_ret
      refine ⟨?_, HK.out.drewN' _⟩
      rw [HBAD.out (fun h => by omega)]; rfl
    have hc1' : decide (kid < 1) = false := decide_eq_false hc1
    by_cases hc2 : a0 < kid
    · go_wp2
      go_quiet (fail)
      go_wp2
      go_ret
      refine ⟨?_, HK.out.drewN' _⟩
      rw [HBAD.out (fun h => by omega)]; rfl
    have hc2' : decide (a0 < kid) = false := decide_eq_false hc2
    have HOKK : Hid (1 ≤ kid ∧ kid ≤ a0) := ⟨by omega, by omega⟩
    go_wp2
    go_quiet (fail)
    go_wp2
    have K1 := Lib.hid (show ∀ m, Keeps Nob w (wr.drewN m) from fun m => HK.out.drewN' m)
    have BN1 := Lib.hid (show ∀ m, Blk (wr.drewN m) w.heap.size 35 #[.int .i64 n.lvl, .slice X1 n.high.length k1, .int .i64 n.right, .slice X3 n.keys.length k3, .slice X4 n.vals.length k4, .slice (some ad) n.kids.length k5] from fun m => HBN.out.drewN m)
    have BC1 := Lib.hid (show ∀ m, Blk (wr.drewN m) (w.heap.size + 1) 49 #[.int .i64 a0, .int .i64 a1, .int .i64 a2, .int .i64 a3, .int .i64 a4] from fun m => HBC.out.drewN m)
    clear q q2 q0 HBN HBC HK
    go_loopw [6] (fun i wz => ∃ j : Nat, j ≤ k ∧ i = .int .i64 j ∧ kid ∉ n.kids.take j ∧ Keeps Nob w wz ∧ Blk wz w.heap.size 35 #[.int .i64 n.lvl, .slice X1 n.high.length k1, .int .i64 n.right, .slice X3 n.keys.length k3, .slice X4 n.vals.length k4, .slice (some ad) n.kids.length k5] ∧ Blk wz (w.heap.size + 1) 49 #[.int .i64 a0, .int .i64 a1, .int .i64 a2, .int .i64 a3, .int .i64 a4]) (fun i _ => k - (intOf i).toNat)
    case atStart => exact ⟨0, Nat.zero_le _, rfl, by simp, K1.out _, BN1.out _, BC1.out _⟩
    clear K1 BN1 BC1
    obtain ⟨j, hj, rfl, hnot, hkr, hbn, hbc⟩ := hrel
    have HNOT := Lib.hid hnot
    have HK := Lib.hid hkr
    have HBN := Lib.hid hbn
    have HBC := Lib.hid hbc
    have q := fun i => hbn.cell i
    clear hnot hkr hbn hbc
    rcases Nat.lt_or_ge j k with hjl | hjl
    · obtain ⟨y, hy⟩ : ∃ x, n.kids[j]? = some x := ⟨_, List.getElem?_eq_getElem (by omega)⟩
      have q0 := HK.out.cell (HCE.out k kid HKID.out) id
      have q1 := HK.out.cell (HCE.out j y hy) id
      unfold iV at q0 q1
      have HT2 := Lib.hid (take_snocC n.kids j y hy)
      have HY : Hid (n.kids[j]? = some y) := hy
      clear hy
      by_cases hyk : y = kid
      · have HYK := Lib.hid hyk
        subst hyk
        go_wp2
        go_quiet (fail)
        go_wp2
        go_ret
        refine ⟨?_, HK.out.drewN' _⟩
        have : bf = false := by
          rw [← HBF.out]
          refine kidsFine_false (fun hh => ?_)
          have h1 := hh.1
          rw [← List.take_append_drop (k + 1) n.kids, HT.out] at h1
          have hm : y ∈ n.kids.take k := List.mem_of_getElem? (i := j) (by rw [List.getElem?_take, if_pos hjl]; exact HY.out)
          exact (List.nodup_append.1 (List.nodup_append.1 h1).1).2.2 y hm y (by simp) rfl
        rw [this]; rfl
      · have hyk' : (y == kid) = false := by simpa using hyk
        have HYK := Lib.hid hyk
        clear hyk
        go_wp2
        go_quiet (fail)
        go_wp2
        go_roundw
        case rel =>
          refine ⟨j + 1, by omega, by go_num, ?_, HK.out.drewN' _, HBN.out.drewN _, HBC.out.drewN _⟩
          rw [HT2.out]
          intro hm
          rcases List.mem_append.1 hm with hm | hm
          · exact HNOT.out hm
          · simp at hm; exact HYK.out hm.symm
        case measure => simp [intOf]; omega
    · obtain rfl : j = k := by omega
      go_wp2
      go_roundw
      case rel =>
        refine ⟨j + 1, by omega, by go_num, ?_, ?_, HK.out, HBN.out, HBC.out⟩
        · rw [HT.out]; exact nodup_snoc HND.out HNOT.out
        · rw [HT.out]
          intro x hx
          rcases List.mem_append.1 hx with hx | hx
          · exact HIN.out x hx
          · simp at hx; subst hx; exact HOKK.out
      case measure => simp [intOf]; omega
  · obtain rfl : k = n.kids.length := by omega
    go_wp2
    go_ret
    refine ⟨?_, HK.out⟩
    have h1 := HND.out
    have h2 := HIN.out
    rw [List.take_length] at h1 h2
    have : bf = true := by rw [← HBF.out]; exact kidsFine_true h1 h2
    rw [this]; rfl
end
end Go.Proofs.YtbhohohgojcapaaGreat
