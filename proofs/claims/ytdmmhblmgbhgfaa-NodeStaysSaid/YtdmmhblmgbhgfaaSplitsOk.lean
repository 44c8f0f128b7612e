/- NodeSplits, walked. -/
import Derived.Test.YtdmmhblmgbhgfaaWithOk
import Derived.Test.YtdmmhblmgbhgfaaSplitD
namespace Go.Proofs.Ytdmmhblmgbhgfaa
open Go.RowKit

theorem str0 {w : World} {S : Nat → Prop} {v : Value} {l : List UInt8} (h : Byts w S v l) : ∃ s : ByteArray, s.toList = l ∧ (convert 44 9 v).run Try.prog w = .ok (.string s) w :=
  ⟨_, ByteArray.toList_mk l, run_str h⟩

section
variable {S : Nat → Prop} {w : World} {c0 c1 c2 c3 c4 c5 : Value} {n : Nd} {cn cl ci cf cb rt : Int}

set_option maxRecDepth 100000 in
set_option maxHeartbeats 1000000 in
theorem overP (h : IsNd w S c0 c1 c2 c3 c4 c5 n) : Calls Try.prog 60 #[.agg #[c0, c1, c2, c3, c4, c5], .agg #[.int .i64 cn, .int .i64 cl, .int .i64 ci, .int .i64 cf, .int .i64 cb]] w fun e w' => e = .returned (.bool (over n cl ci)) ∧ Keeps Nob w w' := by
  obtain ⟨A3, k3, e3, _, _⟩ := h.2.keys.form
  obtain ⟨A5, k5, e5, _, _⟩ := h.2.kids.form
  have e0 := h.1.lvl
  subst e0 e3 e5
  clear h
  unfold over iV
  by_cases hl : n.lvl = 0
  · rw [if_pos hl]
    obtain ⟨b, hb⟩ : ∃ b, decide (cl < (n.keys.length : Int)) = b := ⟨_, rfl⟩
    rw [hb]
    have t0 : (n.lvl == 0) = true := by simp [hl]
    have t1 : (n.lvl != 0) = false := by simp [hl]
    clear hl
    cases b
    all_goals
      go_enter Try.func60, Try.ntmps60
      go_wp2
      go_ret
      exact ⟨rfl, (Keeps.alloc _ w _).alloc' _⟩
  · rw [if_neg hl]
    obtain ⟨b, hb⟩ : ∃ b, decide (ci < (n.kids.length : Int)) = b := ⟨_, rfl⟩
    rw [hb]
    have t0 : (n.lvl == 0) = false := by simp [hl]
    have t1 : (n.lvl != 0) = true := by simp [hl]
    clear hl
    cases b
    all_goals
      go_enter Try.func60, Try.ntmps60
      go_wp2
      go_ret
      exact ⟨rfl, (Keeps.alloc _ w _).alloc' _⟩

set_option maxRecDepth 100000 in
set_option maxHeartbeats 1000000 in
theorem overR (h : IsNd w S c0 c1 c2 c3 c4 c5 n) : Calls Try.prog 62 #[.agg #[c0, c1, c2, c3, c4, c5], .agg #[.int .i64 cn, .int .i64 cl, .int .i64 ci, .int .i64 cf, .int .i64 cb]] w fun e w' => e = .returned (.bool (over n cl ci)) ∧ Keeps Nob w w' := by
  obtain ⟨A3, k3, e3, _, _⟩ := h.2.keys.form
  obtain ⟨A5, k5, e5, _, _⟩ := h.2.kids.form
  have e0 := h.1.lvl
  subst e0 e3 e5
  clear h
  unfold over iV
  by_cases hl : n.lvl = 0
  · rw [if_pos hl]
    obtain ⟨b, hb⟩ : ∃ b, decide (cl < (n.keys.length : Int)) = b := ⟨_, rfl⟩
    rw [hb]
    have t0 : (n.lvl == 0) = true := by simp [hl]
    clear hl
    cases b
    all_goals
      go_enter Try.func62, Try.ntmps62
      go_wp2
      go_ret
      exact ⟨rfl, (Keeps.alloc _ w _).alloc' _⟩
  · rw [if_neg hl]
    obtain ⟨b, hb⟩ : ∃ b, decide (ci < (n.kids.length : Int)) = b := ⟨_, rfl⟩
    rw [hb]
    have t0 : (n.lvl == 0) = false := by simp [hl]
    clear hl
    cases b
    all_goals
      go_enter Try.func62, Try.ntmps62
      go_wp2
      go_ret
      exact ⟨rfl, (Keeps.alloc _ w _).alloc' _⟩

set_option maxRecDepth 100000 in
set_option maxHeartbeats 2000000 in
theorem splits_ok (h : IsNd w (fun b => b < w.heap.size) c0 c1 c2 c3 c4 c5 n) (hs : NdSm 64 n) :
    Calls Try.prog 14 #[.agg #[c0, c1, c2, c3, c4, c5], .agg #[.int .i64 cn, .int .i64 cl, .int .i64 ci, .int .i64 cf, .int .i64 cb], .int .i64 rt] w fun e w' => e = .returned (.bool true) ∧ Keeps Nob w w' := by
  have H := Lib.hid h
  have HS : Hid (NdSm 64 n) := hs
  clear h hs
  obtain ⟨vr, hvr⟩ : ∃ v, Go.Proofs.Ytdmmhblmgbhgfaa.right n = v := ⟨_, rfl⟩
  obtain ⟨vo, hvo⟩ : ∃ v, over n cl ci = v := ⟨_, rfl⟩
  obtain ⟨nl, hnl⟩ : ∃ m, spL n rt = m := ⟨_, rfl⟩
  obtain ⟨nr, hnr⟩ : ∃ m, spR n = m := ⟨_, rfl⟩
  obtain ⟨nk, hnk⟩ : ∃ m, spK n = m := ⟨_, rfl⟩
  have Qvr := Lib.hid hvr
  clear hvr
  have Qvo := Lib.hid hvo
  clear hvo
  have Qnl := Lib.hid hnl
  clear hnl
  have Qnr := Lib.hid hnr
  clear hnr
  have Qnk := Lib.hid hnk
  clear hnk
  go_enter Try.func14, Try.ntmps14
  go_wp2_with fail
  refine calls_at (fun wa hw => ?_)
  have hk : Keeps Nob w wa := by rw [hw]; exact (Keeps.alloc _ _ _).alloc' _
  have BN : Hid (Blk wa w.heap.size 51 #[c0, c1, c2, c3, c4, c5]) := by rw [hw]; exact (Blk.new _ _ _).alloc _
  have BC : Hid (Blk wa (w.heap.size + 1) 82 #[.int .i64 cn, .int .i64 cl, .int .i64 ci, .int .i64 cf, .int .i64 cb]) := by rw [hw]; exact Blk.new' (by simp) _ _
  have szwa := hk.size
  have ltBN := BN.out.lt
  have ltBC := BC.out.lt
  have K := Lib.hid hk
  have HN := Lib.hid (H.out.keeps hk (fun _ _ _ => id))
  clear hw hk H
  refine (head9 wa).mono ?_
  rintro e w1 ⟨rfl, hk⟩
  replace BN := Lib.hid (BN.out.keeps hk id)
  replace BC := Lib.hid (BC.out.keeps hk id)
  replace HN := Lib.hid (HN.out.keeps hk (fun _ _ _ => id))
  have szw1 := hk.size
  replace K := Lib.hid (K.out.trans hk (fun _ _ h => h))
  clear hk
  have qBN := fun i => BN.out.cell i
  have lBN := BN.out.lt
  go_wp2_with fail
  clear qBN lBN
  refine (rightR HN.out (sm_keys HS.out)).mono ?_
  rintro e w2 ⟨rfl, hk⟩
  replace BN := Lib.hid (BN.out.keeps hk id)
  replace BC := Lib.hid (BC.out.keeps hk id)
  replace HN := Lib.hid (HN.out.keeps hk (fun _ _ _ => id))
  have szw2 := hk.size
  replace K := Lib.hid (K.out.trans hk (fun _ _ h => h))
  clear hk
  rw [Qvr.out]
  have qBN := fun i => BN.out.cell i
  have lBN := BN.out.lt
  go_wp2_with fail
  clear qBN lBN
  refine (lent9 HN.out HS.out).mono ?_
  rintro e w3 ⟨d0, d1, d2, d3, d4, d5, rfl, hX, hk⟩
  replace BN := Lib.hid (BN.out.keeps hk id)
  replace BC := Lib.hid (BC.out.keeps hk id)
  replace HN := Lib.hid (HN.out.keeps hk (fun _ _ _ => id))
  have szw3 := hk.size
  replace K := Lib.hid (K.out.trans hk (fun _ _ h => h))
  clear hk
  obtain ⟨D1, dj1, f1⟩ := Own.form hX.high.o
  obtain ⟨D3, dj3, f3⟩ := OTx.form hX.keys.o
  obtain ⟨D4, dj4, f4⟩ := OTx.form hX.vals.o
  obtain ⟨D5, dj5, f5⟩ := Own.form hX.kids.o
  have f0 := hX.lvl
  have f2 := hX.right
  unfold iV at f0 f2
  subst f0 f1 f2 f3 f4 f5
  have HX := Lib.hid hX
  clear hX
  have qBC := fun i => BC.out.cell i
  have lBC := BC.out.lt
  go_wp2_with fail
  clear qBC lBC
  refine calls_at (fun wb hw => ?_)
  have hk : Keeps Nob w3 wb := by rw [hw]; exact Keeps.alloc _ _ _
  have BX : Hid (Blk wb (w3.heap.size) 51 #[.int .i64 n.lvl, .slice D1 n.high.length dj1, .int .i64 n.right, .slice D3 n.keys.length dj3, .slice D4 n.vals.length dj4, .slice D5 n.kids.length dj5]) := by rw [hw]; exact Blk.new _ _ _
  replace BN := Lib.hid (BN.out.keeps hk id)
  replace BC := Lib.hid (BC.out.keeps hk id)
  replace HN := Lib.hid (HN.out.keeps hk (fun _ _ _ => id))
  replace HX := Lib.hid (HX.out.keeps hk (fun _ _ _ => id))
  have szwb := hk.size
  have ltBX := BX.out.lt
  replace K := Lib.hid (K.out.trans hk (fun _ _ h => h))
  clear hw hk
  refine (overP HX.out.o.r).mono ?_
  rintro e w4 ⟨rfl, hk⟩
  replace BN := Lib.hid (BN.out.keeps hk id)
  replace BC := Lib.hid (BC.out.keeps hk id)
  replace HN := Lib.hid (HN.out.keeps hk (fun _ _ _ => id))
  replace HX := Lib.hid (HX.out.keeps hk (fun _ _ _ => id))
  replace BX := Lib.hid (BX.out.keeps hk id)
  have szw4 := hk.size
  replace K := Lib.hid (K.out.trans hk (fun _ _ h => h))
  clear hk
  rw [Qvo.out]
  have qBX := fun i => BX.out.cell i
  have lBX := BX.out.lt
  go_wp2_with fail
  clear qBX lBX
  refine (splitP (right := rt) HX.out.o.r HS.out).mono ?_
  rintro e w5 ⟨a0, a1, a2, a3, a4, a5, b0, b1, b2, b3, b4, b5, kv, rfl, p, hp, q, hpq, s, hqs, hsw, hA, hB, hKV, hk⟩
  rw [Qnl.out] at hA
  rw [Qnr.out] at hB
  rw [Qnk.out] at hKV
  replace BN := Lib.hid (BN.out.keeps hk id)
  replace BC := Lib.hid (BC.out.keeps hk id)
  replace HN := Lib.hid (HN.out.keeps hk (fun _ _ _ => id))
  replace HX := Lib.hid (HX.out.keeps hk (fun _ _ _ => id))
  replace BX := Lib.hid (BX.out.keeps hk id)
  have szw5 := hk.size
  replace K := Lib.hid (K.out.trans hk (fun _ _ h => h))
  clear hk
  obtain ⟨A1, aj1, f1⟩ := Own.form hA.1.high
  obtain ⟨A3, aj3, f3⟩ := OTx.form hA.2.keys
  obtain ⟨A4, aj4, f4⟩ := OTx.form hA.2.vals
  obtain ⟨A5, aj5, f5⟩ := Own.form hA.2.kids
  have f0 := hA.1.lvl
  have f2 := hA.1.right
  unfold iV at f0 f2
  subst f0 f1 f2 f3 f4 f5
  have HA := Lib.hid hA
  clear hA
  obtain ⟨B1, bj1, f1⟩ := Own.form hB.1.high
  obtain ⟨B3, bj3, f3⟩ := OTx.form hB.2.keys
  obtain ⟨B4, bj4, f4⟩ := OTx.form hB.2.vals
  obtain ⟨B5, bj5, f5⟩ := Own.form hB.2.kids
  have f0 := hB.1.lvl
  have f2 := hB.1.right
  unfold iV at f0 f2
  subst f0 f1 f2 f3 f4 f5
  have HB := Lib.hid hB
  clear hB
  obtain ⟨K1, kj, f1⟩ := Own.form hKV
  subst f1
  obtain ⟨E, hE⟩ : ∃ E, w5.heap.size = E := ⟨_, rfl⟩
  rw [hE] at hKV
  have hE1 : w5.heap.size ≤ E := Nat.le_of_eq hE
  have hE2 : E ≤ w5.heap.size := Nat.le_of_eq hE.symm
  clear hE
  have HKV : Hid (OBy w5 (fun b => s ≤ b ∧ b < E) (.slice K1 nk.length kj) nk) := hKV
  clear hKV
  have qBX := fun i => BX.out.cell i
  have lBX := BX.out.lt
  have qBN := fun i => BN.out.cell i
  have lBN := BN.out.lt
  have lX2 := Nat.lt_succ_of_lt lBX
  have lN2 := Nat.lt_succ_of_lt lBN
  go_wp2_with fail
  clear qBX lBX qBN lBN lX2 lN2
  refine calls_at (fun wc hw => ?_)
  have hk : Keeps Nob w5 wc := by rw [hw]; exact (Keeps.alloc _ _ _).alloc' _
  have BL : Hid (Blk wc (w5.heap.size) 51 #[.int .i64 nl.lvl, .slice A1 nl.high.length aj1, .int .i64 nl.right, .slice A3 nl.keys.length aj3, .slice A4 nl.vals.length aj4, .slice A5 nl.kids.length aj5]) := by rw [hw]; exact (Blk.new _ _ _).alloc _
  have BR : Hid (Blk wc (w5.heap.size + 1) 51 #[.int .i64 nr.lvl, .slice B1 nr.high.length bj1, .int .i64 nr.right, .slice B3 nr.keys.length bj3, .slice B4 nr.vals.length bj4, .slice B5 nr.kids.length bj5]) := by rw [hw]; exact Blk.new' (by simp) _ _
  replace BN := Lib.hid (BN.out.keeps hk id)
  replace BC := Lib.hid (BC.out.keeps hk id)
  replace HN := Lib.hid (HN.out.keeps hk (fun _ _ _ => id))
  replace HX := Lib.hid (HX.out.keeps hk (fun _ _ _ => id))
  replace BX := Lib.hid (BX.out.keeps hk id)
  replace HA := Lib.hid (HA.out.keeps hk (fun _ _ _ => id))
  replace HB := Lib.hid (HB.out.keeps hk (fun _ _ _ => id))
  replace HKV := Lib.hid (HKV.out.keeps hk (fun _ _ _ => id))
  have szwc := hk.size
  have ltBL := BL.out.lt
  have ltBR := BR.out.lt
  replace K := Lib.hid (K.out.trans hk (fun _ _ h => h))
  clear hw hk
  refine (whole9 HX.out HN.out).mono ?_
  rintro e w6 ⟨rfl, hk⟩
  replace BN := Lib.hid (BN.out.keeps hk id)
  replace BC := Lib.hid (BC.out.keeps hk id)
  replace HN := Lib.hid (HN.out.keeps hk (fun _ _ _ => id))
  replace HX := Lib.hid (HX.out.keeps hk (fun _ _ _ => id))
  replace BX := Lib.hid (BX.out.keeps hk id)
  replace HA := Lib.hid (HA.out.keeps hk (fun _ _ _ => id))
  replace HB := Lib.hid (HB.out.keeps hk (fun _ _ _ => id))
  replace HKV := Lib.hid (HKV.out.keeps hk (fun _ _ _ => id))
  replace BL := Lib.hid (BL.out.keeps hk id)
  replace BR := Lib.hid (BR.out.keeps hk id)
  have szw6 := hk.size
  replace K := Lib.hid (K.out.trans hk (fun _ _ h => h))
  clear hk
  have qBN := fun i => BN.out.cell i
  have lBN := BN.out.lt
  have qBC := fun i => BC.out.cell i
  have lBC := BC.out.lt
  go_wp2_with fail
  clear qBN lBN qBC lBC
  refine (overR HN.out).mono ?_
  rintro e w7 ⟨rfl, hk⟩
  replace BN := Lib.hid (BN.out.keeps hk id)
  replace BC := Lib.hid (BC.out.keeps hk id)
  replace HN := Lib.hid (HN.out.keeps hk (fun _ _ _ => id))
  replace HX := Lib.hid (HX.out.keeps hk (fun _ _ _ => id))
  replace BX := Lib.hid (BX.out.keeps hk id)
  replace HA := Lib.hid (HA.out.keeps hk (fun _ _ _ => id))
  replace HB := Lib.hid (HB.out.keeps hk (fun _ _ _ => id))
  replace HKV := Lib.hid (HKV.out.keeps hk (fun _ _ _ => id))
  replace BL := Lib.hid (BL.out.keeps hk id)
  replace BR := Lib.hid (BR.out.keeps hk id)
  have szw7 := hk.size
  replace K := Lib.hid (K.out.trans hk (fun _ _ h => h))
  clear hk
  rw [Qvo.out]
  have hoo : (vo != vo) = false := by cases vo <;> rfl
  cases vr with
  | false =>
    go_wp2
    go_ret
    exact ⟨rfl, K.out⟩
  | true =>
    have qBN := fun i => BN.out.cell i
    have lBN := BN.out.lt
    go_wp2_with fail
    clear qBN lBN
    clear hoo
    refine (splitR (right := rt) HN.out HS.out Qvr.out).mono ?_
    rintro e w8 ⟨e0, e1, e2, e3, e4, e5, p0, p1, p2, p3, p4, p5, mv, rfl, hC, hD, hM, hk⟩
    rw [Qnl.out] at hC
    rw [Qnr.out] at hD
    rw [Qnk.out] at hM
    replace BN := Lib.hid (BN.out.keeps hk id)
    replace BC := Lib.hid (BC.out.keeps hk id)
    replace HN := Lib.hid (HN.out.keeps hk (fun _ _ _ => id))
    replace HX := Lib.hid (HX.out.keeps hk (fun _ _ _ => id))
    replace BX := Lib.hid (BX.out.keeps hk id)
    replace HA := Lib.hid (HA.out.keeps hk (fun _ _ _ => id))
    replace HB := Lib.hid (HB.out.keeps hk (fun _ _ _ => id))
    replace HKV := Lib.hid (HKV.out.keeps hk (fun _ _ _ => id))
    replace BL := Lib.hid (BL.out.keeps hk id)
    replace BR := Lib.hid (BR.out.keeps hk id)
    have szw8 := hk.size
    replace K := Lib.hid (K.out.trans hk (fun _ _ h => h))
    clear hk
    obtain ⟨E1, ej1, f1⟩ := Own.form hC.1.high
    obtain ⟨E3, ej3, f3⟩ := OTx.form hC.2.keys
    obtain ⟨E4, ej4, f4⟩ := OTx.form hC.2.vals
    obtain ⟨E5, ej5, f5⟩ := Own.form hC.2.kids
    have f0 := hC.1.lvl
    have f2 := hC.1.right
    unfold iV at f0 f2
    subst f0 f1 f2 f3 f4 f5
    have HC := Lib.hid hC
    clear hC
    obtain ⟨P1, pj1, f1⟩ := Own.form hD.1.high
    obtain ⟨P3, pj3, f3⟩ := OTx.form hD.2.keys
    obtain ⟨P4, pj4, f4⟩ := OTx.form hD.2.vals
    obtain ⟨P5, pj5, f5⟩ := Own.form hD.2.kids
    have f0 := hD.1.lvl
    have f2 := hD.1.right
    unfold iV at f0 f2
    subst f0 f1 f2 f3 f4 f5
    have HD := Lib.hid hD
    clear hD
    obtain ⟨M1, mj, f1⟩ := Own.form hM
    subst f1
    have HM := Lib.hid hM
    clear hM
    have qBL := fun i => BL.out.cell i
    have lBL := BL.out.lt
    have lL2 := Nat.lt_succ_of_lt lBL
    go_wp2_with fail
    clear qBL lBL lL2
    refine calls_at (fun wd hw => ?_)
    have hk : Keeps Nob w8 wd := by rw [hw]; exact (Keeps.alloc _ _ _).alloc' _
    have BC2 : Hid (Blk wd (w8.heap.size) 51 #[.int .i64 nl.lvl, .slice E1 nl.high.length ej1, .int .i64 nl.right, .slice E3 nl.keys.length ej3, .slice E4 nl.vals.length ej4, .slice E5 nl.kids.length ej5]) := by rw [hw]; exact (Blk.new _ _ _).alloc _
    have BD2 : Hid (Blk wd (w8.heap.size + 1) 51 #[.int .i64 nr.lvl, .slice P1 nr.high.length pj1, .int .i64 nr.right, .slice P3 nr.keys.length pj3, .slice P4 nr.vals.length pj4, .slice P5 nr.kids.length pj5]) := by rw [hw]; exact Blk.new' (by simp) _ _
    replace BN := Lib.hid (BN.out.keeps hk id)
    replace BC := Lib.hid (BC.out.keeps hk id)
    replace HN := Lib.hid (HN.out.keeps hk (fun _ _ _ => id))
    replace HX := Lib.hid (HX.out.keeps hk (fun _ _ _ => id))
    replace BX := Lib.hid (BX.out.keeps hk id)
    replace HA := Lib.hid (HA.out.keeps hk (fun _ _ _ => id))
    replace HB := Lib.hid (HB.out.keeps hk (fun _ _ _ => id))
    replace HKV := Lib.hid (HKV.out.keeps hk (fun _ _ _ => id))
    replace BL := Lib.hid (BL.out.keeps hk id)
    replace BR := Lib.hid (BR.out.keeps hk id)
    replace HC := Lib.hid (HC.out.keeps hk (fun _ _ _ => id))
    replace HD := Lib.hid (HD.out.keeps hk (fun _ _ _ => id))
    replace HM := Lib.hid (HM.out.keeps hk (fun _ _ _ => id))
    have szwd := hk.size
    have ltBC2 := BC2.out.lt
    have ltBD2 := BD2.out.lt
    replace K := Lib.hid (K.out.trans hk (fun _ _ h => h))
    clear hw hk
    refine (sameN HA.out.r HC.out.r).mono ?_
    rintro e w9 ⟨rfl, hk⟩
    replace BN := Lib.hid (BN.out.keeps hk id)
    replace BC := Lib.hid (BC.out.keeps hk id)
    replace HN := Lib.hid (HN.out.keeps hk (fun _ _ _ => id))
    replace HX := Lib.hid (HX.out.keeps hk (fun _ _ _ => id))
    replace BX := Lib.hid (BX.out.keeps hk id)
    replace HA := Lib.hid (HA.out.keeps hk (fun _ _ _ => id))
    replace HB := Lib.hid (HB.out.keeps hk (fun _ _ _ => id))
    replace HKV := Lib.hid (HKV.out.keeps hk (fun _ _ _ => id))
    replace BL := Lib.hid (BL.out.keeps hk id)
    replace BR := Lib.hid (BR.out.keeps hk id)
    replace HC := Lib.hid (HC.out.keeps hk (fun _ _ _ => id))
    replace HD := Lib.hid (HD.out.keeps hk (fun _ _ _ => id))
    replace HM := Lib.hid (HM.out.keeps hk (fun _ _ _ => id))
    replace BC2 := Lib.hid (BC2.out.keeps hk id)
    replace BD2 := Lib.hid (BD2.out.keeps hk id)
    have szw9 := hk.size
    replace K := Lib.hid (K.out.trans hk (fun _ _ h => h))
    clear hk
    rw [sameNd_self]
    have qBR := fun i => BR.out.cell i
    have lBR := BR.out.lt
    have qBD2 := fun i => BD2.out.cell i
    have lBD2 := BD2.out.lt
    go_wp2_with fail
    clear qBR lBR qBD2 lBD2
    refine (sameN HB.out.r HD.out.r).mono ?_
    rintro e w10 ⟨rfl, hk⟩
    replace BN := Lib.hid (BN.out.keeps hk id)
    replace BC := Lib.hid (BC.out.keeps hk id)
    replace HN := Lib.hid (HN.out.keeps hk (fun _ _ _ => id))
    replace HX := Lib.hid (HX.out.keeps hk (fun _ _ _ => id))
    replace BX := Lib.hid (BX.out.keeps hk id)
    replace HA := Lib.hid (HA.out.keeps hk (fun _ _ _ => id))
    replace HB := Lib.hid (HB.out.keeps hk (fun _ _ _ => id))
    replace HKV := Lib.hid (HKV.out.keeps hk (fun _ _ _ => id))
    replace BL := Lib.hid (BL.out.keeps hk id)
    replace BR := Lib.hid (BR.out.keeps hk id)
    replace HC := Lib.hid (HC.out.keeps hk (fun _ _ _ => id))
    replace HD := Lib.hid (HD.out.keeps hk (fun _ _ _ => id))
    replace HM := Lib.hid (HM.out.keeps hk (fun _ _ _ => id))
    replace BC2 := Lib.hid (BC2.out.keeps hk id)
    replace BD2 := Lib.hid (BD2.out.keeps hk id)
    have szw10 := hk.size
    replace K := Lib.hid (K.out.trans hk (fun _ _ h => h))
    clear hk
    rw [sameNd_self]
    obtain ⟨s1, x1, y1⟩ := str0 HKV.out.r
    obtain ⟨s2, x2, y2⟩ := str0 HM.out.r
    have qBL := fun i => BL.out.cell i
    have lBL := BL.out.lt
    go_wp2_with fail
    clear qBL lBL
    clear y1 y2 x1 x2
    have HAz := Lib.hid HA.out
    clear HA
    refine (spoil9 HAz.out).mono ?_
    rintro e w11 ⟨rfl, hk⟩
    replace BN := Lib.hid (BN.out.keeps hk (fun hm => by have := hm.1; have := hm.2; omega))
    replace BC := Lib.hid (BC.out.keeps hk (fun hm => by have := hm.1; have := hm.2; omega))
    replace HN := Lib.hid (HN.out.keeps hk (fun b hb hs hm => by have := hm.1; have := hm.2; have h1 : b < w.heap.size := hs; omega))
    replace HX := Lib.hid (HX.out.keeps hk (fun b hb hs hm => by have := hm.1; have := hm.2; have := hs.1; have := hs.2; omega))
    replace BX := Lib.hid (BX.out.keeps hk (fun hm => by have := hm.1; have := hm.2; omega))
    replace HB := Lib.hid (HB.out.keeps hk (fun b hb hs hm => by have := hm.1; have := hm.2; have := hs.1; have := hs.2; omega))
    replace HKV := Lib.hid (HKV.out.keeps hk (fun b hb hs hm => by have := hm.1; have := hm.2; have := hs.1; have := hs.2; omega))
    replace BL := Lib.hid (BL.out.keeps hk (fun hm => by have := hm.1; have := hm.2; omega))
    replace BR := Lib.hid (BR.out.keeps hk (fun hm => by have := hm.1; have := hm.2; omega))
    replace HC := Lib.hid (HC.out.keeps hk (fun b hb hs hm => by have := hm.1; have := hm.2; have := hs.1; have := hs.2; omega))
    replace HD := Lib.hid (HD.out.keeps hk (fun b hb hs hm => by have := hm.1; have := hm.2; have := hs.1; have := hs.2; omega))
    replace HM := Lib.hid (HM.out.keeps hk (fun b hb hs hm => by have := hm.1; have := hm.2; have := hs.1; have := hs.2; omega))
    replace BC2 := Lib.hid (BC2.out.keeps hk (fun hm => by have := hm.1; have := hm.2; omega))
    replace BD2 := Lib.hid (BD2.out.keeps hk (fun hm => by have := hm.1; have := hm.2; omega))
    have szw11 := hk.size
    replace K := Lib.hid (K.out.trans hk (fun b hb h => by have := h.1; omega))
    clear hk
    clear HAz
    have kz : nk.length ≤ 9223372036854775807 := by obtain ⟨_, _, e, h1, h2⟩ := HKV.out.r.form; unfold maxLen at h2; omega
    go_wp2
    go_loopw [20] (fun i wr => ∃ k : Nat, k ≤ nk.length ∧ i = .int .i64 k ∧ ShB wr (fun b => s ≤ b ∧ b < E) (.slice K1 nk.length kj) nk.length ∧ Keeps (fun b => s ≤ b ∧ b < E) w11 wr) (fun i _ => nk.length - (intOf i).toNat)
    case atStart => exact ⟨0, Nat.zero_le _, rfl, HKV.out.sh, Keeps.refl _ _⟩
    obtain ⟨k, hk1, rfl, hsh, hkr⟩ := hrel
    rcases Nat.lt_or_ge k nk.length with hlt | hlt
    · obtain ⟨g, o, cs, b, rfl, hs, hb, hc⟩ := hsh.get hlt
      have hf := hb.frozen (o + k)
      unfold bV at hc
      have HSH := Lib.hid hsh
      have HB0 := Lib.hid hb
      have HG : Hid (s ≤ g ∧ g < E) := hs
      have HKR := Lib.hid hkr
      clear hsh hb hs hkr
      go_wp2
      go_roundw
      case rel => exact ⟨k + 1, by omega, by go_num, by rw [bV_inc]; exact ⟨HSH.out.byte _, HKR.out.setCell' (fun _ => HG.out) _⟩⟩
      case measure => simp [intOf]; omega
    obtain rfl : k = nk.length := by omega
    have hk := hkr
    clear hsh hkr
    clear HKV
    replace BN := Lib.hid (BN.out.keeps hk (fun hm => by have := hm.1; have := hm.2; omega))
    replace BC := Lib.hid (BC.out.keeps hk (fun hm => by have := hm.1; have := hm.2; omega))
    replace HN := Lib.hid (HN.out.keeps hk (fun b hb hs hm => by have := hm.1; have := hm.2; have h1 : b < w.heap.size := hs; omega))
    replace HX := Lib.hid (HX.out.keeps hk (fun b hb hs hm => by have := hm.1; have := hm.2; have := hs.1; have := hs.2; omega))
    replace BX := Lib.hid (BX.out.keeps hk (fun hm => by have := hm.1; have := hm.2; omega))
    replace HB := Lib.hid (HB.out.keeps hk (fun b hb hs hm => by have := hm.1; have := hm.2; have := hs.1; have := hs.2; omega))
    replace BL := Lib.hid (BL.out.keeps hk (fun hm => by have := hm.1; have := hm.2; omega))
    replace BR := Lib.hid (BR.out.keeps hk (fun hm => by have := hm.1; have := hm.2; omega))
    replace HC := Lib.hid (HC.out.keeps hk (fun b hb hs hm => by have := hm.1; have := hm.2; have := hs.1; have := hs.2; omega))
    replace HD := Lib.hid (HD.out.keeps hk (fun b hb hs hm => by have := hm.1; have := hm.2; have := hs.1; have := hs.2; omega))
    replace HM := Lib.hid (HM.out.keeps hk (fun b hb hs hm => by have := hm.1; have := hm.2; have := hs.1; have := hs.2; omega))
    replace BC2 := Lib.hid (BC2.out.keeps hk (fun hm => by have := hm.1; have := hm.2; omega))
    replace BD2 := Lib.hid (BD2.out.keeps hk (fun hm => by have := hm.1; have := hm.2; omega))
    have szwr := hk.size
    replace K := Lib.hid (K.out.trans hk (fun b hb h => by have := h.1; omega))
    clear hk
    have qBR := fun i => BR.out.cell i
    have lBR := BR.out.lt
    have qBD2 := fun i => BD2.out.cell i
    have lBD2 := BD2.out.lt
    go_wp2_with fail
    clear qBR lBR qBD2 lBD2
    refine (sameN HB.out.r HD.out.r).mono ?_
    rintro e w12 ⟨rfl, hk⟩
    replace BN := Lib.hid (BN.out.keeps hk id)
    replace BC := Lib.hid (BC.out.keeps hk id)
    replace HN := Lib.hid (HN.out.keeps hk (fun _ _ _ => id))
    replace HX := Lib.hid (HX.out.keeps hk (fun _ _ _ => id))
    replace BX := Lib.hid (BX.out.keeps hk id)
    replace HB := Lib.hid (HB.out.keeps hk (fun _ _ _ => id))
    replace BL := Lib.hid (BL.out.keeps hk id)
    replace BR := Lib.hid (BR.out.keeps hk id)
    replace HC := Lib.hid (HC.out.keeps hk (fun _ _ _ => id))
    replace HD := Lib.hid (HD.out.keeps hk (fun _ _ _ => id))
    replace HM := Lib.hid (HM.out.keeps hk (fun _ _ _ => id))
    replace BC2 := Lib.hid (BC2.out.keeps hk id)
    replace BD2 := Lib.hid (BD2.out.keeps hk id)
    have szw12 := hk.size
    replace K := Lib.hid (K.out.trans hk (fun _ _ h => h))
    clear hk
    rw [sameNd_self]
    have qBX := fun i => BX.out.cell i
    have lBX := BX.out.lt
    have qBN := fun i => BN.out.cell i
    have lBN := BN.out.lt
    go_wp2_with fail
    clear qBX lBX qBN lBN
    refine (whole9 HX.out HN.out).mono ?_
    rintro e w13 ⟨rfl, hk⟩
    replace BN := Lib.hid (BN.out.keeps hk id)
    replace BC := Lib.hid (BC.out.keeps hk id)
    replace HN := Lib.hid (HN.out.keeps hk (fun _ _ _ => id))
    replace HX := Lib.hid (HX.out.keeps hk (fun _ _ _ => id))
    replace BX := Lib.hid (BX.out.keeps hk id)
    replace HB := Lib.hid (HB.out.keeps hk (fun _ _ _ => id))
    replace BL := Lib.hid (BL.out.keeps hk id)
    replace BR := Lib.hid (BR.out.keeps hk id)
    replace HC := Lib.hid (HC.out.keeps hk (fun _ _ _ => id))
    replace HD := Lib.hid (HD.out.keeps hk (fun _ _ _ => id))
    replace HM := Lib.hid (HM.out.keeps hk (fun _ _ _ => id))
    replace BC2 := Lib.hid (BC2.out.keeps hk id)
    replace BD2 := Lib.hid (BD2.out.keeps hk id)
    have szw13 := hk.size
    replace K := Lib.hid (K.out.trans hk (fun _ _ h => h))
    clear hk
    go_wp2
    go_ret
    exact ⟨rfl, K.out⟩
end
end Go.Proofs.Ytdmmhblmgbhgfaa
