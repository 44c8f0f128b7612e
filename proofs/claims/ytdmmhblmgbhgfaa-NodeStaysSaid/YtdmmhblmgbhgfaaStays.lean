/- NodeStays, walked. -/
import Derived.Test.YtdmmhblmgbhgfaaStaysM
namespace Go.Proofs.Ytdmmhblmgbhgfaa
open Go.RowKit

section
variable {n : Nd} {a0 a1 a2 : Int}
theorem k64_of {k : Int} (h1 : 1 ≤ k) (h2 : k ≤ 65536) : K64 k := by
  unfold K64 Lit.wf
  rw [Bool.and_eq_true, decide_eq_true_eq, decide_eq_true_eq]
  exact ⟨by rw [show IntKind.i64.min = -9223372036854775808 from rfl]; omega, by rw [show IntKind.i64.max = 9223372036854775807 from rfl]; omega⟩
theorem May.k64 (h : May n a0 a1 a2) (h0 : a0 ≤ 65536) : ∀ k ∈ n.kids, K64 k := fun k hk => by
  by_cases hl : n.lvl = 0
  · rw [(h.leaf hl).2.2.1] at hk; simp at hk
  · have := (h.inner hl).2.1 k hk
    exact k64_of this.1 (by omega)
theorem May.more (h : May n a0 (a1 + 1) a2) : May n a0 (a1 + 1) (a2 + 1) :=
  ⟨h.lvl, h.right, h.high, h.high64, h.rise, h.key, h.leaf, fun hl => by obtain ⟨g1, g2, g3, g4, g5⟩ := h.inner hl; exact ⟨g1, g2, g3, g4, by omega⟩⟩
theorem May.more1 (h : May n a0 a1 (a2 + 1)) : May n a0 (a1 + 1) (a2 + 1) :=
  ⟨h.lvl, h.right, h.high, h.high64, h.rise, h.key, fun hl => by obtain ⟨g1, g2, g3, g4⟩ := h.leaf hl; exact ⟨g1, by omega, g3, g4⟩, h.inner⟩
end

section
variable {w : World} {c0 c1 c2 c3 c4 c5 ck cv : Value} {n : Nd} {key val : List UInt8}

set_option maxRecDepth 100000 in
set_option maxHeartbeats 8000000 in
theorem stays_ok {a0 a1 a2 a3 a4 kid : Int} (h : IsNd w (fun b => b < w.heap.size) c0 c1 c2 c3 c4 c5 n) (hs : NdSm 64 n) (hkw : ∀ k ∈ n.kids, K64 k) (hky : Byts w (fun b => b < w.heap.size) ck key) (hva : Byts w (fun b => b < w.heap.size) cv val) :
    Calls Try.prog 16 #[.agg #[c0, c1, c2, c3, c4, c5, .int .i64 a0, .int .i64 a1, .int .i64 a2, .int .i64 a3, .int .i64 a4, ck, cv, .int .i64 kid]] w fun e w' => e = .returned (.bool true) ∧ Keeps Nob w w' := by
  obtain ⟨X1, k1, e1, _, _⟩ := h.1.high.form
  obtain ⟨X3, k3, e3, _, _⟩ := h.2.keys.form
  obtain ⟨X4, k4, e4, _, _⟩ := h.2.vals.form
  obtain ⟨X5, k5, e5, y5, z5⟩ := h.2.kids.form
  have e0 := h.1.lvl
  have e2 := h.1.right
  unfold iV at e0 e2
  subst e0 e1 e2 e3 e4 e5
  have hl5 : n.kids.length ≤ 9223372036854775807 := Nat.le_trans y5 z5
  obtain ⟨Ak, ck1, e1, _, _⟩ := hky.form
  obtain ⟨Av, cv1, e2, _, _⟩ := hva.form
  subst e1 e2
  have H0 := Lib.hid h
  have HKY := Lib.hid hky
  have HVA := Lib.hid hva
  have HS : Hid (NdSm 64 n) := hs
  have HKW := Lib.hid hkw
  clear h hky hva hs hkw y5 z5
  obtain ⟨ev, hev⟩ : ∃ v, mayE n a0 a1 a2 a3 a4 = v := ⟨_, rfl⟩
  obtain ⟨bg, hbg⟩ : ∃ b, keyOk key = b := ⟨_, rfl⟩
  obtain ⟨bf, hbf⟩ : ∃ b, valBad val = b := ⟨_, rfl⟩
  obtain ⟨bb, hbb⟩ : ∃ b, beyond n.high key = b := ⟨_, rfl⟩
  have HEV := Lib.hid hev
  have HBG := Lib.hid hbg
  have HBF := Lib.hid hbf
  have HBB := Lib.hid hbb
  clear hev hbg hbf hbb
  go_enter Try.func16, Try.ntmps16
  go_wp2_with fail
  refine calls_at (fun wa hw => ?_)
  obtain ⟨N, hN⟩ : ∃ N, w.heap.size = N := ⟨_, rfl⟩
  have hk : Keeps Nob w wa := by rw [hw]; exact ((Keeps.alloc _ _ _).alloc' _).alloc' _
  have BN : Hid (Blk wa (N + 1) 51 #[.int .i64 n.lvl, .slice X1 n.high.length k1, .int .i64 n.right, .slice X3 n.keys.length k3, .slice X4 n.vals.length k4, .slice X5 n.kids.length k5]) := by rw [hw, ← hN]; exact (Blk.new' (by simp) _ _).alloc _
  have BC : Hid (Blk wa (N + 2) 82 #[.int .i64 a0, .int .i64 a1, .int .i64 a2, .int .i64 a3, .int .i64 a4]) := by rw [hw, ← hN]; exact Blk.new' (by simp) _ _
  try rw [hN]
  obtain ⟨NC, hNC⟩ : ∃ y, N + 1 + 1 = y := ⟨_, rfl⟩
  obtain ⟨NB, hNB⟩ : ∃ y, N + 1 = y := ⟨_, rfl⟩
  rw [show N + 2 = NC from hNC] at BC
  rw [hNB] at BN
  try rw [hNC]
  try rw [hNB]
  clear hNC hNB
  have K := Lib.hid hk
  have HN := Lib.hid (H0.out.keeps hk (fun _ _ _ => id))
  have HK := Lib.hid (HKY.out.keeps hk (fun _ _ _ => id))
  have HV := Lib.hid (HVA.out.keeps hk (fun _ _ _ => id))
  clear hw hk hN HKY HVA
  refine (head9 wa).mono ?_
  rintro e w1 ⟨rfl, hk⟩
  replace BN := Lib.hid (BN.out.keeps hk id)
  replace BC := Lib.hid (BC.out.keeps hk id)
  replace HN := Lib.hid (HN.out.keeps hk (fun _ _ _ => id))
  replace HK := Lib.hid (HK.out.keeps hk (fun _ _ _ => id))
  replace HV := Lib.hid (HV.out.keeps hk (fun _ _ _ => id))
  replace K := Lib.hid (K.out.trans hk (fun _ _ h => h))
  clear hk
  have qBN := fun i => BN.out.cell i
  have lBN := BN.out.lt
  have qBC := fun i => BC.out.cell i
  have lBC := BC.out.lt
  go_wp2_with fail
  clear qBN lBN qBC lBC
  refine (checkP (a0 := a0) (a1 := a1) (a2 := a2) (a3 := a3) (a4 := a4) HN.out HKW.out (HS.out.mono (by decide))).mono ?_
  rintro e w2 ⟨rfl, hk⟩
  replace BN := Lib.hid (BN.out.keeps hk id)
  replace BC := Lib.hid (BC.out.keeps hk id)
  replace HN := Lib.hid (HN.out.keeps hk (fun _ _ _ => id))
  replace HK := Lib.hid (HK.out.keeps hk (fun _ _ _ => id))
  replace HV := Lib.hid (HV.out.keeps hk (fun _ _ _ => id))
  replace K := Lib.hid (K.out.trans hk (fun _ _ h => h))
  clear hk
  rw [HEV.out]
  go_wp2_with fail
  refine (keyR HK.out).mono ?_
  rintro e w3 ⟨rfl, rfl⟩
  rw [HBG.out]
  go_wp2_with fail
  refine (valueR HV.out).mono ?_
  rintro e w3 ⟨rfl, rfl⟩
  rw [HBF.out]
  have qBN := fun i => BN.out.cell i
  have lBN := BN.out.lt
  go_wp2_with fail
  clear qBN lBN
  refine (beyondR HN.out.1.high HK.out).mono ?_
  rintro e w4 ⟨rfl, hk⟩
  replace BN := Lib.hid (BN.out.keeps hk id)
  replace BC := Lib.hid (BC.out.keeps hk id)
  replace HN := Lib.hid (HN.out.keeps hk (fun _ _ _ => id))
  replace HK := Lib.hid (HK.out.keeps hk (fun _ _ _ => id))
  replace HV := Lib.hid (HV.out.keeps hk (fun _ _ _ => id))
  replace K := Lib.hid (K.out.trans hk (fun _ _ h => h))
  clear hk
  rw [HBB.out]
  by_cases hev : ev = 0
  rotate_left
  · have hev2 : (ev == 0) = false := by simpa using hev
    have hev3 : (ev != 0) = true := by simpa using hev
    clear hev
    go_wp2
    go_ret
    exact ⟨rfl, K.out⟩
  subst hev
  cases bg
  · go_wp2
    go_ret
    exact ⟨rfl, K.out⟩
  cases bf
  rotate_left
  · go_wp2
    go_ret
    exact ⟨rfl, K.out⟩
  cases bb
  rotate_left
  · go_wp2
    go_ret
    exact ⟨rfl, K.out⟩
  have hcf : confOk a0 a1 a2 a3 a4 = true := by
    have := HEV.out
    unfold mayE at this
    by_cases hc : confOk a0 a1 a2 a3 a4 = true
    · exact hc
    · rw [if_neg hc] at this; cases this
  have HCF := Lib.hid hcf
  have HM := Lib.hid ((may_iff hcf).1 HEV.out)
  have hcb : (1 ≤ a0 ∧ a0 ≤ 65536) ∧ (2 ≤ a1 ∧ a1 ≤ 64) ∧ (3 ≤ a2 ∧ a2 ≤ 64) := by
    unfold confOk at hcf
    simp only [Bool.and_eq_true, decide_eq_true_eq] at hcf
    exact ⟨hcf.1, hcf.2.1, hcf.2.2.1⟩
  have HA0 : Hid (a0 ≤ 65536) := hcb.1.2
  have HA00 : Hid (1 ≤ a0) := hcb.1.1
  have HA1 : Hid (a1 + 1 ≤ 65) := by have := hcb.2.1.2; show a1 + 1 ≤ 65; omega
  have HA11 : Hid (2 ≤ a1) := hcb.2.1.1
  have HA2 : Hid (a2 + 1 ≤ 65) := by have := hcb.2.2.2; show a2 + 1 ≤ 65; omega
  have HA22 : Hid (3 ≤ a2) := hcb.2.2.1
  clear hcf hcb
  have hkey : 1 ≤ key.length ∧ key.length ≤ 64 := by
    have := HBG.out
    unfold keyOk at this
    rw [decide_eq_true_eq] at this
    omega
  have hval : val.length ≤ 256 := by
    have := HBF.out
    unfold valBad at this
    rw [decide_eq_false_iff_not] at this
    omega
  have HKL := Lib.hid hkey
  have HVL := Lib.hid hval
  clear hkey hval
  by_cases hl : n.lvl = 0
  · have hl2 : (n.lvl == 0) = true := by simpa using hl
    have HL0 := Lib.hid hl
    clear hl
    have HMX0 := Lib.hid (HM.out.with_ (val := val) HL0.out HKL.out HBB.out HVL.out)
    have qBN := fun i => BN.out.cell i
    have lBN := BN.out.lt
    go_wp2_with fail
    clear qBN lBN
    refine calls_at (fun wx hw => ?_)
    obtain ⟨X, hX0⟩ : ∃ N, w4.heap.size = N := ⟨_, rfl⟩
    have hk : Keeps Nob w4 wx := by rw [hw]; exact Keeps.alloc _ _ _
    have XW : Hid (w.heap.size ≤ X) := by rw [← hX0]; exact K.out.size
    have BX : Hid (Blk wx X 51 #[.int .i64 0, .slice none 0 0, .int .i64 0, .slice none 0 0, .slice none 0 0, .slice none 0 0]) := by rw [hw, ← hX0]; exact Blk.new _ _ _
    try rw [hX0]
    replace BN := Lib.hid (BN.out.keeps hk id)
    replace BC := Lib.hid (BC.out.keeps hk id)
    replace HN := Lib.hid (HN.out.keeps hk (fun _ _ _ => id))
    replace HK := Lib.hid (HK.out.keeps hk (fun _ _ _ => id))
    replace HV := Lib.hid (HV.out.keeps hk (fun _ _ _ => id))
    replace K := Lib.hid (K.out.trans hk (fun _ _ h => h))
    clear hw hk hX0
    obtain ⟨x, hx⟩ : ∃ y, wth n key val = y := ⟨_, rfl⟩
    rw [hx] at HMX0
    have HMX : Hid (May x a0 (a1 + 1) (a2 + 1)) := HMX0.out.1.more
    have HWX := Lib.hid hx
    clear hx HMX0
    refine (withP HN.out HK.out HV.out HS.out (by have := HKL.out.2; unfold Sm; omega) (by have := HVL.out; unfold Sm; omega)).mono ?_
    rintro e wy ⟨d0, d1, d2, d3, d4, d5, rfl, hX, hk⟩
    rw [HWX.out] at hX
    replace BN := Lib.hid (BN.out.keeps hk id)
    replace BC := Lib.hid (BC.out.keeps hk id)
    replace HN := Lib.hid (HN.out.keeps hk (fun _ _ _ => id))
    replace HK := Lib.hid (HK.out.keeps hk (fun _ _ _ => id))
    replace HV := Lib.hid (HV.out.keeps hk (fun _ _ _ => id))
    replace BX := Lib.hid (BX.out.keeps hk id)
    replace K := Lib.hid (K.out.trans hk (fun _ _ h => h))
    clear hk
    obtain ⟨D1, j1, f1⟩ := Own.form hX.1.high
    obtain ⟨D3, j3, f3⟩ := OTx.form hX.2.keys
    obtain ⟨D4, j4, f4⟩ := OTx.form hX.2.vals
    obtain ⟨D5, j5, f5⟩ := Own.form hX.2.kids
    have f0 := hX.1.lvl
    have f2 := hX.1.right
    unfold iV at f0 f2
    subst f0 f1 f2 f3 f4 f5
    have HX := Lib.hid hX
    clear hX
    have qx0 := BX.out.cell 0
    have qx1 := BX.out.cell 1
    have qx2 := BX.out.cell 2
    have qx3 := BX.out.cell 3
    have qx4 := BX.out.cell 4
    have qx5 := BX.out.cell 5
    have gx0 := BX.out.frozen 0
    have gx1 := BX.out.frozen 1
    have gx2 := BX.out.frozen 2
    have gx3 := BX.out.frozen 3
    have gx4 := BX.out.frozen 4
    have gx5 := BX.out.frozen 5
    have qc0 := BC.out.cell 0
    have qc1 := BC.out.cell 1
    have qc2 := BC.out.cell 2
    have qc3 := BC.out.cell 3
    have qc4 := BC.out.cell 4
    have lBX := BX.out.lt
    have hne : NC ≠ X := fun e => Blk.ne_ BC.out BX.out (by decide) e
    go_wp2_with fail
    clear hne lBX qx0 gx0 qx1 gx1 qx2 gx2 qx3 gx3 qx4 gx4 qx5 gx5 qc0 qc1 qc2 qc3 qc4
    refine calls_at (fun wz hw => ?_)
    have hk : Keeps (fun b => b = X) wy wz := by rw [hw]; exact (((((Keeps.setCell _ (M := fun b => b = X) rfl _).setCell' (fun _ => rfl) _).setCell' (fun _ => rfl) _).setCell' (fun _ => rfl) _).setCell' (fun _ => rfl) _).setCell' (fun _ => rfl) _
    have BX2 : Hid (Blk wz X 51 #[.int .i64 x.lvl, .slice D1 x.high.length j1, .int .i64 x.right, .slice D3 x.keys.length j3, .slice D4 x.vals.length j4, .slice D5 x.kids.length j5]) := by rw [hw]; exact (((((BX.out.set_ 0 _).set_ 1 _).set_ 2 _).set_ 3 _).set_ 4 _).set_ 5 _
    have ha : Apart 51 := ⟨by decide, by decide, by decide⟩
    have hx2 : ONd wz _ _ _ _ _ _ _ x := ⟨⟨HX.out.1.lvl, HX.out.1.high.keepsB BX.out ha hk, HX.out.1.right⟩, HX.out.2.keys.keepsB BX.out ha hk, HX.out.2.vals.keepsB BX.out ha hk, HX.out.2.kids.keepsB BX.out ha hk⟩
    replace HX := Lib.hid hx2
    clear hx2
    replace BC := Lib.hid (BC.out.keeps hk (fun e => Blk.ne_ BC.out BX.out (by decide) e))
    replace BX := BX2
    replace K := Lib.hid (K.out.trans hk (fun b hb e => by have h1 : b = X := e; have := XW.out; omega))
    clear BX2 hw hk ha HN HK HV BN
    obtain ⟨bo, hbo⟩ : ∃ b, over x a1 a2 = b := ⟨_, rfl⟩
    have HBO := Lib.hid hbo
    clear hbo
    refine (overP (cn := a0) (cl := a1) (ci := a2) (cf := a3) (cb := a4) HX.out.r).mono ?_
    rintro e wo ⟨rfl, hk⟩
    replace BC := Lib.hid (BC.out.keeps hk id)
    replace BX := Lib.hid (BX.out.keeps hk id)
    replace HX := Lib.hid (HX.out.keeps hk (fun _ _ _ => id))
    replace K := Lib.hid (K.out.trans hk (fun _ _ h => h))
    clear hk
    rw [HBO.out]
    cases bo
    · have hm := (may_iff HCF.out).2 (HMX.out.notOver HBO.out)
      have hchk := fun wq (hk : Keeps Nob wo wq) => checkP (a0 := a0) (a1 := a1) (a2 := a2) (a3 := a3) (a4 := a4) (HX.out.keeps hk (fun _ _ _ => id)).r (HMX.out.k64 HA0.out) ((HMX.out.sm HA1.out HA2.out).mono (by decide))
      rw [hm] at hchk
      have HCHK := Lib.hid (hchk _ (Keeps.refl _ _))
      clear hm hchk
      have qBX := fun i => BX.out.cell i
      have lBX := BX.out.lt
      have qBC := fun i => BC.out.cell i
      have lBC := BC.out.lt
      go_wp2_with fail
      clear qBX lBX qBC lBC
      refine (HCHK.out).mono ?_
      rintro e wp ⟨rfl, hk⟩
      replace BC := Lib.hid (BC.out.keeps hk id)
      replace BX := Lib.hid (BX.out.keeps hk id)
      replace HX := Lib.hid (HX.out.keeps hk (fun _ _ _ => id))
      replace K := Lib.hid (K.out.trans hk (fun _ _ h => h))
      clear hk
      go_wp2
      go_ret
      exact ⟨rfl, K.out⟩
    · have HMS := Lib.hid (HMX.out.split HBO.out HA00.out HA11.out HA22.out)
      have qBX := fun i => BX.out.cell i
      have lBX := BX.out.lt
      have qBC := fun i => BC.out.cell i
      have lBC := BC.out.lt
      go_wp2_with fail
      clear qBX lBX qBC lBC
      refine (splitP (right := a0) HX.out.r (HMX.out.sm HA1.out HA2.out)).mono ?_
      rintro e ws ⟨d0, d1, d2, d3, d4, d5, e0, e1, e2, e3, e4, e5, kv, rfl, P, _, Q, _, R, _, _, hL, hR, hKV, hk⟩
      replace BC := Lib.hid (BC.out.keeps hk id)
      replace BX := Lib.hid (BX.out.keeps hk id)
      replace HX := Lib.hid (HX.out.keeps hk (fun _ _ _ => id))
      replace K := Lib.hid (K.out.trans hk (fun _ _ h => h))
      clear hk
      obtain ⟨xl, hxl⟩ : ∃ y, spL x a0 = y := ⟨_, rfl⟩
      obtain ⟨xr, hxr⟩ : ∃ y, spR x = y := ⟨_, rfl⟩
      rw [hxl] at hL HMS
      rw [hxr] at hR HMS
      clear hxl hxr
      obtain ⟨KA, kc, f1⟩ := Own.form hKV
      subst f1
      clear hKV
      obtain ⟨L1, m1, f1⟩ := Own.form hL.1.high
      obtain ⟨L3, m3, f3⟩ := OTx.form hL.2.keys
      obtain ⟨L4, m4, f4⟩ := OTx.form hL.2.vals
      obtain ⟨L5, m5, f5⟩ := Own.form hL.2.kids
      have f0 := hL.1.lvl
      have f2 := hL.1.right
      unfold iV at f0 f2
      subst f0 f1 f2 f3 f4 f5
      obtain ⟨R1, o1, f1⟩ := Own.form hR.1.high
      obtain ⟨R3, o3, f3⟩ := OTx.form hR.2.keys
      obtain ⟨R4, o4, f4⟩ := OTx.form hR.2.vals
      obtain ⟨R5, o5, f5⟩ := Own.form hR.2.kids
      have f0 := hR.1.lvl
      have f2 := hR.1.right
      unfold iV at f0 f2
      subst f0 f1 f2 f3 f4 f5
      have HL := Lib.hid hL
      have HR := Lib.hid hR
      clear hL hR
      have HML := Lib.hid ((may_iff HCF.out).2 HMS.out.1)
      have HMR := Lib.hid ((may_iff HCF.out).2 HMS.out.2)
      have qBC := fun i => BC.out.cell i
      have lBC := BC.out.lt
      go_wp2_with fail
      clear qBC lBC
      refine calls_at (fun wt hw => ?_)
      obtain ⟨Y, hY⟩ : ∃ N, ws.heap.size = N := ⟨_, rfl⟩
      have hk : Keeps Nob ws wt := by rw [hw]; exact (Keeps.alloc _ _ _).alloc' _
      have BR : Hid (Blk wt (Y + 1) 51 #[.int .i64 xr.lvl, .slice R1 xr.high.length o1, .int .i64 xr.right, .slice R3 xr.keys.length o3, .slice R4 xr.vals.length o4, .slice R5 xr.kids.length o5]) := by rw [hw, ← hY]; exact Blk.new' (by simp) _ _
      try rw [hY]
      replace BC := Lib.hid (BC.out.keeps hk id)
      replace BX := Lib.hid (BX.out.keeps hk id)
      replace HX := Lib.hid (HX.out.keeps hk (fun _ _ _ => id))
      replace HL := Lib.hid (HL.out.keeps hk (fun _ _ _ => id))
      replace HR := Lib.hid (HR.out.keeps hk (fun _ _ _ => id))
      replace K := Lib.hid (K.out.trans hk (fun _ _ h => h))
      clear hw hk hY
      have hchk := checkP (a0 := a0) (a1 := a1) (a2 := a2) (a3 := a3) (a4 := a4) HL.out.r (HMS.out.1.k64 HA0.out) ((HMS.out.1.sm (by have := HA1.out; omega) (by have := HA2.out; omega)).mono (by decide))
      rw [HML.out] at hchk
      have HCHK := Lib.hid hchk
      clear hchk
      refine (HCHK.out).mono ?_
      rintro e wu ⟨rfl, hk⟩
      replace BC := Lib.hid (BC.out.keeps hk id)
      replace BX := Lib.hid (BX.out.keeps hk id)
      replace HX := Lib.hid (HX.out.keeps hk (fun _ _ _ => id))
      replace HL := Lib.hid (HL.out.keeps hk (fun _ _ _ => id))
      replace HR := Lib.hid (HR.out.keeps hk (fun _ _ _ => id))
      replace BR := Lib.hid (BR.out.keeps hk id)
      replace K := Lib.hid (K.out.trans hk (fun _ _ h => h))
      clear hk
      have qBR := fun i => BR.out.cell i
      have lBR := BR.out.lt
      have qBC := fun i => BC.out.cell i
      have lBC := BC.out.lt
      go_wp2_with fail
      clear qBR lBR qBC lBC
      have hchk := checkP (a0 := a0) (a1 := a1) (a2 := a2) (a3 := a3) (a4 := a4) HR.out.r (HMS.out.2.k64 HA0.out) ((HMS.out.2.sm (by have := HA1.out; omega) (by have := HA2.out; omega)).mono (by decide))
      rw [HMR.out] at hchk
      replace HCHK := Lib.hid hchk
      clear hchk
      refine (HCHK.out).mono ?_
      rintro e wv ⟨rfl, hk⟩
      replace BC := Lib.hid (BC.out.keeps hk id)
      replace BX := Lib.hid (BX.out.keeps hk id)
      replace HX := Lib.hid (HX.out.keeps hk (fun _ _ _ => id))
      replace HL := Lib.hid (HL.out.keeps hk (fun _ _ _ => id))
      replace HR := Lib.hid (HR.out.keeps hk (fun _ _ _ => id))
      replace BR := Lib.hid (BR.out.keeps hk id)
      replace K := Lib.hid (K.out.trans hk (fun _ _ h => h))
      clear hk
      go_wp2
      go_ret
      exact ⟨rfl, K.out⟩
  · have hl2 : (n.lvl == 0) = false := by simpa using hl
    have HL0 : Hid (n.lvl ≠ 0) := hl
    clear hl
    have qBN := fun i => BN.out.cell i
    have lBN := BN.out.lt
    go_wp2
    clear qBN lBN
    refine code_at (fun wx hw => ?_)
    obtain ⟨X, hX0⟩ : ∃ N, w4.heap.size = N := ⟨_, rfl⟩
    have hk : Keeps Nob w4 wx := by rw [hw]; exact Keeps.alloc _ _ _
    have XW : Hid (w.heap.size ≤ X) := by rw [← hX0]; exact K.out.size
    have BX : Hid (Blk wx X 51 #[.int .i64 0, .slice none 0 0, .int .i64 0, .slice none 0 0, .slice none 0 0, .slice none 0 0]) := by rw [hw, ← hX0]; exact Blk.new _ _ _
    try rw [hX0]
    replace BN := Lib.hid (BN.out.keeps hk id)
    replace BC := Lib.hid (BC.out.keeps hk id)
    replace HN := Lib.hid (HN.out.keeps hk (fun _ _ _ => id))
    replace HK := Lib.hid (HK.out.keeps hk (fun _ _ _ => id))
    replace HV := Lib.hid (HV.out.keeps hk (fun _ _ _ => id))
    replace K := Lib.hid (K.out.trans hk (fun _ _ h => h))
    clear hw hk hX0
    go_loopw [14] (fun i wr => ∃ k : Nat, k ≤ n.kids.length ∧ i = .int .i64 k ∧ kid ∉ n.kids.take k ∧ wr = wx) (fun i _ => n.kids.length - (intOf i).toNat)
    case atStart => exact ⟨0, Nat.zero_le _, rfl, by simp, rfl⟩
    obtain ⟨k, hk, rfl, hnot, rfl⟩ := hrel
    have HNOT := Lib.hid hnot
    clear hnot
    rcases Nat.lt_or_ge k n.kids.length with hlt | hlt
    · obtain ⟨y, hy⟩ : ∃ x, n.kids[k]? = some x := ⟨_, List.getElem?_eq_getElem hlt⟩
      obtain ⟨ad, ea, _, hc⟩ := HN.out.2.kids.cells hlt
      have q0 := hc k y hy
      unfold iV at q0
      have HT := Lib.hid (take_snocC n.kids k y hy)
      have qBN := fun i => BN.out.cell i
      subst ea
      clear hc hy
      by_cases hyk : y = kid
      · have hyk2 : (y == kid) = true := by simpa using hyk
        clear hyk
        go_wp2
        go_ret
        exact ⟨rfl, K.out⟩
      · have hyk2 : (y == kid) = false := by simpa using hyk
        have HYK := Lib.hid hyk
        clear hyk
        go_wp2
        go_roundw
        case rel =>
          refine ⟨k + 1, by omega, by go_num, ?_, by trivial⟩
          rw [HT.out]
          intro hm
          rcases List.mem_append.1 hm with hm | hm
          · exact HNOT.out hm
          · simp at hm; exact HYK.out hm.symm
        case measure => simp [intOf]; omega
    obtain rfl : k = n.kids.length := by omega
    have hnot := HNOT.out
    rw [List.take_length] at hnot
    replace HNOT := Lib.hid hnot
    clear hnot
    by_cases hr1 : kid < 1
    · have qBN := fun i => BN.out.cell i
      have qBC := fun i => BC.out.cell i
      go_wp2
      go_ret
      exact ⟨rfl, K.out⟩
    have hr1d : decide (kid < 1) = false := decide_eq_false hr1
    by_cases hr2 : a0 < kid
    · have qBN := fun i => BN.out.cell i
      have qBC := fun i => BC.out.cell i
      go_wp2
      go_ret
      exact ⟨rfl, K.out⟩
    have hr2d : decide (a0 < kid) = false := decide_eq_false hr2
    have HMX0 := Lib.hid (HM.out.join_ (kid := kid) HL0.out HKL.out HBB.out HNOT.out ⟨by omega, by omega⟩)
    have qBN := fun i => BN.out.cell i
    have lBN := BN.out.lt
    have qBC := fun i => BC.out.cell i
    have lBC := BC.out.lt
    go_wp2_with fail
    clear qBN lBN qBC lBC
    obtain ⟨x, hx⟩ : ∃ y, jnd n key kid = y := ⟨_, rfl⟩
    rw [hx] at HMX0
    have HMX : Hid (May x a0 (a1 + 1) (a2 + 1)) := HMX0.out.1.more1
    have HWX := Lib.hid hx
    clear hx HMX0
    refine (joinedP (kid := kid) HN.out HK.out HS.out (by have := HKL.out.2; unfold Sm; omega)).mono ?_
    rintro e wy ⟨d0, d1, d2, d3, d4, d5, rfl, hX, hk⟩
    rw [HWX.out] at hX
    replace BN := Lib.hid (BN.out.keeps hk id)
    replace BC := Lib.hid (BC.out.keeps hk id)
    replace HN := Lib.hid (HN.out.keeps hk (fun _ _ _ => id))
    replace HK := Lib.hid (HK.out.keeps hk (fun _ _ _ => id))
    replace HV := Lib.hid (HV.out.keeps hk (fun _ _ _ => id))
    replace BX := Lib.hid (BX.out.keeps hk id)
    replace K := Lib.hid (K.out.trans hk (fun _ _ h => h))
    clear hk
    obtain ⟨D1, j1, f1⟩ := Own.form hX.1.high
    obtain ⟨D3, j3, f3⟩ := OTx.form hX.2.keys
    obtain ⟨D4, j4, f4⟩ := OTx.form hX.2.vals
    obtain ⟨D5, j5, f5⟩ := Own.form hX.2.kids
    have f0 := hX.1.lvl
    have f2 := hX.1.right
    unfold iV at f0 f2
    subst f0 f1 f2 f3 f4 f5
    have HX := Lib.hid hX
    clear hX
    have qx0 := BX.out.cell 0
    have qx1 := BX.out.cell 1
    have qx2 := BX.out.cell 2
    have qx3 := BX.out.cell 3
    have qx4 := BX.out.cell 4
    have qx5 := BX.out.cell 5
    have gx0 := BX.out.frozen 0
    have gx1 := BX.out.frozen 1
    have gx2 := BX.out.frozen 2
    have gx3 := BX.out.frozen 3
    have gx4 := BX.out.frozen 4
    have gx5 := BX.out.frozen 5
    have qc0 := BC.out.cell 0
    have qc1 := BC.out.cell 1
    have qc2 := BC.out.cell 2
    have qc3 := BC.out.cell 3
    have qc4 := BC.out.cell 4
    have lBX := BX.out.lt
    have hne : NC ≠ X := fun e => Blk.ne_ BC.out BX.out (by decide) e
    go_wp2_with fail
    clear hne lBX qx0 gx0 qx1 gx1 qx2 gx2 qx3 gx3 qx4 gx4 qx5 gx5 qc0 qc1 qc2 qc3 qc4
    refine calls_at (fun wz hw => ?_)
    have hk : Keeps (fun b => b = X) wy wz := by rw [hw]; exact (((((Keeps.setCell _ (M := fun b => b = X) rfl _).setCell' (fun _ => rfl) _).setCell' (fun _ => rfl) _).setCell' (fun _ => rfl) _).setCell' (fun _ => rfl) _).setCell' (fun _ => rfl) _
    have BX2 : Hid (Blk wz X 51 #[.int .i64 x.lvl, .slice D1 x.high.length j1, .int .i64 x.right, .slice D3 x.keys.length j3, .slice D4 x.vals.length j4, .slice D5 x.kids.length j5]) := by rw [hw]; exact (((((BX.out.set_ 0 _).set_ 1 _).set_ 2 _).set_ 3 _).set_ 4 _).set_ 5 _
    have ha : Apart 51 := ⟨by decide, by decide, by decide⟩
    have hx2 : ONd wz _ _ _ _ _ _ _ x := ⟨⟨HX.out.1.lvl, HX.out.1.high.keepsB BX.out ha hk, HX.out.1.right⟩, HX.out.2.keys.keepsB BX.out ha hk, HX.out.2.vals.keepsB BX.out ha hk, HX.out.2.kids.keepsB BX.out ha hk⟩
    replace HX := Lib.hid hx2
    clear hx2
    replace BC := Lib.hid (BC.out.keeps hk (fun e => Blk.ne_ BC.out BX.out (by decide) e))
    replace BX := BX2
    replace K := Lib.hid (K.out.trans hk (fun b hb e => by have h1 : b = X := e; have := XW.out; omega))
    clear BX2 hw hk ha HN HK HV BN
    obtain ⟨bo, hbo⟩ : ∃ b, over x a1 a2 = b := ⟨_, rfl⟩
    have HBO := Lib.hid hbo
    clear hbo
    refine (overP (cn := a0) (cl := a1) (ci := a2) (cf := a3) (cb := a4) HX.out.r).mono ?_
    rintro e wo ⟨rfl, hk⟩
    replace BC := Lib.hid (BC.out.keeps hk id)
    replace BX := Lib.hid (BX.out.keeps hk id)
    replace HX := Lib.hid (HX.out.keeps hk (fun _ _ _ => id))
    replace K := Lib.hid (K.out.trans hk (fun _ _ h => h))
    clear hk
    rw [HBO.out]
    cases bo
    · have hm := (may_iff HCF.out).2 (HMX.out.notOver HBO.out)
      have hchk := fun wq (hk : Keeps Nob wo wq) => checkP (a0 := a0) (a1 := a1) (a2 := a2) (a3 := a3) (a4 := a4) (HX.out.keeps hk (fun _ _ _ => id)).r (HMX.out.k64 HA0.out) ((HMX.out.sm HA1.out HA2.out).mono (by decide))
      rw [hm] at hchk
      have HCHK := Lib.hid (hchk _ (Keeps.refl _ _))
      clear hm hchk
      have qBX := fun i => BX.out.cell i
      have lBX := BX.out.lt
      have qBC := fun i => BC.out.cell i
      have lBC := BC.out.lt
      go_wp2_with fail
      clear qBX lBX qBC lBC
      refine (HCHK.out).mono ?_
      rintro e wp ⟨rfl, hk⟩
      replace BC := Lib.hid (BC.out.keeps hk id)
      replace BX := Lib.hid (BX.out.keeps hk id)
      replace HX := Lib.hid (HX.out.keeps hk (fun _ _ _ => id))
      replace K := Lib.hid (K.out.trans hk (fun _ _ h => h))
      clear hk
      go_wp2
      go_ret
      exact ⟨rfl, K.out⟩
    · have HMS := Lib.hid (HMX.out.split HBO.out HA00.out HA11.out HA22.out)
      have qBX := fun i => BX.out.cell i
      have lBX := BX.out.lt
      have qBC := fun i => BC.out.cell i
      have lBC := BC.out.lt
      go_wp2_with fail
      clear qBX lBX qBC lBC
      refine (splitP (right := a0) HX.out.r (HMX.out.sm HA1.out HA2.out)).mono ?_
      rintro e ws ⟨d0, d1, d2, d3, d4, d5, e0, e1, e2, e3, e4, e5, kv, rfl, P, _, Q, _, R, _, _, hL, hR, hKV, hk⟩
      replace BC := Lib.hid (BC.out.keeps hk id)
      replace BX := Lib.hid (BX.out.keeps hk id)
      replace HX := Lib.hid (HX.out.keeps hk (fun _ _ _ => id))
      replace K := Lib.hid (K.out.trans hk (fun _ _ h => h))
      clear hk
      obtain ⟨xl, hxl⟩ : ∃ y, spL x a0 = y := ⟨_, rfl⟩
      obtain ⟨xr, hxr⟩ : ∃ y, spR x = y := ⟨_, rfl⟩
      rw [hxl] at hL HMS
      rw [hxr] at hR HMS
      clear hxl hxr
      obtain ⟨KA, kc, f1⟩ := Own.form hKV
      subst f1
      clear hKV
      obtain ⟨L1, m1, f1⟩ := Own.form hL.1.high
      obtain ⟨L3, m3, f3⟩ := OTx.form hL.2.keys
      obtain ⟨L4, m4, f4⟩ := OTx.form hL.2.vals
      obtain ⟨L5, m5, f5⟩ := Own.form hL.2.kids
      have f0 := hL.1.lvl
      have f2 := hL.1.right
      unfold iV at f0 f2
      subst f0 f1 f2 f3 f4 f5
      obtain ⟨R1, o1, f1⟩ := Own.form hR.1.high
      obtain ⟨R3, o3, f3⟩ := OTx.form hR.2.keys
      obtain ⟨R4, o4, f4⟩ := OTx.form hR.2.vals
      obtain ⟨R5, o5, f5⟩ := Own.form hR.2.kids
      have f0 := hR.1.lvl
      have f2 := hR.1.right
      unfold iV at f0 f2
      subst f0 f1 f2 f3 f4 f5
      have HL := Lib.hid hL
      have HR := Lib.hid hR
      clear hL hR
      have HML := Lib.hid ((may_iff HCF.out).2 HMS.out.1)
      have HMR := Lib.hid ((may_iff HCF.out).2 HMS.out.2)
      have qBC := fun i => BC.out.cell i
      have lBC := BC.out.lt
      go_wp2_with fail
      clear qBC lBC
      refine calls_at (fun wt hw => ?_)
      obtain ⟨Y, hY⟩ : ∃ N, ws.heap.size = N := ⟨_, rfl⟩
      have hk : Keeps Nob ws wt := by rw [hw]; exact (Keeps.alloc _ _ _).alloc' _
      have BR : Hid (Blk wt (Y + 1) 51 #[.int .i64 xr.lvl, .slice R1 xr.high.length o1, .int .i64 xr.right, .slice R3 xr.keys.length o3, .slice R4 xr.vals.length o4, .slice R5 xr.kids.length o5]) := by rw [hw, ← hY]; exact Blk.new' (by simp) _ _
      try rw [hY]
      replace BC := Lib.hid (BC.out.keeps hk id)
      replace BX := Lib.hid (BX.out.keeps hk id)
      replace HX := Lib.hid (HX.out.keeps hk (fun _ _ _ => id))
      replace HL := Lib.hid (HL.out.keeps hk (fun _ _ _ => id))
      replace HR := Lib.hid (HR.out.keeps hk (fun _ _ _ => id))
      replace K := Lib.hid (K.out.trans hk (fun _ _ h => h))
      clear hw hk hY
      have hchk := checkP (a0 := a0) (a1 := a1) (a2 := a2) (a3 := a3) (a4 := a4) HL.out.r (HMS.out.1.k64 HA0.out) ((HMS.out.1.sm (by have := HA1.out; omega) (by have := HA2.out; omega)).mono (by decide))
      rw [HML.out] at hchk
      have HCHK := Lib.hid hchk
      clear hchk
      refine (HCHK.out).mono ?_
      rintro e wu ⟨rfl, hk⟩
      replace BC := Lib.hid (BC.out.keeps hk id)
      replace BX := Lib.hid (BX.out.keeps hk id)
      replace HX := Lib.hid (HX.out.keeps hk (fun _ _ _ => id))
      replace HL := Lib.hid (HL.out.keeps hk (fun _ _ _ => id))
      replace HR := Lib.hid (HR.out.keeps hk (fun _ _ _ => id))
      replace BR := Lib.hid (BR.out.keeps hk id)
      replace K := Lib.hid (K.out.trans hk (fun _ _ h => h))
      clear hk
      have qBR := fun i => BR.out.cell i
      have lBR := BR.out.lt
      have qBC := fun i => BC.out.cell i
      have lBC := BC.out.lt
      go_wp2_with fail
      clear qBR lBR qBC lBC
      have hchk := checkP (a0 := a0) (a1 := a1) (a2 := a2) (a3 := a3) (a4 := a4) HR.out.r (HMS.out.2.k64 HA0.out) ((HMS.out.2.sm (by have := HA1.out; omega) (by have := HA2.out; omega)).mono (by decide))
      rw [HMR.out] at hchk
      replace HCHK := Lib.hid hchk
      clear hchk
      refine (HCHK.out).mono ?_
      rintro e wv ⟨rfl, hk⟩
      replace BC := Lib.hid (BC.out.keeps hk id)
      replace BX := Lib.hid (BX.out.keeps hk id)
      replace HX := Lib.hid (HX.out.keeps hk (fun _ _ _ => id))
      replace HL := Lib.hid (HL.out.keeps hk (fun _ _ _ => id))
      replace HR := Lib.hid (HR.out.keeps hk (fun _ _ _ => id))
      replace BR := Lib.hid (BR.out.keeps hk id)
      replace K := Lib.hid (K.out.trans hk (fun _ _ h => h))
      clear hk
      go_wp2
      go_ret
      exact ⟨rfl, K.out⟩
end
end Go.Proofs.Ytdmmhblmgbhgfaa
