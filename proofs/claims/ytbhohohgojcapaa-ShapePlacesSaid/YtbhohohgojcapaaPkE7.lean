import Derived.Test.YtbhohohgojcapaaPkE5
import Derived.Test.YtbhohohgojcapaaPkE6
import Derived.Test.YtbhohohgojcapaaPkD1
namespace Go.Proofs.Ytbhohohgojcapaa
open Go.RowKit

section
variable {w : World} {M D S T : Nat → Prop} {p : Nat} {slots kv vv : Value} {ids : List Nat} {A : Ar} {key val : List UInt8}
set_option maxRecDepth 100000 in
set_option maxHeartbeats 64000000 in
theorem foundR (h0 : ArW w M D p slots ids A) (hsm : ∀ s ∈ A.sl, NdSm 0 s.nd) (hkey : Byts w S kv key) (hval : Byts w T vv val) (hF : foundM A key val 200 A.root = true) : Calls Try.prog 37 #[pV p, .agg #[kv, vv]] w fun e w' => e = .returned (.bool true) ∧ Keeps Nob w w' := by
  obtain ⟨KA, kc, e1, _, _⟩ := hkey.form
  obtain ⟨VA, vc, e2, _, _⟩ := hval.form
  subst e1 e2
  have H := Lib.hid h0
  have HS := Lib.hid hsm
  have HKY := Lib.hid hkey
  have HVL := Lib.hid hval
  have HF := Lib.hid hF
  clear h0 hsm hkey hval hF
  have FR := fun wx (h : ArW wx M D p slots ids A) => root_ h
  unfold pV iV at FR
  unfold pV
  go_enter Try.func37, Try.ntmps37
  go_wp2_with fail
  obtain ⟨P, hP⟩ : ∃ N, w.heap.size = N := ⟨_, rfl⟩
  rw [hP]
  refine calls_at (fun w1 hw => ?_)
  have hk : Keeps Nob w w1 := by rw [hw]; exact Keeps.alloc _ _ _
  have HB := Lib.hid (show Blk w1 P 98 #[.slice KA key.length kc, .slice VA val.length vc] by rw [hw, ← hP]; exact Blk.new _ _ _)
  have K := Lib.hid hk
  clear hw hk hP
  refine (FR _ (H.out.keeps K.out (fun _ _ _ h => h) (fun _ _ _ h => h))).mono ?_
  rintro e wk ⟨rfl, rfl⟩
  clear FR
  go_wp2
  go_loopw [5, 6] (fun ix i wr => ∃ (k : Nat) (id : Int), k ≤ 200 ∧ ix = .int .i64 id ∧ i = .int .i64 k ∧ foundM A key val (200 - k) id = true ∧ Blk wr P 98 #[.slice KA key.length kc, .slice VA val.length vc] ∧ Keeps Nob w wr) (fun _ i _ => 200 - (intOf i).toNat)
  case atStart => exact ⟨0, A.root, Nat.zero_le _, rfl, rfl, HF.out, HB.out, K.out⟩
  clear HF HB K
  obtain ⟨k, id, hk, rfl, rfl, hf, hb, hkr⟩ := hrel
  have HB := Lib.hid hb
  have K := Lib.hid hkr
  clear hb hkr
  obtain ⟨f, hfe⟩ : ∃ f, 200 - k = f + 1 := by
    rcases hq : 200 - k with _ | f
    · rw [hq, foundM] at hf; cases hf
    · exact ⟨f, rfl⟩
  have hlt : k < 200 := by omega
  rw [hfe, foundM] at hf
  obtain ⟨s, hs⟩ : ∃ s, A.get id = some s := by
    rcases hg : A.get id with _ | s
    · rw [hg] at hf; cases hf
    · exact ⟨s, rfl⟩
  rw [hs] at hf
  simp only at hf
  have HFE := Lib.hid hfe
  have HF := Lib.hid hf
  have FH := fun wx (h : ArW wx M D p slots ids A) => headX (ix := id) h HS.out
  have FB := fun wx (h : ArW wx M D p slots ids A) => bodyX (ix := id) h HS.out
  unfold pV iV at FH FB
  rw [opErr_some hs, opNd_some hs] at FH FB
  clear hfe hf hs
  go_wp2_with fail
  refine (FH _ (H.out.keeps K.out (fun _ _ _ h => h) (fun _ _ _ h => h))).mono ?_
  rintro e w2 ⟨d0, d1, d2, rfl, hh, k2⟩
  have HH := Lib.hid hh.r
  obtain ⟨X1, k1, e1⟩ := Own.form hh.high
  have e0 := hh.lvl
  have e2 := hh.right
  unfold iV at e0 e2
  subst e0 e1 e2
  replace HB := Lib.hid (HB.out.keeps k2 (fun h => h))
  replace K := Lib.hid (K.out.trans k2 (fun _ _ h => h))
  clear hh k2 FH
  have f0 := ((Blk.new w2 33 #[.int .i64 0, .slice none 0 0, .int .i64 0])).frozen 0
  have z0 := ((Blk.new w2 33 #[.int .i64 0, .slice none 0 0, .int .i64 0])).cell 0
  have f1 := fun (v0 : Value) => (((Blk.new w2 33 #[.int .i64 0, .slice none 0 0, .int .i64 0])).set_ 0 v0).frozen 1
  have z1 := fun (v0 : Value) => (((Blk.new w2 33 #[.int .i64 0, .slice none 0 0, .int .i64 0])).set_ 0 v0).cell 1
  have f2 := fun (v0 v1 : Value) => ((((Blk.new w2 33 #[.int .i64 0, .slice none 0 0, .int .i64 0])).set_ 0 v0).set_ 1 v1).frozen 2
  have z2 := fun (v0 v1 : Value) => ((((Blk.new w2 33 #[.int .i64 0, .slice none 0 0, .int .i64 0])).set_ 0 v0).set_ 1 v1).cell 2
  go_wp2_with fail
  clear f0 z0 f1 z1 f2 z2
  obtain ⟨Q, hQ⟩ : ∃ N, w2.heap.size = N := ⟨_, rfl⟩
  rw [hQ]
  refine calls_at (fun w3 hw => ?_)
  have k2 : Keeps Nob w2 w3 := by rw [hw]; exact Keeps.alloc _ _ _
  have HC : Hid (Blk w3 Q 33 #[.int .i64 s.nd.lvl, .slice X1 s.nd.high.length k1, .int .i64 s.nd.right]) := by rw [hw, ← hQ]; exact Lib.hid (Blk.new _ _ _)
  replace HH := Lib.hid (HH.out.keeps k2 (fun _ _ _ h => h))
  replace HB := Lib.hid (HB.out.keeps k2 (fun h => h))
  replace K := Lib.hid (K.out.trans k2 (fun _ _ h => h))
  clear hw hQ k2
  refine (FB _ (H.out.keeps K.out (fun _ _ _ h => h) (fun _ _ _ h => h))).mono ?_
  rintro e w4 ⟨d3, d4, d5, rfl, hh, kk⟩
  have HE := Lib.hid hh.r
  obtain ⟨X3, k3, e3⟩ := Own.form hh.keys.choose_spec.1
  obtain ⟨X4, k4, e4⟩ := Own.form hh.vals.choose_spec.1
  obtain ⟨X5, k5, e5⟩ := Own.form hh.kids
  subst e3 e4 e5
  replace HH := Lib.hid (HH.out.keeps kk (fun _ _ _ h => h))
  replace HB := Lib.hid (HB.out.keeps kk (fun h => h))
  replace HC := Lib.hid (HC.out.keeps kk (fun h => h))
  replace K := Lib.hid (K.out.trans kk (fun _ _ h => h))
  clear hh kk FB
  have f0 := ((Blk.new w4 35 #[.slice none 0 0, .slice none 0 0, .slice none 0 0])).frozen 0
  have z0 := ((Blk.new w4 35 #[.slice none 0 0, .slice none 0 0, .slice none 0 0])).cell 0
  have f1 := fun (v0 : Value) => (((Blk.new w4 35 #[.slice none 0 0, .slice none 0 0, .slice none 0 0])).set_ 0 v0).frozen 1
  have z1 := fun (v0 : Value) => (((Blk.new w4 35 #[.slice none 0 0, .slice none 0 0, .slice none 0 0])).set_ 0 v0).cell 1
  have f2 := fun (v0 v1 : Value) => ((((Blk.new w4 35 #[.slice none 0 0, .slice none 0 0, .slice none 0 0])).set_ 0 v0).set_ 1 v1).frozen 2
  have z2 := fun (v0 v1 : Value) => ((((Blk.new w4 35 #[.slice none 0 0, .slice none 0 0, .slice none 0 0])).set_ 0 v0).set_ 1 v1).cell 2
  go_upto_region 7 with (fail)
  clear f0 z0 f1 z1 f2 z2
  obtain ⟨R, hR⟩ : ∃ N, w4.heap.size = N := ⟨_, rfl⟩
  rw [hR]
  refine code_at (fun w5 hw => ?_)
  have k6 : Keeps Nob w4 w5 := by rw [hw]; exact Keeps.alloc _ _ _
  have HD : Hid (Blk w5 R 35 #[.slice X3 s.nd.keys.length k3, .slice X4 s.nd.vals.length k4, .slice X5 s.nd.kids.length k5]) := by rw [hw, ← hR]; exact Lib.hid (Blk.new _ _ _)
  replace HH := Lib.hid (HH.out.keeps k6 (fun _ _ _ h => h))
  replace HE := Lib.hid (HE.out.keeps k6 (fun _ _ _ h => h))
  replace HB := Lib.hid (HB.out.keeps k6 (fun h => h))
  replace HC := Lib.hid (HC.out.keeps k6 (fun h => h))
  replace K := Lib.hid (K.out.trans k6 (fun _ _ h => h))
  clear hw hR k6
  have r0 := HC.out.cell 0
  have r1 := HC.out.cell 1
  have r2 := HC.out.cell 2
  have t0 := HD.out.cell 0
  have t1 := HD.out.cell 1
  have t2 := HD.out.cell 2
  have f0 := ((Blk.new w5 37 #[.int .i64 0, .slice none 0 0, .int .i64 0, .slice none 0 0, .slice none 0 0, .slice none 0 0])).frozen 0
  have z0 := ((Blk.new w5 37 #[.int .i64 0, .slice none 0 0, .int .i64 0, .slice none 0 0, .slice none 0 0, .slice none 0 0])).cell 0
  have f1 := fun (v0 : Value) => (((Blk.new w5 37 #[.int .i64 0, .slice none 0 0, .int .i64 0, .slice none 0 0, .slice none 0 0, .slice none 0 0])).set_ 0 v0).frozen 1
  have z1 := fun (v0 : Value) => (((Blk.new w5 37 #[.int .i64 0, .slice none 0 0, .int .i64 0, .slice none 0 0, .slice none 0 0, .slice none 0 0])).set_ 0 v0).cell 1
  have f2 := fun (v0 v1 : Value) => ((((Blk.new w5 37 #[.int .i64 0, .slice none 0 0, .int .i64 0, .slice none 0 0, .slice none 0 0, .slice none 0 0])).set_ 0 v0).set_ 1 v1).frozen 2
  have z2 := fun (v0 v1 : Value) => ((((Blk.new w5 37 #[.int .i64 0, .slice none 0 0, .int .i64 0, .slice none 0 0, .slice none 0 0, .slice none 0 0])).set_ 0 v0).set_ 1 v1).cell 2
  have f3 := fun (v0 v1 v2 : Value) => (((((Blk.new w5 37 #[.int .i64 0, .slice none 0 0, .int .i64 0, .slice none 0 0, .slice none 0 0, .slice none 0 0])).set_ 0 v0).set_ 1 v1).set_ 2 v2).frozen 3
  have z3 := fun (v0 v1 v2 : Value) => (((((Blk.new w5 37 #[.int .i64 0, .slice none 0 0, .int .i64 0, .slice none 0 0, .slice none 0 0, .slice none 0 0])).set_ 0 v0).set_ 1 v1).set_ 2 v2).cell 3
  have f4 := fun (v0 v1 v2 v3 : Value) => ((((((Blk.new w5 37 #[.int .i64 0, .slice none 0 0, .int .i64 0, .slice none 0 0, .slice none 0 0, .slice none 0 0])).set_ 0 v0).set_ 1 v1).set_ 2 v2).set_ 3 v3).frozen 4
  have z4 := fun (v0 v1 v2 v3 : Value) => ((((((Blk.new w5 37 #[.int .i64 0, .slice none 0 0, .int .i64 0, .slice none 0 0, .slice none 0 0, .slice none 0 0])).set_ 0 v0).set_ 1 v1).set_ 2 v2).set_ 3 v3).cell 4
  have f5 := fun (v0 v1 v2 v3 v4 : Value) => (((((((Blk.new w5 37 #[.int .i64 0, .slice none 0 0, .int .i64 0, .slice none 0 0, .slice none 0 0, .slice none 0 0])).set_ 0 v0).set_ 1 v1).set_ 2 v2).set_ 3 v3).set_ 4 v4).frozen 5
  have z5 := fun (v0 v1 v2 v3 v4 : Value) => (((((((Blk.new w5 37 #[.int .i64 0, .slice none 0 0, .int .i64 0, .slice none 0 0, .slice none 0 0, .slice none 0 0])).set_ 0 v0).set_ 1 v1).set_ 2 v2).set_ 3 v3).set_ 4 v4).cell 5
  go_upto_region 10 with (fail)
  clear f0 z0 f1 z1 f2 z2 f3 z3 f4 z4 f5 z5
  clear r0 r1 r2 t0 t1 t2
  obtain ⟨N, hN⟩ : ∃ N, w5.heap.size = N := ⟨_, rfl⟩
  rw [hN]
  refine code_at (fun w6 hw => ?_)
  have k6 : Keeps Nob w5 w6 := by rw [hw]; exact Keeps.alloc _ _ _
  have HN : Hid (Blk w6 N 37 #[.int .i64 s.nd.lvl, .slice X1 s.nd.high.length k1, .int .i64 s.nd.right, .slice X3 s.nd.keys.length k3, .slice X4 s.nd.vals.length k4, .slice X5 s.nd.kids.length k5]) := by rw [hw, ← hN]; exact Lib.hid (Blk.new _ _ _)
  replace HH := Lib.hid (HH.out.keeps k6 (fun _ _ _ h => h))
  replace HE := Lib.hid (HE.out.keeps k6 (fun _ _ _ h => h))
  replace HB := Lib.hid (HB.out.keeps k6 (fun h => h))
  replace K := Lib.hid (K.out.trans k6 (fun _ _ h => h))
  replace HKY := Lib.hid (HKY.out.keeps K.out (fun _ _ _ h => h))
  replace HVL := Lib.hid (HVL.out.keeps K.out (fun _ _ _ h => h))
  clear hw hN k6 HC HD
  have qN := fun i => HN.out.cell i
  have qB := HB.out.cell 0
  go_wp2_with fail
  clear qN qB
  refine (beyondR HH.out.high HKY.out).mono ?_
  rintro e w7 ⟨rfl, k7⟩
  replace HH := Lib.hid (HH.out.keeps k7 (fun _ _ _ h => h))
  replace HE := Lib.hid (HE.out.keeps k7 (fun _ _ _ h => h))
  replace HB := Lib.hid (HB.out.keeps k7 (fun h => h))
  replace HN := Lib.hid (HN.out.keeps k7 (fun h => h))
  replace HKY := Lib.hid (HKY.out.keeps k7 (fun _ _ _ h => h))
  replace HVL := Lib.hid (HVL.out.keeps k7 (fun _ _ _ h => h))
  replace K := Lib.hid (K.out.trans k7 (fun _ _ h => h))
  clear k7
  rcases hbe : beyond s.nd.high key with _ | _
  rotate_left
  · have HF2 : Hid (foundM A key val f s.nd.right = true) := by have h := HF.out; rw [hbe, if_pos rfl] at h; exact h
    have q2 := HN.out.cell 2
    clear hbe
    go_wp2
    clear q2
    go_roundw
    case rel => exact ⟨k + 1, s.nd.right, by omega, rfl, by go_num, by rw [show 200 - (k + 1) = f by have := HFE.out; omega]; exact HF2.out, HB.out, K.out⟩
    case measure => simp [intOf]; omega
  by_cases hl : 0 < s.nd.lvl
  · have HF2 : Hid (foundM A key val f (childOf s.nd.kids s.nd.keys key) = true) := by have h := HF.out; rw [hbe, if_neg (by decide), if_pos hl] at h; exact h
    have qN := fun i => HN.out.cell i
    have qB := HB.out.cell 0
    clear hbe
    go_wp2_with fail
    clear qN qB
    refine (childR HE.out.keys HE.out.kids HKY.out).mono ?_
    rintro e w8 ⟨rfl, k8⟩
    replace HB := Lib.hid (HB.out.keeps k8 (fun h => h))
    replace K := Lib.hid (K.out.trans k8 (fun _ _ h => h))
    clear k8
    go_wp2
    go_roundw
    case rel => exact ⟨k + 1, childOf s.nd.kids s.nd.keys key, by omega, rfl, by go_num, by rw [show 200 - (k + 1) = f by have := HFE.out; omega]; exact HF2.out, HB.out, K.out⟩
    case measure => simp [intOf]; omega
  obtain ⟨hz1, hz2, hz3⟩ : has s.nd.keys key = true ∧ below s.nd.keys key < s.nd.vals.length ∧ s.nd.vals[below s.nd.keys key]? = some val := by
    have h := HF.out
    rw [hbe, if_neg (by decide), if_neg hl] at h
    unfold leafM at h
    simp only [Bool.and_eq_true, decide_eq_true_eq, beq_iff_eq] at h
    obtain ⟨h1, h2, h3⟩ := h
    rw [List.getD_eq_getElem?_getD] at h3
    rw [List.getElem?_eq_getElem h2] at h3 ⊢
    exact ⟨h1, h2, congrArg some h3⟩
  have qN := fun i => HN.out.cell i
  have qB := HB.out.cell 0
  have HL := Lib.hid hl
  clear hbe HF
  have hlz : decide (s.nd.lvl > 0) = false := decide_eq_false hl
  clear hl
  go_wp2_with fail
  clear qN qB
  refine (findR HE.out.keys HKY.out).mono ?_
  rintro e w8 ⟨rfl, k8⟩
  rw [hz1]
  replace HE := Lib.hid (HE.out.keeps k8 (fun _ _ _ h => h))
  replace HB := Lib.hid (HB.out.keeps k8 (fun h => h))
  replace HN := Lib.hid (HN.out.keeps k8 (fun h => h))
  replace HVL := Lib.hid (HVL.out.keeps k8 (fun _ _ _ h => h))
  replace K := Lib.hid (K.out.trans k8 (fun _ _ h => h))
  clear k8 hz1 hlz
  obtain ⟨j, hj⟩ : ∃ j, below s.nd.keys key = j := ⟨_, rfl⟩
  rw [hj] at hz2 hz3 ⊢
  obtain ⟨ad, eX, _, hc⟩ := Txts.cells HE.out.vals hz2
  obtain ⟨ga, oa, ia⟩ := ad
  subst eX
  obtain ⟨u, hu, hbu⟩ := hc j val hz3
  obtain ⟨UA, uc, eu, _, _⟩ := hbu.form
  subst eu
  have hm := HE.out.vals.form
  have s1 := fun n => run_str (hbu.keeps (Keeps.drewN Nob w8 n) (fun _ _ _ h => h))
  have s2 := fun n => run_str (HVL.out.keeps (Keeps.drewN Nob w8 n) (fun _ _ _ h => h))
  have q4 := HN.out.cell 4
  have qB := HB.out.cell 1
  have hlj : decide ((j : Int) < (s.nd.vals.length : Int)) = true := decide_eq_true (by omega)
  clear hc hbu hz3 hj
  go_wp2
  go_quiet (fail)
  go_wp2
  clear s1 s2 q4 qB hu
  go_ret
  exact ⟨rfl, K.out.drewN' _⟩
end
end Go.Proofs.Ytbhohohgojcapaa
