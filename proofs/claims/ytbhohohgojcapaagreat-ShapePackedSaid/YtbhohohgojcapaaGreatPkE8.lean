import Derived.Test.YtbhohohgojcapaaGreatPkE5
import Derived.Test.YtbhohohgojcapaaGreatPkE7
import Derived.BigQuiet
namespace Go.Proofs.YtbhohohgojcapaaGreat
open Go.RowKit

theorem levels_head {A : Ar} {a0 a1 a2 a3 a4 : Int} {ls : List Ch} {R : Rp} (h : levelsM A a0 a1 a2 a3 a4 = (ls, R)) (hs : R.sound = true) : ∃ s c r, ls = c :: r ∧ A.get A.root = some s ∧ opNd A (c.headD (0, [])).1 = s.nd := by
  obtain ⟨lv0, hT⟩ := levelsM_ok h hs
  have ht := hT.trs
  cases ht with
  | base h1 _ => obtain ⟨s, r, e, hg, _⟩ := h1.at_; exact ⟨s, _, _, rfl, hg, by rw [e]; exact opNd_get hg⟩
  | step _ h1 _ _ => obtain ⟨s, r, e, hg, _⟩ := h1.at_; exact ⟨s, _, _, rfl, hg, by rw [e]; exact opNd_get hg⟩
theorem trs_at {A : Ar} {chk : Nd → Int} {level first : Int} {up : Option Ch} {ts : List Ch} (h : Trs A chk level first up ts) : ∀ c ∈ ts, ∀ e ∈ c, ∃ s, A.get e.1 = some s := by
  induction h with
  | base h1 _ =>
    intro c hc e he
    simp at hc; subst hc
    obtain ⟨c', h2, _⟩ := h1.mem he
    obtain ⟨s, r, _, hg, _⟩ := h2.at_
    exact ⟨s, hg⟩
  | step _ h1 _ _ ih =>
    intro c hc e he
    rcases List.mem_cons.1 hc with rfl | hc
    · obtain ⟨c', h2, _⟩ := h1.mem he
      obtain ⟨s, r, _, hg, _⟩ := h2.at_
      exact ⟨s, hg⟩
    · exact ih c hc e he
theorem nodesOf_mem : ∀ {ls : List Ch} {c : Ch}, c ∈ ls → c.length ≤ nodesOf ls
  | d :: ls, c, h => by
    have e : nodesOf (d :: ls) = d.length + nodesOf ls := by unfold nodesOf; simp
    rcases List.mem_cons.1 h with rfl | h
    · omega
    · have := nodesOf_mem h; omega
section
variable {w : World} {M D : Nat → Prop} {q : Nat} {L : Value} {xs : List Value} {A : Ar} {a0 a1 a2 a3 a4 : Int}
set_option maxRecDepth 100000 in
set_option maxHeartbeats 64000000 in
theorem packedR (h0 : DocW w M D q L xs A) (hsm : ∀ s ∈ A.sl, NdSm 0 s.nd) :
    Calls Tryz.prog 30 #[pV q, .agg #[.int .i64 a0, .int .i64 a1, .int .i64 a2, .int .i64 a3, .int .i64 a4]] w fun e w' => e = .returned (.bool (packRes A a0 a1 a2 a3 a4)) ∧ Keeps Nob w w' := by
  have H0 := Lib.hid h0
  have HSM := Lib.hid hsm
  have hbd := h0.bound
  obtain ⟨ls, R, hR⟩ : ∃ ls R, levelsM A a0 a1 a2 a3 a4 = (ls, R) := ⟨_, _, rfl⟩
  have hcm : packRes A a0 a1 a2 a3 a4 = if R.sound = false then false else packM A a3 a2 ls := by unfold packRes; rw [hR]
  obtain ⟨res, hres⟩ : ∃ r, packRes A a0 a1 a2 a3 a4 = r := ⟨_, rfl⟩
  rw [hres]
  rw [hres] at hcm
  have HCM := Lib.hid hcm
  have HR := Lib.hid hR
  clear h0 hsm hR hcm hres
  have FL := fun wx (h : DocW wx M D q L xs A) => levelsR h HSM.out HR.out
  unfold pV rpV at FL
  unfold pV
  obtain ⟨P3, hP⟩ : ∃ N, w.heap.size = N := ⟨_, rfl⟩
  have HP := Lib.hid hP
  clear hP
  go_enter Tryz.func30, Tryz.ntmps30
  go_wp2_with fail
  rw [HP.out]
  refine calls_at (fun w1 hw => ?_)
  have K : Hid (Keeps Nob w w1) := by show Keeps _ _ _; rw [hw]; exact (Keeps.alloc _ _ _)
  have HB : Hid (Blk w1 P3 49 #[.int .i64 a0, .int .i64 a1, .int .i64 a2, .int .i64 a3, .int .i64 a4]) := by show Blk _ _ _ _; rw [hw, ← HP.out]; exact Blk.new _ _ _
  clear hw
  have HY := Lib.hid (H0.out.keeps K.out (fun _ _ _ h => h) (fun _ _ _ h => h))
  refine (FL _ HY.out).mono ?_
  rintro e w2 ⟨lv, rfl, hl, hk⟩
  replace HY := Lib.hid (HY.out.keeps hk (fun _ _ _ h => h) (fun _ _ _ h => h))
  replace K := Lib.hid (K.out.trans hk (fun _ _ h => h))
  replace HB := Lib.hid (HB.out.keeps hk (fun h => h))
  obtain ⟨lds, hlm, hown, hlds⟩ := hl
  obtain ⟨lA, lc, el⟩ := hown.form
  subst el
  have HL := Lib.hid hown
  have HLD := Lib.hid hlds
  have HLM := Lib.hid hlm
  have HLL : Hid (lds.length = ls.length) := by show _ = _; rw [← hlm, List.length_map]
  clear FL hk hown hlds hlm
  obtain ⟨rs, rn, re, rl, rns, rents⟩ := R
  have f0 := ((Blk.new w2 42 #[.bool false, .int .i64 0, .int .i64 0, .int .i64 0, .int .i64 0, .int .i64 0])).frozen 0
  have z0 := ((Blk.new w2 42 #[.bool false, .int .i64 0, .int .i64 0, .int .i64 0, .int .i64 0, .int .i64 0])).cell 0
  have f1 := fun (v0 : Value) => (((Blk.new w2 42 #[.bool false, .int .i64 0, .int .i64 0, .int .i64 0, .int .i64 0, .int .i64 0])).set_ 0 v0).frozen 1
  have z1 := fun (v0 : Value) => (((Blk.new w2 42 #[.bool false, .int .i64 0, .int .i64 0, .int .i64 0, .int .i64 0, .int .i64 0])).set_ 0 v0).cell 1
  have f2 := fun (v0 v1 : Value) => ((((Blk.new w2 42 #[.bool false, .int .i64 0, .int .i64 0, .int .i64 0, .int .i64 0, .int .i64 0])).set_ 0 v0).set_ 1 v1).frozen 2
  have z2 := fun (v0 v1 : Value) => ((((Blk.new w2 42 #[.bool false, .int .i64 0, .int .i64 0, .int .i64 0, .int .i64 0, .int .i64 0])).set_ 0 v0).set_ 1 v1).cell 2
  have f3 := fun (v0 v1 v2 : Value) => (((((Blk.new w2 42 #[.bool false, .int .i64 0, .int .i64 0, .int .i64 0, .int .i64 0, .int .i64 0])).set_ 0 v0).set_ 1 v1).set_ 2 v2).frozen 3
  have z3 := fun (v0 v1 v2 : Value) => (((((Blk.new w2 42 #[.bool false, .int .i64 0, .int .i64 0, .int .i64 0, .int .i64 0, .int .i64 0])).set_ 0 v0).set_ 1 v1).set_ 2 v2).cell 3
  have f4 := fun (v0 v1 v2 v3 : Value) => ((((((Blk.new w2 42 #[.bool false, .int .i64 0, .int .i64 0, .int .i64 0, .int .i64 0, .int .i64 0])).set_ 0 v0).set_ 1 v1).set_ 2 v2).set_ 3 v3).frozen 4
  have z4 := fun (v0 v1 v2 v3 : Value) => ((((((Blk.new w2 42 #[.bool false, .int .i64 0, .int .i64 0, .int .i64 0, .int .i64 0, .int .i64 0])).set_ 0 v0).set_ 1 v1).set_ 2 v2).set_ 3 v3).cell 4
  have f5 := fun (v0 v1 v2 v3 v4 : Value) => (((((((Blk.new w2 42 #[.bool false, .int .i64 0, .int .i64 0, .int .i64 0, .int .i64 0, .int .i64 0])).set_ 0 v0).set_ 1 v1).set_ 2 v2).set_ 3 v3).set_ 4 v4).frozen 5
  have z5 := fun (v0 v1 v2 v3 v4 : Value) => (((((((Blk.new w2 42 #[.bool false, .int .i64 0, .int .i64 0, .int .i64 0, .int .i64 0, .int .i64 0])).set_ 0 v0).set_ 1 v1).set_ 2 v2).set_ 3 v3).set_ 4 v4).cell 5
  go_upto_region 2 with (fail)
  clear f0 z0 f1 z1 f2 z2 f3 z3 f4 z4 f5 z5
  obtain ⟨P6, hP6⟩ : ∃ N, w2.heap.size = N := ⟨_, rfl⟩
  rw [hP6]
  refine code_at (fun w3 hw => ?_)
  have hk : Keeps Nob w2 w3 := by rw [hw]; exact Keeps.alloc _ _ _
  have HB6 : Hid (Blk w3 P6 42 #[.bool rs, .int .i64 rn, .int .i64 re, .int .i64 rl, .int .i64 rns, .int .i64 rents]) := by show Blk _ _ _ _; rw [hw, ← hP6]; exact Blk.new _ _ _
  have K2 := Lib.hid hk
  replace HB := Lib.hid (HB.out.keeps hk (fun h => h))
  clear hk hw hP6
  rcases rs with _ | _
  · have HF : Hid (res = false) := by have h := HCM.out; rw [if_pos rfl] at h; exact Lib.hid h
    clear HL HLD HLM HLL HR HSM HY HCM
    have b0 := HB6.out.cell 0
    go_wp2
    go_quiet (fail)
    go_wp2
    go_ret
    exact ⟨by rw [HF.out]; rfl, (K.out.trans K2.out (fun _ _ h => h)).drewN' _⟩
  have HRS : Hid (res = packM A a3 a2 ls) := by have h := HCM.out; rw [if_neg (by decide)] at h; exact Lib.hid h
  clear HCM
  obtain ⟨ch, _, hpos, hnb, _, hlsn, _⟩ := levels_facts HR.out rfl hbd
  obtain ⟨s0, c1, r1, hls, hroot, hhd⟩ := levels_head HR.out rfl
  obtain ⟨lv0, hT⟩ := levelsM_ok HR.out rfl
  have HAT := Lib.hid (trs_at hT.trs)
  have HNB := Lib.hid hnb
  have HLS := Lib.hid hls
  rw [← HLL.out] at hlsn hpos
  clear hT hnb hls HR
  obtain ⟨hd1, _, hf⟩ := HL.out.at_
  rcases hf with ⟨_, hd0⟩ | ⟨gL, oL, cur, rfl, hgL, hbL, _, hxL⟩
  · exact absurd hd1 (by omega)
  have HCU : Hid (∀ (j : Nat) x, (ldCells lds)[j]? = some x → w2.cell? ⟨gL, oL + j, none⟩ = some x) := fun j x hx => by rw [hbL.cell]; exact hxL j x hx
  clear hd1 hgL hbL hxL HL
  obtain ⟨d0, hd0⟩ : ∃ d, lds[0]? = some d := ⟨_, List.getElem?_eq_getElem hpos⟩
  have hdc0 : d0.c = c1 := by
    have h : ls[0]? = some d0.c := by rw [← HLM.out, List.getElem?_map, hd0]; rfl
    rw [HLS.out] at h
    simpa using h.symm
  obtain ⟨⟨hI0, _⟩, _⟩ := HLD.out d0 (List.mem_of_getElem? hd0)
  obtain ⟨CA0, cc0, eA0, _, _⟩ := hI0.form
  rw [List.length_map, hdc0] at eA0
  have c0 : w3.cell? ⟨gL, oL, none⟩ = some (.slice CA0 c1.length cc0) := by have h := K2.out.cell (HCU.out _ _ (ldCells_at hd0).1) (fun h => h); rw [eA0, Nat.zero_mul, Nat.add_zero] at h; exact h
  obtain ⟨i0, g, o, cL, hid0, hi0, _, hL, X1, k1, X3, k3, X4, k4, X5, k5, _, _, _, _, _, n5, _⟩ := DocW.mono_ HY.out hroot
  have q1 : w3.cell? ⟨q, 1, none⟩ = some (.slice (some ⟨g, o, none⟩) A.sl.length cL) := by have h := K2.out.cell (HY.out.blk.cell 1) (fun h => h); rw [hL] at h; exact h
  have q2 : w3.cell? ⟨q, 2, none⟩ = some (.int .i64 A.root) := K2.out.cell (HY.out.blk.cell 2) (fun h => h)
  replace n5 := K2.out.cell n5 (fun h => h)
  have hwr0 : IntKind.i64.wrap (A.root - 1) = (i0 : Int) := by rw [IntKind.wrap_i64]; omega
  have b0 := HB6.out.cell 0
  clear hd0 hdc0 hI0 eA0 hid0 hL hroot HY HB6
  by_cases h1 : (c1.length : Int) = 1
  rotate_left
  · have b1 : ((c1.length : Int) != 1) = true := by simp only [bne_iff_ne, ne_eq]; exact h1
    have HF : Hid (res = false) := by
      have hne : c1.length ≠ 1 := by omega
      have h : packM A a3 a2 (c1 :: r1) = false := by show (if c1.length ≠ 1 then false else _) = false; rw [if_pos hne]
      rw [HRS.out, HLS.out]
      exact Lib.hid h
    clear hhd q1 q2 n5 hwr0
    go_wp2
    go_quiet (fail)
    go_wp2
    go_ret
    exact ⟨by rw [HF.out]; rfl, (K.out.trans K2.out (fun _ _ h => h)).drewN' _⟩
  have b1 : ((c1.length : Int) != 1) = false := by simp [h1]
  have HPK : Hid (packM A a3 a2 (c1 :: r1) = if r1 ≠ [] ∧ (opNd A (c1.headD (0, [])).1).kids.length < 2 then false else packLs A a3 a2 (c1 :: r1)) := by
    show (if c1.length ≠ 1 then false else _) = _
    rw [if_neg (by omega)]
  by_cases hm : (1 : Int) < (lds.length : Int)
  · have hr1 : r1 ≠ [] := by
      intro e
      have h := HLL.out
      rw [HLS.out, e] at h
      simp at h; omega
    by_cases hk2 : (s0.nd.kids.length : Int) < 2
    · have HF : Hid (res = false) := by
        rw [HRS.out, HLS.out, HPK.out, hhd, if_pos ⟨hr1, by omega⟩]; exact Lib.hid rfl
      clear HPK hhd hr1
      go_wp2
      go_quiet (fail)
      go_wp2
      go_ret
      exact ⟨by rw [HF.out]; rfl, (K.out.trans K2.out (fun _ _ h => h)).drewN' _⟩
    have HP1 : Hid (res = packLs A a3 a2 ls) := by
      rw [HRS.out, HLS.out, HPK.out, hhd, if_neg (fun h => absurd h.2 (by omega))]; exact Lib.hid rfl
    clear HPK hhd hr1
    go_wp2
    go_quiet (fail)
    go_wp2
    clear q1 q2 n5 hwr0 hk2
    clear c0 b0 b1 h1 hm
    go_loopw [7] (fun iv wr => ∃ k : Nat, k ≤ lds.length ∧ iv = .int .i64 k ∧ packLs A a3 a2 (ls.drop k) = res ∧ Blk wr P3 49 #[.int .i64 a0, .int .i64 a1, .int .i64 a2, .int .i64 a3, .int .i64 a4] ∧ Keeps Nob w2 wr) (fun iv _ => lds.length - (intOf iv).toNat)
    case atStart => exact ⟨0, Nat.zero_le _, rfl, by rw [List.drop_zero]; exact HP1.out.symm, HB.out.drewN _, K2.out.drewN' _⟩
    clear HB K2
    obtain ⟨k, hk, rfl, hres, hb, hk2⟩ := hrel
    have HRES := Lib.hid hres
    have HB := Lib.hid hb
    have K2 := Lib.hid hk2
    clear hres hb hk2
    rcases Nat.lt_or_ge k lds.length with hltk | hltk
    rotate_left
    · obtain rfl : k = lds.length := by omega
      have HPT : Hid (res = true) := by have h := HRES.out; rw [List.drop_of_length_le (by rw [← HLL.out]; omega)] at h; exact Lib.hid h.symm
      clear HRES hk hltk
      go_wp2
      go_ret
      exact ⟨by rw [HPT.out]; rfl, K.out.trans K2.out (fun _ _ h => h)⟩
    obtain ⟨d, hd⟩ : ∃ d, lds[k]? = some d := ⟨_, List.getElem?_eq_getElem hltk⟩
    have HLC : Hid (ls[k]? = some d.c) := by rw [← HLM.out, List.getElem?_map, hd]; exact Lib.hid rfl
    obtain ⟨⟨hI, _⟩, _⟩ := HLD.out d (List.mem_of_getElem? hd)
    obtain ⟨CA, cc, eA, ha1, ha2⟩ := hI.form
    rw [List.length_map] at eA
    have Hs1 : Hid (w2.cell? ⟨gL, oL + k * 2, none⟩ = some (.slice CA d.c.length cc)) := by have h := HCU.out _ _ (ldCells_at hd).1; rw [eA] at h; exact Lib.hid h
    rw [eA] at hI
    have HI := Lib.hid hI
    have hmx : d.c.length ≤ 65536 := Nat.le_trans (nodesOf_mem (List.mem_of_getElem? HLC.out)) HNB.out
    have hkP : 0 ≤ (k : Int) ∧ (k : Int) < (lds.length : Int) := by omega
    have HKB : Hid (∀ e ∈ d.c, (opNd A e.1).kids.length ≤ 25000000000000) := Lib.hid (fun e he => by
      obtain ⟨s2, g1⟩ := HAT.out _ (List.mem_of_getElem? HLC.out) e he
      rw [opNd_get g1]
      have h := (HSM.out s2 (by obtain ⟨_, _, h2, _⟩ := get_some g1; exact List.mem_of_getElem? h2)).2.2.2
      unfold Sm at h
      omega)
    have hw64 : IntKind.i64.wrap ((d.c.length : Int) - 1) = (d.c.length : Int) - 1 := by rw [IntKind.wrap_i64]; omega
    clear hd hI eA ha1 ha2
    go_wp2
    go_loopw [8, 9] (fun kv jv wr => ∃ j : Nat, j ≤ d.c.length ∧ jv = .int .i64 j ∧ kv = .int .i64 ((kidsOf A (d.c.take j) : Nat) : Int) ∧ lvlFrom A a3 a2 ((d.c.length : Int) - 1) 0 d.c = lvlFrom A a3 a2 ((d.c.length : Int) - 1) j (d.c.drop j) ∧ Blk wr P3 49 #[.int .i64 a0, .int .i64 a1, .int .i64 a2, .int .i64 a3, .int .i64 a4] ∧ Keeps Nob w2 wr) (fun _ jv _ => d.c.length - (intOf jv).toNat)
    case atStart => exact ⟨0, Nat.zero_le _, rfl, rfl, by rw [List.drop_zero]; rfl, HB.out, K2.out⟩
    clear HB K2
    obtain ⟨j, hj, rfl, rfl, hjl, hb, hk2⟩ := hrel
    have HJL := Lib.hid hjl
    have HB := Lib.hid hb
    have K2 := Lib.hid hk2
    clear hjl hb hk2
    have s1 := K2.out.cell Hs1.out (fun h => h)
    rcases Nat.lt_or_ge j d.c.length with hlt | hlt
    rotate_left
    · obtain rfl : j = d.c.length := by omega
      have hlv : lvlFrom A a3 a2 ((d.c.length : Int) - 1) 0 d.c = true := by
        rw [HJL.out]; exact lvlFrom_end
      rw [List.take_length]
      have HPK : Hid ((match ls[k + 1]? with
        | none => true
        | some d2 => if kidsOf A d.c ≠ d2.length then false else packLs A a3 a2 (ls.drop (k + 1))) = res) := by
        have h := HRES.out
        rw [packLs_at HLC.out, hlv, if_neg (by decide)] at h
        exact Lib.hid h
      clear hlv HJL hj hlt
      have hk64 : IntKind.i64.wrap ((k : Int) + 1) = (k : Int) + 1 := by rw [IntKind.wrap_i64]; omega
      by_cases hk1 : k + 1 < lds.length
      rotate_left
      · have hk1' : ¬ ((k : Int) + 1 < (lds.length : Int)) := by omega
        have hnx : ls[k + 1]? = none := by rw [List.getElem?_eq_none_iff, ← HLL.out]; omega
        have HPN : Hid (packLs A a3 a2 (ls.drop (k + 1)) = res) := by
          have h := HPK.out
          rw [hnx] at h
          rw [List.drop_of_length_le (by rw [← HLL.out]; omega)]
          exact Lib.hid h
        clear hnx HPK
        go_wp2
        clear s1
        go_roundw
        case rel => exact ⟨k + 1, by omega, by simp, HPN.out, HB.out, K2.out⟩
        case measure => simp [intOf]; omega
      obtain ⟨d2, hd2⟩ : ∃ d2, lds[k + 1]? = some d2 := ⟨_, List.getElem?_eq_getElem hk1⟩
      have hd2c : ls[k + 1]? = some d2.c := by rw [← HLM.out, List.getElem?_map, hd2]; rfl
      obtain ⟨⟨hI2, _⟩, _⟩ := HLD.out d2 (List.mem_of_getElem? hd2)
      obtain ⟨u2, uc2, eu2, _, _⟩ := hI2.form
      rw [List.length_map] at eu2
      have q0 : wr.cell? ⟨gL, oL + (k + 1) * 2, none⟩ = some (.slice u2 d2.c.length uc2) := by have h := K2.out.cell (HCU.out _ _ (ldCells_at hd2).1) (fun h => h); rw [eu2] at h; exact h
      have hk1' : (k : Int) + 1 < (lds.length : Int) := by omega
      have HPK2 : Hid ((if kidsOf A d.c ≠ d2.c.length then false else packLs A a3 a2 (ls.drop (k + 1))) = res) := by have h := HPK.out; rw [hd2c] at h; exact Lib.hid h
      clear hd2 hd2c hI2 eu2 HPK
      by_cases hkk : kidsOf A d.c = d2.c.length
      · have bkk : (((kidsOf A d.c : Nat) : Int) != (d2.c.length : Int)) = false := by simp [hkk]
        have HPN : Hid (packLs A a3 a2 (ls.drop (k + 1)) = res) := by have h := HPK2.out; rw [if_neg (by simp [hkk])] at h; exact Lib.hid h
        clear hkk HPK2
        go_wp2
        clear s1
        go_roundw
        case rel => exact ⟨k + 1, by omega, by simp, HPN.out, HB.out, K2.out⟩
        case measure => simp [intOf]; omega
      · have bkk : (((kidsOf A d.c : Nat) : Int) != (d2.c.length : Int)) = true := by simp only [bne_iff_ne, ne_eq]; omega
        have HPN : Hid (res = false) := by have h := HPK2.out; rw [if_pos hkk] at h; exact Lib.hid h.symm
        clear hkk HPK2
        go_wp2
        go_ret
        exact ⟨by rw [HPN.out]; rfl, K.out.trans K2.out (fun _ _ h => h)⟩
    obtain ⟨e, he⟩ : ∃ e, d.c[j]? = some e := ⟨_, List.getElem?_eq_getElem hlt⟩
    obtain ⟨s, g1⟩ := HAT.out _ (List.mem_of_getElem? HLC.out) e (List.mem_of_getElem? he)
    have HXE := Lib.hid he
    have HXN : Hid (opNd A e.1 = s.nd) := Lib.hid (opNd_get g1)
    have HKN : Hid (kidsOf A (d.c.take (j + 1)) = kidsOf A (d.c.take j) + s.nd.kids.length) := by rw [kidsOf_take HXE.out, HXN.out]; exact Lib.hid rfl
    have hadd : IntKind.i64.wrap (((kidsOf A (d.c.take j) : Nat) : Int) + (s.nd.kids.length : Int)) = ((kidsOf A (d.c.take (j + 1)) : Nat) : Int) := by
      have h1 := kidsOf_le (A := A) (n := 25000000000000) (d.c.take (j + 1)) (fun e he => HKB.out e (List.mem_of_mem_take he))
      have h2 : (d.c.take (j + 1)).length ≤ 65536 := Nat.le_trans (take_len _ _) hmx
      have h3 := Nat.mul_le_mul_left 25000000000000 h2
      have h4 := HKN.out
      rw [IntKind.wrap_i64]; omega
    obtain ⟨ca, ea, _, hc⟩ := SlR.cells HI.out (i := j) (by rw [List.length_map, List.length_map]; exact hlt)
    subst ea
    have t0 := hc j _ (by rw [List.getElem?_map, List.getElem?_map, he]; rfl)
    obtain ⟨i, g, o, cL, hid, hi, _, hL, X1, k1, X3, k3, X4, k4, X5, k5, n0, n1, n2, n3, n4, n5, hnd⟩ := DocW.mono_ H0.out g1
    have cb : w.cell? ⟨q, 1, none⟩ = some (.slice (some ⟨g, o, none⟩) A.sl.length cL) := by have h := H0.out.blk.cell 1; rw [hL] at h; exact h
    have KA := K.out.trans K2.out (fun _ _ h => h)
    have HADD := Lib.hid hadd
    unfold iV at t0
    have hwr : IntKind.i64.wrap (e.1 - 1) = (i : Int) := by rw [IntKind.wrap_i64]; omega
    have hpi : 0 ≤ (i : Int) ∧ (i : Int) < (A.sl.length : Int) := by omega
    have hpj : 0 ≤ (j : Int) ∧ (j : Int) < (d.c.length : Int) := by omega
    have HC : Hid (wr.cell? ⟨q, 1, none⟩ = some (.slice (some ⟨g, o, none⟩) A.sl.length cL) ∧ wr.cell? ⟨gL, oL + k * 2, none⟩ = some (.slice (some ca) d.c.length cc) ∧ wr.cell? (ca.add j) = some (.int .i64 e.1) ∧
      wr.cell? ⟨g, o + i * 7 + 1, none⟩ = some (.int .i64 s.nd.lvl) ∧ wr.cell? ⟨g, o + i * 7 + 2, none⟩ = some (.slice X1 s.nd.high.length k1) ∧ wr.cell? ⟨g, o + i * 7 + 3, none⟩ = some (.int .i64 s.nd.right) ∧ wr.cell? ⟨g, o + i * 7 + 4, none⟩ = some (.slice X3 s.nd.keys.length k3) ∧ wr.cell? ⟨g, o + i * 7 + 5, none⟩ = some (.slice X4 s.nd.vals.length k4) ∧ wr.cell? ⟨g, o + i * 7 + 6, none⟩ = some (.slice X5 s.nd.kids.length k5)) :=
      ⟨KA.cell cb (fun h => h), s1, K2.out.cell t0 (fun h => h), KA.cell n0 (fun h => h), KA.cell n1 (fun h => h), KA.cell n2 (fun h => h), KA.cell n3 (fun h => h), KA.cell n4 (fun h => h), KA.cell n5 (fun h => h)⟩
    clear hc t0 he g1 hid hL n0 n1 n2 n3 n4 n5 hnd cb KA hadd
    go_wp2
    clear s1
    refine wp_region_canon [0, 1, 2, 3, 4, 5, 6, 7, 8, 9, 10, 11, 12, 13, 14, 15, 16, 17] 17 (fun W => W.cell? ⟨q, 1, none⟩ = some (.slice (some ⟨g, o, none⟩) A.sl.length cL) ∧ W.cell? ⟨gL, oL + k * 2, none⟩ = some (.slice (some ca) d.c.length cc) ∧ W.cell? (ca.add j) = some (.int .i64 e.1) ∧ W.cell? ⟨g, o + i * 7 + 1, none⟩ = some (.int .i64 s.nd.lvl) ∧ W.cell? ⟨g, o + i * 7 + 2, none⟩ = some (.slice X1 s.nd.high.length k1) ∧ W.cell? ⟨g, o + i * 7 + 3, none⟩ = some (.int .i64 s.nd.right) ∧ W.cell? ⟨g, o + i * 7 + 4, none⟩ = some (.slice X3 s.nd.keys.length k3) ∧ W.cell? ⟨g, o + i * 7 + 5, none⟩ = some (.slice X4 s.nd.vals.length k4) ∧ W.cell? ⟨g, o + i * 7 + 6, none⟩ = some (.slice X5 s.nd.kids.length k5)) (by kernel_rfl) (by kernel_rfl) rfl (by kernel_rfl) (fun _ _ d _ _ h => by cases d <;> exact h) HC.out ?_
    refine canon_at (fun v0 hw => ?_)
    have hk0 : Keeps Nob wr v0 := by rw [hw]; exact Keeps.drew _ _
    have HK0 := Lib.hid hk0
    replace HB := Lib.hid (HB.out.keeps hk0 (fun h => h))
    replace K2 := Lib.hid (K2.out.trans hk0 (fun _ _ h => h))
    clear hw hk0
    iterate 16
      refine wpCanon_read (v := ?_) rfl (by kernel_rfl) (by rfl) ?_ ?_
      rotate_left
      · intro W hW
        try (obtain ⟨h1, h2, h3, h4, h5, h6, h7, h8, h9⟩ : _ ∧ _ ∧ _ ∧ _ ∧ _ ∧ _ ∧ _ ∧ _ ∧ _ := hW)
        go_simp
        try simp only [hwr, if_pos hpi, if_pos hpj, if_pos hkP, Int.toNat_natCast]
        try rfl
      simp only [Act.put, List.setIfInBounds_toArray, List.set_cons_zero, List.set_cons_succ]
    refine wpCanon_act rfl (by kernel_rfl) ?_
    go_wp2
    refine canon_at' (fun v1 hw => ?_)
    obtain ⟨N8, hN⟩ : ∃ N, v0.heap.size = N := ⟨_, rfl⟩
    rw [hN]
    have hk1 : Keeps Nob v0 v1 := by rw [hw]; exact Keeps.alloc _ _ _
    have hb8 : Blk v1 N8 35 #[.int .i64 0, .slice none 0 0, .int .i64 0, .slice none 0 0, .slice none 0 0, .slice none 0 0] := by rw [hw, ← hN]; exact Blk.new _ _ _
    have hltb := HB.out.lt
    have hne : P3 ≠ N8 := by omega
    have hle : w2.heap.size ≤ N8 := by have h1 := K2.out.size; omega
    replace HB := Lib.hid (HB.out.keeps hk1 (fun h => h))
    replace K2 := Lib.hid (K2.out.trans hk1 (fun _ _ h => h))
    have ki := HK0.out.trans hk1 (fun _ _ h => h)
    have HD := HC.out
    clear hw hk1 hltb HC HK0
    refine ⟨.inr ⟨ki.cell HD.1 (fun h => h), ki.cell HD.2.1 (fun h => h), ki.cell HD.2.2.1 (fun h => h), ki.cell HD.2.2.2.1 (fun h => h), ki.cell HD.2.2.2.2.1 (fun h => h), ki.cell HD.2.2.2.2.2.1 (fun h => h), ki.cell HD.2.2.2.2.2.2.1 (fun h => h), ki.cell HD.2.2.2.2.2.2.2.1 (fun h => h), ki.cell HD.2.2.2.2.2.2.2.2 (fun h => h)⟩, ?_⟩
    clear HD ki
    refine wpCanon_act rfl (by kernel_rfl) ?_
    have f0 := (hb8).frozen 0
    have z0 := (hb8).cell 0
    have f1 := fun (v0 : Value) => ((hb8).set_ 0 v0).frozen 1
    have z1 := fun (v0 : Value) => ((hb8).set_ 0 v0).cell 1
    have f2 := fun (v0 v1 : Value) => (((hb8).set_ 0 v0).set_ 1 v1).frozen 2
    have z2 := fun (v0 v1 : Value) => (((hb8).set_ 0 v0).set_ 1 v1).cell 2
    have f3 := fun (v0 v1 v2 : Value) => ((((hb8).set_ 0 v0).set_ 1 v1).set_ 2 v2).frozen 3
    have z3 := fun (v0 v1 v2 : Value) => ((((hb8).set_ 0 v0).set_ 1 v1).set_ 2 v2).cell 3
    have f4 := fun (v0 v1 v2 v3 : Value) => (((((hb8).set_ 0 v0).set_ 1 v1).set_ 2 v2).set_ 3 v3).frozen 4
    have z4 := fun (v0 v1 v2 v3 : Value) => (((((hb8).set_ 0 v0).set_ 1 v1).set_ 2 v2).set_ 3 v3).cell 4
    have f5 := fun (v0 v1 v2 v3 v4 : Value) => ((((((hb8).set_ 0 v0).set_ 1 v1).set_ 2 v2).set_ 3 v3).set_ 4 v4).frozen 5
    have z5 := fun (v0 v1 v2 v3 v4 : Value) => ((((((hb8).set_ 0 v0).set_ 1 v1).set_ 2 v2).set_ 3 v3).set_ 4 v4).cell 5
    go_wp2
    clear f0 z0 f1 z1 f2 z2 f3 z3 f4 z4 f5 z5
    refine canon_at' (fun v2 hw => ?_)
    have hk1 : Keeps (fun x => x = N8) v1 v2 := by rw [hw]; exact (((((Keeps.setCell _ (M := fun x => x = N8) rfl _).setCell' (fun _ => rfl) _).setCell' (fun _ => rfl) _).setCell' (fun _ => rfl) _).setCell' (fun _ => rfl) _).setCell' (fun _ => rfl) _
    have HBX : Hid (Blk v2 N8 35 #[.int .i64 s.nd.lvl, .slice X1 s.nd.high.length k1, .int .i64 s.nd.right, .slice X3 s.nd.keys.length k3, .slice X4 s.nd.vals.length k4, .slice X5 s.nd.kids.length k5]) := by rw [hw]; exact Lib.hid ((((((hb8.set_ 0 _).set_ 1 _).set_ 2 _).set_ 3 _).set_ 4 _).set_ 5 _)
    replace HB := Lib.hid (HB.out.keeps hk1 (fun h => hne h))
    replace K2 := Lib.hid (K2.out.trans hk1 (fun x hx e => by have e2 : x = N8 := e; omega))
    clear hw hk1 hb8 hN hwr hpi
    refine ⟨.inl (by rfl), ?_⟩
    refine wpCanon_nil ?_
    have s1 := K2.out.cell Hs1.out (fun h => h)
    have n0 := HBX.out.cell 0
    have n3 := HBX.out.cell 3
    have n5 := HBX.out.cell 5
    have d2 := HB.out.cell 2
    have d3 := HB.out.cell 3
    have hadd := HADD.out
    clear HADD
    by_cases hlv : s.nd.lvl = 0
    · have blv : (s.nd.lvl == 0) = true := by simp only [beq_iff_eq]; omega
      by_cases hf : a3 < (s.nd.keys.length : Int)
      · by_cases hjl : (j : Int) = ((d.c.length : Int) - 1)
        · have bjl : ((j : Int) == ((d.c.length : Int) - 1)) = true := by simp only [beq_iff_eq]; omega
          have hjl2 : ¬ (j : Int) < ((d.c.length : Int) - 1) := by omega
          as_aux_lemma =>
            have HBD : Hid (nodeBad a3 a2 s.nd j ((d.c.length : Int) - 1) = true) := by show _ = _; unfold nodeBad; simp only [blv, decide_eq_true hf, decide_eq_false (show ¬ 0 < s.nd.lvl by omega), Bool.false_and, Bool.and_true, Bool.true_or, Bool.or_false]
            go_wp2
            clear n0 n3 n5 d2 d3 s1
            go_ret
            refine ⟨?_, K.out.trans K2.out (fun _ _ h => h)⟩
            have h := HJL.out
            rw [lvlFrom_at (e := e) HXE.out, HXN.out, if_pos HBD.out] at h
            have h2 := HRES.out
            rw [packLs_at HLC.out, if_pos h] at h2
            rw [← h2]
            first | done | rfl
        · have bjl : ((j : Int) == ((d.c.length : Int) - 1)) = false := by simp only [beq_eq_false_iff_ne, ne_eq]; omega
          have hjl2 : (j : Int) < ((d.c.length : Int) - 1) := by omega
          as_aux_lemma =>
            have HBD : Hid (nodeBad a3 a2 s.nd j ((d.c.length : Int) - 1) = true) := by show _ = _; unfold nodeBad; simp only [blv, decide_eq_true hf, decide_eq_false (show ¬ 0 < s.nd.lvl by omega), Bool.false_and, Bool.and_true, Bool.true_or, Bool.or_false]
            go_wp2
            clear n0 n3 n5 d2 d3 s1
            go_ret
            refine ⟨?_, K.out.trans K2.out (fun _ _ h => h)⟩
            have h := HJL.out
            rw [lvlFrom_at (e := e) HXE.out, HXN.out, if_pos HBD.out] at h
            have h2 := HRES.out
            rw [packLs_at HLC.out, if_pos h] at h2
            rw [← h2]
            first | done | rfl
      · by_cases hjl : (j : Int) = ((d.c.length : Int) - 1)
        · have bjl : ((j : Int) == ((d.c.length : Int) - 1)) = true := by simp only [beq_iff_eq]; omega
          have hjl2 : ¬ (j : Int) < ((d.c.length : Int) - 1) := by omega
          by_cases hn0 : (s.nd.keys.length : Int) = 0
          · have bn0 : ((s.nd.keys.length : Int) == 0) = true := by simp only [beq_iff_eq]; omega
            by_cases hl0 : (1 : Int) < (d.c.length : Int)
            · have hl2 : (0 : Int) < ((d.c.length : Int) - 1) := by omega
              as_aux_lemma =>
                have HBD : Hid (nodeBad a3 a2 s.nd j ((d.c.length : Int) - 1) = true) := by show _ = _; unfold nodeBad; simp only [blv, decide_eq_false hf, decide_eq_false hjl2, decide_eq_true hn0, decide_eq_true hl2, decide_eq_false (show ¬ 0 < s.nd.lvl by omega), Bool.false_and, Bool.and_false, Bool.and_true, Bool.or_false, Bool.or_true]
                go_wp2
                clear n0 n3 n5 d2 d3 s1
                go_ret
                refine ⟨?_, K.out.trans K2.out (fun _ _ h => h)⟩
                have h := HJL.out
                rw [lvlFrom_at (e := e) HXE.out, HXN.out, if_pos HBD.out] at h
                have h2 := HRES.out
                rw [packLs_at HLC.out, if_pos h] at h2
                rw [← h2]
                first | done | rfl
            · have hl2 : ¬ (0 : Int) < ((d.c.length : Int) - 1) := by omega
              as_aux_lemma =>
                have HBD : Hid (nodeBad a3 a2 s.nd j ((d.c.length : Int) - 1) = false) := by show _ = _; unfold nodeBad; simp only [blv, decide_eq_false hf, decide_eq_false hjl2, decide_eq_true hn0, decide_eq_false hl2, decide_eq_false (show ¬ 0 < s.nd.lvl by omega), Bool.false_and, Bool.and_false, Bool.or_false]
                go_wp2
                clear n0 n3 n5 d2 d3 s1
                go_roundw
                case rel =>
                  refine ⟨j + 1, hlt, by first | (simp; done) | (simp; omega), ?_, ?_, HB.out, K2.out⟩
                  · first | (rw [HKN.out]; done) | (rw [HKN.out]; rfl) | (rw [← hki]; have h := hadd; rw [IntKind.wrap_i64] at h; unfold wrap64; rw [h])
                  · have h := HJL.out
                    rw [lvlFrom_at (e := e) HXE.out, HXN.out, if_neg (by rw [HBD.out]; decide)] at h
                    exact h
                case measure => simp [intOf]; omega
          · have bn0 : ((s.nd.keys.length : Int) == 0) = false := by simp only [beq_eq_false_iff_ne, ne_eq]; omega
            as_aux_lemma =>
              have HBD : Hid (nodeBad a3 a2 s.nd j ((d.c.length : Int) - 1) = false) := by show _ = _; unfold nodeBad; simp only [blv, decide_eq_false hf, decide_eq_false hjl2, decide_eq_false hn0, decide_eq_false (show ¬ 0 < s.nd.lvl by omega), Bool.false_and, Bool.and_false, Bool.or_false]
              go_wp2
              clear n0 n3 n5 d2 d3 s1
              go_roundw
              case rel =>
                refine ⟨j + 1, hlt, by first | (simp; done) | (simp; omega), ?_, ?_, HB.out, K2.out⟩
                · first | (rw [HKN.out]; done) | (rw [HKN.out]; rfl) | (rw [← hki]; have h := hadd; rw [IntKind.wrap_i64] at h; unfold wrap64; rw [h])
                · have h := HJL.out
                  rw [lvlFrom_at (e := e) HXE.out, HXN.out, if_neg (by rw [HBD.out]; decide)] at h
                  exact h
              case measure => simp [intOf]; omega
        · have bjl : ((j : Int) == ((d.c.length : Int) - 1)) = false := by simp only [beq_eq_false_iff_ne, ne_eq]; omega
          have hjl2 : (j : Int) < ((d.c.length : Int) - 1) := by omega
          by_cases hnf : (s.nd.keys.length : Int) < a3
          · as_aux_lemma =>
              have HBD : Hid (nodeBad a3 a2 s.nd j ((d.c.length : Int) - 1) = true) := by show _ = _; unfold nodeBad; simp only [blv, decide_eq_false hf, decide_eq_true hjl2, decide_eq_true hnf, decide_eq_false (show ¬ 0 < s.nd.lvl by omega), Bool.true_and, Bool.false_and, Bool.and_true, Bool.true_or, Bool.or_false, Bool.or_true]
              go_wp2
              clear n0 n3 n5 d2 d3 s1
              go_ret
              refine ⟨?_, K.out.trans K2.out (fun _ _ h => h)⟩
              have h := HJL.out
              rw [lvlFrom_at (e := e) HXE.out, HXN.out, if_pos HBD.out] at h
              have h2 := HRES.out
              rw [packLs_at HLC.out, if_pos h] at h2
              rw [← h2]
              first | done | rfl
          · by_cases hn0 : (s.nd.keys.length : Int) = 0
            · have bn0 : ((s.nd.keys.length : Int) == 0) = true := by simp only [beq_iff_eq]; omega
              by_cases hl0 : (1 : Int) < (d.c.length : Int)
              · have hl2 : (0 : Int) < ((d.c.length : Int) - 1) := by omega
                as_aux_lemma =>
                  have HBD : Hid (nodeBad a3 a2 s.nd j ((d.c.length : Int) - 1) = true) := by show _ = _; unfold nodeBad; simp only [blv, decide_eq_false hf, decide_eq_true hjl2, decide_eq_false hnf, decide_eq_true hn0, decide_eq_true hl2, decide_eq_false (show ¬ 0 < s.nd.lvl by omega), Bool.true_and, Bool.false_and, Bool.and_false, Bool.and_true, Bool.or_false, Bool.or_true]
                  go_wp2
                  clear n0 n3 n5 d2 d3 s1
                  go_ret
                  refine ⟨?_, K.out.trans K2.out (fun _ _ h => h)⟩
                  have h := HJL.out
                  rw [lvlFrom_at (e := e) HXE.out, HXN.out, if_pos HBD.out] at h
                  have h2 := HRES.out
                  rw [packLs_at HLC.out, if_pos h] at h2
                  rw [← h2]
                  first | done | rfl
              · exact absurd hl0 (by omega)
            · have bn0 : ((s.nd.keys.length : Int) == 0) = false := by simp only [beq_eq_false_iff_ne, ne_eq]; omega
              as_aux_lemma =>
                have HBD : Hid (nodeBad a3 a2 s.nd j ((d.c.length : Int) - 1) = false) := by show _ = _; unfold nodeBad; simp only [blv, decide_eq_false hf, decide_eq_true hjl2, decide_eq_false hnf, decide_eq_false hn0, decide_eq_false (show ¬ 0 < s.nd.lvl by omega), Bool.true_and, Bool.false_and, Bool.and_false, Bool.or_false]
                go_wp2
                clear n0 n3 n5 d2 d3 s1
                go_roundw
                case rel =>
                  refine ⟨j + 1, hlt, by first | (simp; done) | (simp; omega), ?_, ?_, HB.out, K2.out⟩
                  · first | (rw [HKN.out]; done) | (rw [HKN.out]; rfl) | (rw [← hki]; have h := hadd; rw [IntKind.wrap_i64] at h; unfold wrap64; rw [h])
                  · have h := HJL.out
                    rw [lvlFrom_at (e := e) HXE.out, HXN.out, if_neg (by rw [HBD.out]; decide)] at h
                    exact h
                case measure => simp [intOf]; omega
    · have blv : (s.nd.lvl == 0) = false := by simp only [beq_eq_false_iff_ne, ne_eq]; omega
      by_cases hlp : 0 < s.nd.lvl
      · by_cases hjl : (j : Int) = ((d.c.length : Int) - 1)
        · have bjl : ((j : Int) == ((d.c.length : Int) - 1)) = true := by simp only [beq_iff_eq]; omega
          have hjl2 : ¬ (j : Int) < ((d.c.length : Int) - 1) := by omega
          as_aux_lemma =>
            have HBD : Hid (nodeBad a3 a2 s.nd j ((d.c.length : Int) - 1) = false) := by show _ = _; unfold nodeBad; simp only [blv, decide_eq_true hlp, decide_eq_false hjl2, Bool.false_and, Bool.and_false, Bool.false_or, Bool.or_false]
            go_wp2
            clear n0 n3 n5 d2 d3 s1
            go_roundw
            case rel =>
              refine ⟨j + 1, hlt, by first | (simp; done) | (simp; omega), ?_, ?_, HB.out, K2.out⟩
              · first | (rw [HKN.out]; done) | (rw [HKN.out]; rfl) | (rw [← hki]; have h := hadd; rw [IntKind.wrap_i64] at h; unfold wrap64; rw [h])
              · have h := HJL.out
                rw [lvlFrom_at (e := e) HXE.out, HXN.out, if_neg (by rw [HBD.out]; decide)] at h
                exact h
            case measure => simp [intOf]; omega
        · have bjl : ((j : Int) == ((d.c.length : Int) - 1)) = false := by simp only [beq_eq_false_iff_ne, ne_eq]; omega
          have hjl2 : (j : Int) < ((d.c.length : Int) - 1) := by omega
          by_cases hki : (s.nd.kids.length : Int) = a2
          · have bki : ((s.nd.kids.length : Int) != a2) = false := by simp only [bne_eq_false_iff_eq]; omega
            as_aux_lemma =>
              have HBD : Hid (nodeBad a3 a2 s.nd j ((d.c.length : Int) - 1) = false) := by show _ = _; unfold nodeBad; simp only [blv, decide_eq_true hlp, decide_eq_true hjl2, decide_eq_false (not_not_intro hki), Bool.true_and, Bool.false_and, Bool.and_false, Bool.or_false]
              go_wp2
              clear n0 n3 n5 d2 d3 s1
              go_roundw
              case rel =>
                refine ⟨j + 1, hlt, by first | (simp; done) | (simp; omega), ?_, ?_, HB.out, K2.out⟩
                · first | (rw [HKN.out]; done) | (rw [HKN.out]; rfl) | (rw [← hki]; have h := hadd; rw [IntKind.wrap_i64] at h; unfold wrap64; rw [h])
                · have h := HJL.out
                  rw [lvlFrom_at (e := e) HXE.out, HXN.out, if_neg (by rw [HBD.out]; decide)] at h
                  exact h
              case measure => simp [intOf]; omega
          · have bki : ((s.nd.kids.length : Int) != a2) = true := by simp only [bne_iff_ne, ne_eq]; omega
            as_aux_lemma =>
              have HBD : Hid (nodeBad a3 a2 s.nd j ((d.c.length : Int) - 1) = true) := by show _ = _; unfold nodeBad; simp only [blv, decide_eq_true hlp, decide_eq_true hjl2, decide_eq_true (show (s.nd.kids.length : Int) ≠ a2 from hki), Bool.true_and, Bool.false_and, Bool.and_true, Bool.or_true]
              go_wp2
              clear n0 n3 n5 d2 d3 s1
              go_ret
              refine ⟨?_, K.out.trans K2.out (fun _ _ h => h)⟩
              have h := HJL.out
              rw [lvlFrom_at (e := e) HXE.out, HXN.out, if_pos HBD.out] at h
              have h2 := HRES.out
              rw [packLs_at HLC.out, if_pos h] at h2
              rw [← h2]
              first | done | rfl
      · by_cases hjl : (j : Int) = ((d.c.length : Int) - 1)
        · have bjl : ((j : Int) == ((d.c.length : Int) - 1)) = true := by simp only [beq_iff_eq]; omega
          have hjl2 : ¬ (j : Int) < ((d.c.length : Int) - 1) := by omega
          as_aux_lemma =>
            have HBD : Hid (nodeBad a3 a2 s.nd j ((d.c.length : Int) - 1) = false) := by show _ = _; unfold nodeBad; simp only [blv, decide_eq_false hlp, Bool.false_and, Bool.or_false]
            go_wp2
            clear n0 n3 n5 d2 d3 s1
            go_roundw
            case rel =>
              refine ⟨j + 1, hlt, by first | (simp; done) | (simp; omega), ?_, ?_, HB.out, K2.out⟩
              · first | (rw [HKN.out]; done) | (rw [HKN.out]; rfl) | (rw [← hki]; have h := hadd; rw [IntKind.wrap_i64] at h; unfold wrap64; rw [h])
              · have h := HJL.out
                rw [lvlFrom_at (e := e) HXE.out, HXN.out, if_neg (by rw [HBD.out]; decide)] at h
                exact h
            case measure => simp [intOf]; omega
        · have bjl : ((j : Int) == ((d.c.length : Int) - 1)) = false := by simp only [beq_eq_false_iff_ne, ne_eq]; omega
          have hjl2 : (j : Int) < ((d.c.length : Int) - 1) := by omega
          as_aux_lemma =>
            have HBD : Hid (nodeBad a3 a2 s.nd j ((d.c.length : Int) - 1) = false) := by show _ = _; unfold nodeBad; simp only [blv, decide_eq_false hlp, Bool.false_and, Bool.or_false]
            go_wp2
            clear n0 n3 n5 d2 d3 s1
            go_roundw
            case rel =>
              refine ⟨j + 1, hlt, by first | (simp; done) | (simp; omega), ?_, ?_, HB.out, K2.out⟩
              · first | (rw [HKN.out]; done) | (rw [HKN.out]; rfl) | (rw [← hki]; have h := hadd; rw [IntKind.wrap_i64] at h; unfold wrap64; rw [h])
              · have h := HJL.out
                rw [lvlFrom_at (e := e) HXE.out, HXN.out, if_neg (by rw [HBD.out]; decide)] at h
                exact h
            case measure => simp [intOf]; omega
  have HP1 : Hid (res = packLs A a3 a2 ls) := by
    have hr1 : r1 = [] := by
      have h := HLL.out
      rw [HLS.out, List.length_cons] at h
      exact List.length_eq_zero_iff.1 (by omega)
    rw [HRS.out, HLS.out, HPK.out, if_neg (by rw [hr1]; simp)]
    exact Lib.hid rfl
  clear HPK hhd
  have hmb : decide ((1 : Int) < (lds.length : Int)) = false := decide_eq_false hm
  go_wp2
  go_quiet (fail)
  go_wp2
  clear q1 q2 n5 hwr0 hmb
  clear c0 b0 b1 h1 hm
  go_loopw [7] (fun iv wr => ∃ k : Nat, k ≤ lds.length ∧ iv = .int .i64 k ∧ packLs A a3 a2 (ls.drop k) = res ∧ Blk wr P3 49 #[.int .i64 a0, .int .i64 a1, .int .i64 a2, .int .i64 a3, .int .i64 a4] ∧ Keeps Nob w2 wr) (fun iv _ => lds.length - (intOf iv).toNat)
  case atStart => exact ⟨0, Nat.zero_le _, rfl, by rw [List.drop_zero]; exact HP1.out.symm, HB.out.drewN _, K2.out.drewN' _⟩
  clear HB K2
  obtain ⟨k, hk, rfl, hres, hb, hk2⟩ := hrel
  have HRES := Lib.hid hres
  have HB := Lib.hid hb
  have K2 := Lib.hid hk2
  clear hres hb hk2
  rcases Nat.lt_or_ge k lds.length with hltk | hltk
  rotate_left
  · obtain rfl : k = lds.length := by omega
    have HPT : Hid (res = true) := by have h := HRES.out; rw [List.drop_of_length_le (by rw [← HLL.out]; omega)] at h; exact Lib.hid h.symm
    clear HRES hk hltk
    go_wp2
    go_ret
    exact ⟨by rw [HPT.out]; rfl, K.out.trans K2.out (fun _ _ h => h)⟩
  obtain ⟨d, hd⟩ : ∃ d, lds[k]? = some d := ⟨_, List.getElem?_eq_getElem hltk⟩
  have HLC : Hid (ls[k]? = some d.c) := by rw [← HLM.out, List.getElem?_map, hd]; exact Lib.hid rfl
  obtain ⟨⟨hI, _⟩, _⟩ := HLD.out d (List.mem_of_getElem? hd)
  obtain ⟨CA, cc, eA, ha1, ha2⟩ := hI.form
  rw [List.length_map] at eA
  have Hs1 : Hid (w2.cell? ⟨gL, oL + k * 2, none⟩ = some (.slice CA d.c.length cc)) := by have h := HCU.out _ _ (ldCells_at hd).1; rw [eA] at h; exact Lib.hid h
  rw [eA] at hI
  have HI := Lib.hid hI
  have hmx : d.c.length ≤ 65536 := Nat.le_trans (nodesOf_mem (List.mem_of_getElem? HLC.out)) HNB.out
  have hkP : 0 ≤ (k : Int) ∧ (k : Int) < (lds.length : Int) := by omega
  have HKB : Hid (∀ e ∈ d.c, (opNd A e.1).kids.length ≤ 25000000000000) := Lib.hid (fun e he => by
    obtain ⟨s2, g1⟩ := HAT.out _ (List.mem_of_getElem? HLC.out) e he
    rw [opNd_get g1]
    have h := (HSM.out s2 (by obtain ⟨_, _, h2, _⟩ := get_some g1; exact List.mem_of_getElem? h2)).2.2.2
    unfold Sm at h
    omega)
  have hw64 : IntKind.i64.wrap ((d.c.length : Int) - 1) = (d.c.length : Int) - 1 := by rw [IntKind.wrap_i64]; omega
  clear hd hI eA ha1 ha2
  go_wp2
  go_loopw [8, 9] (fun kv jv wr => ∃ j : Nat, j ≤ d.c.length ∧ jv = .int .i64 j ∧ kv = .int .i64 ((kidsOf A (d.c.take j) : Nat) : Int) ∧ lvlFrom A a3 a2 ((d.c.length : Int) - 1) 0 d.c = lvlFrom A a3 a2 ((d.c.length : Int) - 1) j (d.c.drop j) ∧ Blk wr P3 49 #[.int .i64 a0, .int .i64 a1, .int .i64 a2, .int .i64 a3, .int .i64 a4] ∧ Keeps Nob w2 wr) (fun _ jv _ => d.c.length - (intOf jv).toNat)
  case atStart => exact ⟨0, Nat.zero_le _, rfl, rfl, by rw [List.drop_zero]; rfl, HB.out, K2.out⟩
  clear HB K2
  obtain ⟨j, hj, rfl, rfl, hjl, hb, hk2⟩ := hrel
  have HJL := Lib.hid hjl
  have HB := Lib.hid hb
  have K2 := Lib.hid hk2
  clear hjl hb hk2
  have s1 := K2.out.cell Hs1.out (fun h => h)
  rcases Nat.lt_or_ge j d.c.length with hlt | hlt
  rotate_left
  · obtain rfl : j = d.c.length := by omega
    have hlv : lvlFrom A a3 a2 ((d.c.length : Int) - 1) 0 d.c = true := by
      rw [HJL.out]; exact lvlFrom_end
    rw [List.take_length]
    have HPK : Hid ((match ls[k + 1]? with
      | none => true
      | some d2 => if kidsOf A d.c ≠ d2.length then false else packLs A a3 a2 (ls.drop (k + 1))) = res) := by
      have h := HRES.out
      rw [packLs_at HLC.out, hlv, if_neg (by decide)] at h
      exact Lib.hid h
    clear hlv HJL hj hlt
    have hk64 : IntKind.i64.wrap ((k : Int) + 1) = (k : Int) + 1 := by rw [IntKind.wrap_i64]; omega
    by_cases hk1 : k + 1 < lds.length
    rotate_left
    · have hk1' : ¬ ((k : Int) + 1 < (lds.length : Int)) := by omega
      have hnx : ls[k + 1]? = none := by rw [List.getElem?_eq_none_iff, ← HLL.out]; omega
      have HPN : Hid (packLs A a3 a2 (ls.drop (k + 1)) = res) := by
        have h := HPK.out
        rw [hnx] at h
        rw [List.drop_of_length_le (by rw [← HLL.out]; omega)]
        exact Lib.hid h
      clear hnx HPK
      go_wp2
      clear s1
      go_roundw
      case rel => exact ⟨k + 1, by omega, by simp, HPN.out, HB.out, K2.out⟩
      case measure => simp [intOf]; omega
    obtain ⟨d2, hd2⟩ : ∃ d2, lds[k + 1]? = some d2 := ⟨_, List.getElem?_eq_getElem hk1⟩
    have hd2c : ls[k + 1]? = some d2.c := by rw [← HLM.out, List.getElem?_map, hd2]; rfl
    obtain ⟨⟨hI2, _⟩, _⟩ := HLD.out d2 (List.mem_of_getElem? hd2)
    obtain ⟨u2, uc2, eu2, _, _⟩ := hI2.form
    rw [List.length_map] at eu2
    have q0 : wr.cell? ⟨gL, oL + (k + 1) * 2, none⟩ = some (.slice u2 d2.c.length uc2) := by have h := K2.out.cell (HCU.out _ _ (ldCells_at hd2).1) (fun h => h); rw [eu2] at h; exact h
    have hk1' : (k : Int) + 1 < (lds.length : Int) := by omega
    have HPK2 : Hid ((if kidsOf A d.c ≠ d2.c.length then false else packLs A a3 a2 (ls.drop (k + 1))) = res) := by have h := HPK.out; rw [hd2c] at h; exact Lib.hid h
    clear hd2 hd2c hI2 eu2 HPK
    by_cases hkk : kidsOf A d.c = d2.c.length
    · have bkk : (((kidsOf A d.c : Nat) : Int) != (d2.c.length : Int)) = false := by simp [hkk]
      have HPN : Hid (packLs A a3 a2 (ls.drop (k + 1)) = res) := by have h := HPK2.out; rw [if_neg (by simp [hkk])] at h; exact Lib.hid h
      clear hkk HPK2
      go_wp2
      clear s1
      go_roundw
      case rel => exact ⟨k + 1, by omega, by simp, HPN.out, HB.out, K2.out⟩
      case measure => simp [intOf]; omega
    · have bkk : (((kidsOf A d.c : Nat) : Int) != (d2.c.length : Int)) = true := by simp only [bne_iff_ne, ne_eq]; omega
      have HPN : Hid (res = false) := by have h := HPK2.out; rw [if_pos hkk] at h; exact Lib.hid h.symm
      clear hkk HPK2
      go_wp2
      go_ret
      exact ⟨by rw [HPN.out]; rfl, K.out.trans K2.out (fun _ _ h => h)⟩
  obtain ⟨e, he⟩ : ∃ e, d.c[j]? = some e := ⟨_, List.getElem?_eq_getElem hlt⟩
  obtain ⟨s, g1⟩ := HAT.out _ (List.mem_of_getElem? HLC.out) e (List.mem_of_getElem? he)
  have HXE := Lib.hid he
  have HXN : Hid (opNd A e.1 = s.nd) := Lib.hid (opNd_get g1)
  have HKN : Hid (kidsOf A (d.c.take (j + 1)) = kidsOf A (d.c.take j) + s.nd.kids.length) := by rw [kidsOf_take HXE.out, HXN.out]; exact Lib.hid rfl
  have hadd : IntKind.i64.wrap (((kidsOf A (d.c.take j) : Nat) : Int) + (s.nd.kids.length : Int)) = ((kidsOf A (d.c.take (j + 1)) : Nat) : Int) := by
    have h1 := kidsOf_le (A := A) (n := 25000000000000) (d.c.take (j + 1)) (fun e he => HKB.out e (List.mem_of_mem_take he))
    have h2 : (d.c.take (j + 1)).length ≤ 65536 := Nat.le_trans (take_len _ _) hmx
    have h3 := Nat.mul_le_mul_left 25000000000000 h2
    have h4 := HKN.out
    rw [IntKind.wrap_i64]; omega
  obtain ⟨ca, ea, _, hc⟩ := SlR.cells HI.out (i := j) (by rw [List.length_map, List.length_map]; exact hlt)
  subst ea
  have t0 := hc j _ (by rw [List.getElem?_map, List.getElem?_map, he]; rfl)
  obtain ⟨i, g, o, cL, hid, hi, _, hL, X1, k1, X3, k3, X4, k4, X5, k5, n0, n1, n2, n3, n4, n5, hnd⟩ := DocW.mono_ H0.out g1
  have cb : w.cell? ⟨q, 1, none⟩ = some (.slice (some ⟨g, o, none⟩) A.sl.length cL) := by have h := H0.out.blk.cell 1; rw [hL] at h; exact h
  have KA := K.out.trans K2.out (fun _ _ h => h)
  have HADD := Lib.hid hadd
  unfold iV at t0
  have hwr : IntKind.i64.wrap (e.1 - 1) = (i : Int) := by rw [IntKind.wrap_i64]; omega
  have hpi : 0 ≤ (i : Int) ∧ (i : Int) < (A.sl.length : Int) := by omega
  have hpj : 0 ≤ (j : Int) ∧ (j : Int) < (d.c.length : Int) := by omega
  have HC : Hid (wr.cell? ⟨q, 1, none⟩ = some (.slice (some ⟨g, o, none⟩) A.sl.length cL) ∧ wr.cell? ⟨gL, oL + k * 2, none⟩ = some (.slice (some ca) d.c.length cc) ∧ wr.cell? (ca.add j) = some (.int .i64 e.1) ∧
    wr.cell? ⟨g, o + i * 7 + 1, none⟩ = some (.int .i64 s.nd.lvl) ∧ wr.cell? ⟨g, o + i * 7 + 2, none⟩ = some (.slice X1 s.nd.high.length k1) ∧ wr.cell? ⟨g, o + i * 7 + 3, none⟩ = some (.int .i64 s.nd.right) ∧ wr.cell? ⟨g, o + i * 7 + 4, none⟩ = some (.slice X3 s.nd.keys.length k3) ∧ wr.cell? ⟨g, o + i * 7 + 5, none⟩ = some (.slice X4 s.nd.vals.length k4) ∧ wr.cell? ⟨g, o + i * 7 + 6, none⟩ = some (.slice X5 s.nd.kids.length k5)) :=
    ⟨KA.cell cb (fun h => h), s1, K2.out.cell t0 (fun h => h), KA.cell n0 (fun h => h), KA.cell n1 (fun h => h), KA.cell n2 (fun h => h), KA.cell n3 (fun h => h), KA.cell n4 (fun h => h), KA.cell n5 (fun h => h)⟩
  clear hc t0 he g1 hid hL n0 n1 n2 n3 n4 n5 hnd cb KA hadd
  go_wp2
  clear s1
  refine wp_region_canon [0, 1, 2, 3, 4, 5, 6, 7, 8, 9, 10, 11, 12, 13, 14, 15, 16, 17] 17 (fun W => W.cell? ⟨q, 1, none⟩ = some (.slice (some ⟨g, o, none⟩) A.sl.length cL) ∧ W.cell? ⟨gL, oL + k * 2, none⟩ = some (.slice (some ca) d.c.length cc) ∧ W.cell? (ca.add j) = some (.int .i64 e.1) ∧ W.cell? ⟨g, o + i * 7 + 1, none⟩ = some (.int .i64 s.nd.lvl) ∧ W.cell? ⟨g, o + i * 7 + 2, none⟩ = some (.slice X1 s.nd.high.length k1) ∧ W.cell? ⟨g, o + i * 7 + 3, none⟩ = some (.int .i64 s.nd.right) ∧ W.cell? ⟨g, o + i * 7 + 4, none⟩ = some (.slice X3 s.nd.keys.length k3) ∧ W.cell? ⟨g, o + i * 7 + 5, none⟩ = some (.slice X4 s.nd.vals.length k4) ∧ W.cell? ⟨g, o + i * 7 + 6, none⟩ = some (.slice X5 s.nd.kids.length k5)) (by kernel_rfl) (by kernel_rfl) rfl (by kernel_rfl) (fun _ _ d _ _ h => by cases d <;> exact h) HC.out ?_
  refine canon_at (fun v0 hw => ?_)
  have hk0 : Keeps Nob wr v0 := by rw [hw]; exact Keeps.drew _ _
  have HK0 := Lib.hid hk0
  replace HB := Lib.hid (HB.out.keeps hk0 (fun h => h))
  replace K2 := Lib.hid (K2.out.trans hk0 (fun _ _ h => h))
  clear hw hk0
  iterate 16
    refine wpCanon_read (v := ?_) rfl (by kernel_rfl) (by rfl) ?_ ?_
    rotate_left
    · intro W hW
      try (obtain ⟨h1, h2, h3, h4, h5, h6, h7, h8, h9⟩ : _ ∧ _ ∧ _ ∧ _ ∧ _ ∧ _ ∧ _ ∧ _ ∧ _ := hW)
      go_simp
      try simp only [hwr, if_pos hpi, if_pos hpj, if_pos hkP, Int.toNat_natCast]
      try rfl
    simp only [Act.put, List.setIfInBounds_toArray, List.set_cons_zero, List.set_cons_succ]
  refine wpCanon_act rfl (by kernel_rfl) ?_
  go_wp2
  refine canon_at' (fun v1 hw => ?_)
  obtain ⟨N8, hN⟩ : ∃ N, v0.heap.size = N := ⟨_, rfl⟩
  rw [hN]
  have hk1 : Keeps Nob v0 v1 := by rw [hw]; exact Keeps.alloc _ _ _
  have hb8 : Blk v1 N8 35 #[.int .i64 0, .slice none 0 0, .int .i64 0, .slice none 0 0, .slice none 0 0, .slice none 0 0] := by rw [hw, ← hN]; exact Blk.new _ _ _
  have hltb := HB.out.lt
  have hne : P3 ≠ N8 := by omega
  have hle : w2.heap.size ≤ N8 := by have h1 := K2.out.size; omega
  replace HB := Lib.hid (HB.out.keeps hk1 (fun h => h))
  replace K2 := Lib.hid (K2.out.trans hk1 (fun _ _ h => h))
  have ki := HK0.out.trans hk1 (fun _ _ h => h)
  have HD := HC.out
  clear hw hk1 hltb HC HK0
  refine ⟨.inr ⟨ki.cell HD.1 (fun h => h), ki.cell HD.2.1 (fun h => h), ki.cell HD.2.2.1 (fun h => h), ki.cell HD.2.2.2.1 (fun h => h), ki.cell HD.2.2.2.2.1 (fun h => h), ki.cell HD.2.2.2.2.2.1 (fun h => h), ki.cell HD.2.2.2.2.2.2.1 (fun h => h), ki.cell HD.2.2.2.2.2.2.2.1 (fun h => h), ki.cell HD.2.2.2.2.2.2.2.2 (fun h => h)⟩, ?_⟩
  clear HD ki
  refine wpCanon_act rfl (by kernel_rfl) ?_
  have f0 := (hb8).frozen 0
  have z0 := (hb8).cell 0
  have f1 := fun (v0 : Value) => ((hb8).set_ 0 v0).frozen 1
  have z1 := fun (v0 : Value) => ((hb8).set_ 0 v0).cell 1
  have f2 := fun (v0 v1 : Value) => (((hb8).set_ 0 v0).set_ 1 v1).frozen 2
  have z2 := fun (v0 v1 : Value) => (((hb8).set_ 0 v0).set_ 1 v1).cell 2
  have f3 := fun (v0 v1 v2 : Value) => ((((hb8).set_ 0 v0).set_ 1 v1).set_ 2 v2).frozen 3
  have z3 := fun (v0 v1 v2 : Value) => ((((hb8).set_ 0 v0).set_ 1 v1).set_ 2 v2).cell 3
  have f4 := fun (v0 v1 v2 v3 : Value) => (((((hb8).set_ 0 v0).set_ 1 v1).set_ 2 v2).set_ 3 v3).frozen 4
  have z4 := fun (v0 v1 v2 v3 : Value) => (((((hb8).set_ 0 v0).set_ 1 v1).set_ 2 v2).set_ 3 v3).cell 4
  have f5 := fun (v0 v1 v2 v3 v4 : Value) => ((((((hb8).set_ 0 v0).set_ 1 v1).set_ 2 v2).set_ 3 v3).set_ 4 v4).frozen 5
  have z5 := fun (v0 v1 v2 v3 v4 : Value) => ((((((hb8).set_ 0 v0).set_ 1 v1).set_ 2 v2).set_ 3 v3).set_ 4 v4).cell 5
  go_wp2
  clear f0 z0 f1 z1 f2 z2 f3 z3 f4 z4 f5 z5
  refine canon_at' (fun v2 hw => ?_)
  have hk1 : Keeps (fun x => x = N8) v1 v2 := by rw [hw]; exact (((((Keeps.setCell _ (M := fun x => x = N8) rfl _).setCell' (fun _ => rfl) _).setCell' (fun _ => rfl) _).setCell' (fun _ => rfl) _).setCell' (fun _ => rfl) _).setCell' (fun _ => rfl) _
  have HBX : Hid (Blk v2 N8 35 #[.int .i64 s.nd.lvl, .slice X1 s.nd.high.length k1, .int .i64 s.nd.right, .slice X3 s.nd.keys.length k3, .slice X4 s.nd.vals.length k4, .slice X5 s.nd.kids.length k5]) := by rw [hw]; exact Lib.hid ((((((hb8.set_ 0 _).set_ 1 _).set_ 2 _).set_ 3 _).set_ 4 _).set_ 5 _)
  replace HB := Lib.hid (HB.out.keeps hk1 (fun h => hne h))
  replace K2 := Lib.hid (K2.out.trans hk1 (fun x hx e => by have e2 : x = N8 := e; omega))
  clear hw hk1 hb8 hN hwr hpi
  refine ⟨.inl (by rfl), ?_⟩
  refine wpCanon_nil ?_
  have s1 := K2.out.cell Hs1.out (fun h => h)
  have n0 := HBX.out.cell 0
  have n3 := HBX.out.cell 3
  have n5 := HBX.out.cell 5
  have d2 := HB.out.cell 2
  have d3 := HB.out.cell 3
  have hadd := HADD.out
  clear HADD
  by_cases hlv : s.nd.lvl = 0
  · have blv : (s.nd.lvl == 0) = true := by simp only [beq_iff_eq]; omega
    by_cases hf : a3 < (s.nd.keys.length : Int)
    · by_cases hjl : (j : Int) = ((d.c.length : Int) - 1)
      · have bjl : ((j : Int) == ((d.c.length : Int) - 1)) = true := by simp only [beq_iff_eq]; omega
        have hjl2 : ¬ (j : Int) < ((d.c.length : Int) - 1) := by omega
        as_aux_lemma =>
          have HBD : Hid (nodeBad a3 a2 s.nd j ((d.c.length : Int) - 1) = true) := by show _ = _; unfold nodeBad; simp only [blv, decide_eq_true hf, decide_eq_false (show ¬ 0 < s.nd.lvl by omega), Bool.false_and, Bool.and_true, Bool.true_or, Bool.or_false]
          go_wp2
          clear n0 n3 n5 d2 d3 s1
          go_ret
          refine ⟨?_, K.out.trans K2.out (fun _ _ h => h)⟩
          have h := HJL.out
          rw [lvlFrom_at (e := e) HXE.out, HXN.out, if_pos HBD.out] at h
          have h2 := HRES.out
          rw [packLs_at HLC.out, if_pos h] at h2
          rw [← h2]
          first | done | rfl
      · have bjl : ((j : Int) == ((d.c.length : Int) - 1)) = false := by simp only [beq_eq_false_iff_ne, ne_eq]; omega
        have hjl2 : (j : Int) < ((d.c.length : Int) - 1) := by omega
        as_aux_lemma =>
          have HBD : Hid (nodeBad a3 a2 s.nd j ((d.c.length : Int) - 1) = true) := by show _ = _; unfold nodeBad; simp only [blv, decide_eq_true hf, decide_eq_false (show ¬ 0 < s.nd.lvl by omega), Bool.false_and, Bool.and_true, Bool.true_or, Bool.or_false]
          go_wp2
          clear n0 n3 n5 d2 d3 s1
          go_ret
          refine ⟨?_, K.out.trans K2.out (fun _ _ h => h)⟩
          have h := HJL.out
          rw [lvlFrom_at (e := e) HXE.out, HXN.out, if_pos HBD.out] at h
          have h2 := HRES.out
          rw [packLs_at HLC.out, if_pos h] at h2
          rw [← h2]
          first | done | rfl
    · by_cases hjl : (j : Int) = ((d.c.length : Int) - 1)
      · have bjl : ((j : Int) == ((d.c.length : Int) - 1)) = true := by simp only [beq_iff_eq]; omega
        have hjl2 : ¬ (j : Int) < ((d.c.length : Int) - 1) := by omega
        by_cases hn0 : (s.nd.keys.length : Int) = 0
        · have bn0 : ((s.nd.keys.length : Int) == 0) = true := by simp only [beq_iff_eq]; omega
          by_cases hl0 : (1 : Int) < (d.c.length : Int)
          · have hl2 : (0 : Int) < ((d.c.length : Int) - 1) := by omega
            as_aux_lemma =>
              have HBD : Hid (nodeBad a3 a2 s.nd j ((d.c.length : Int) - 1) = true) := by show _ = _; unfold nodeBad; simp only [blv, decide_eq_false hf, decide_eq_false hjl2, decide_eq_true hn0, decide_eq_true hl2, decide_eq_false (show ¬ 0 < s.nd.lvl by omega), Bool.false_and, Bool.and_false, Bool.and_true, Bool.or_false, Bool.or_true]
              go_wp2
              clear n0 n3 n5 d2 d3 s1
              go_ret
              refine ⟨?_, K.out.trans K2.out (fun _ _ h => h)⟩
              have h := HJL.out
              rw [lvlFrom_at (e := e) HXE.out, HXN.out, if_pos HBD.out] at h
              have h2 := HRES.out
              rw [packLs_at HLC.out, if_pos h] at h2
              rw [← h2]
              first | done | rfl
          · have hl2 : ¬ (0 : Int) < ((d.c.length : Int) - 1) := by omega
            as_aux_lemma =>
              have HBD : Hid (nodeBad a3 a2 s.nd j ((d.c.length : Int) - 1) = false) := by show _ = _; unfold nodeBad; simp only [blv, decide_eq_false hf, decide_eq_false hjl2, decide_eq_true hn0, decide_eq_false hl2, decide_eq_false (show ¬ 0 < s.nd.lvl by omega), Bool.false_and, Bool.and_false, Bool.or_false]
              go_wp2
              clear n0 n3 n5 d2 d3 s1
              go_roundw
              case rel =>
                refine ⟨j + 1, hlt, by first | (simp; done) | (simp; omega), ?_, ?_, HB.out, K2.out⟩
                · first | (rw [HKN.out]; done) | (rw [HKN.out]; rfl) | (rw [← hki]; have h := hadd; rw [IntKind.wrap_i64] at h; unfold wrap64; rw [h])
                · have h := HJL.out
                  rw [lvlFrom_at (e := e) HXE.out, HXN.out, if_neg (by rw [HBD.out]; decide)] at h
                  exact h
              case measure => simp [intOf]; omega
        · have bn0 : ((s.nd.keys.length : Int) == 0) = false := by simp only [beq_eq_false_iff_ne, ne_eq]; omega
          as_aux_lemma =>
            have HBD : Hid (nodeBad a3 a2 s.nd j ((d.c.length : Int) - 1) = false) := by show _ = _; unfold nodeBad; simp only [blv, decide_eq_false hf, decide_eq_false hjl2, decide_eq_false hn0, decide_eq_false (show ¬ 0 < s.nd.lvl by omega), Bool.false_and, Bool.and_false, Bool.or_false]
            go_wp2
            clear n0 n3 n5 d2 d3 s1
            go_roundw
            case rel =>
              refine ⟨j + 1, hlt, by first | (simp; done) | (simp; omega), ?_, ?_, HB.out, K2.out⟩
              · first | (rw [HKN.out]; done) | (rw [HKN.out]; rfl) | (rw [← hki]; have h := hadd; rw [IntKind.wrap_i64] at h; unfold wrap64; rw [h])
              · have h := HJL.out
                rw [lvlFrom_at (e := e) HXE.out, HXN.out, if_neg (by rw [HBD.out]; decide)] at h
                exact h
            case measure => simp [intOf]; omega
      · have bjl : ((j : Int) == ((d.c.length : Int) - 1)) = false := by simp only [beq_eq_false_iff_ne, ne_eq]; omega
        have hjl2 : (j : Int) < ((d.c.length : Int) - 1) := by omega
        by_cases hnf : (s.nd.keys.length : Int) < a3
        · as_aux_lemma =>
            have HBD : Hid (nodeBad a3 a2 s.nd j ((d.c.length : Int) - 1) = true) := by show _ = _; unfold nodeBad; simp only [blv, decide_eq_false hf, decide_eq_true hjl2, decide_eq_true hnf, decide_eq_false (show ¬ 0 < s.nd.lvl by omega), Bool.true_and, Bool.false_and, Bool.and_true, Bool.true_or, Bool.or_false, Bool.or_true]
            go_wp2
            clear n0 n3 n5 d2 d3 s1
            go_ret
            refine ⟨?_, K.out.trans K2.out (fun _ _ h => h)⟩
            have h := HJL.out
            rw [lvlFrom_at (e := e) HXE.out, HXN.out, if_pos HBD.out] at h
            have h2 := HRES.out
            rw [packLs_at HLC.out, if_pos h] at h2
            rw [← h2]
            first | done | rfl
        · by_cases hn0 : (s.nd.keys.length : Int) = 0
          · have bn0 : ((s.nd.keys.length : Int) == 0) = true := by simp only [beq_iff_eq]; omega
            by_cases hl0 : (1 : Int) < (d.c.length : Int)
            · have hl2 : (0 : Int) < ((d.c.length : Int) - 1) := by omega
              as_aux_lemma =>
                have HBD : Hid (nodeBad a3 a2 s.nd j ((d.c.length : Int) - 1) = true) := by show _ = _; unfold nodeBad; simp only [blv, decide_eq_false hf, decide_eq_true hjl2, decide_eq_false hnf, decide_eq_true hn0, decide_eq_true hl2, decide_eq_false (show ¬ 0 < s.nd.lvl by omega), Bool.true_and, Bool.false_and, Bool.and_false, Bool.and_true, Bool.or_false, Bool.or_true]
                go_wp2
                clear n0 n3 n5 d2 d3 s1
                go_ret
                refine ⟨?_, K.out.trans K2.out (fun _ _ h => h)⟩
                have h := HJL.out
                rw [lvlFrom_at (e := e) HXE.out, HXN.out, if_pos HBD.out] at h
                have h2 := HRES.out
                rw [packLs_at HLC.out, if_pos h] at h2
                rw [← h2]
                first | done | rfl
            · exact absurd hl0 (by omega)
          · have bn0 : ((s.nd.keys.length : Int) == 0) = false := by simp only [beq_eq_false_iff_ne, ne_eq]; omega
            as_aux_lemma =>
              have HBD : Hid (nodeBad a3 a2 s.nd j ((d.c.length : Int) - 1) = false) := by show _ = _; unfold nodeBad; simp only [blv, decide_eq_false hf, decide_eq_true hjl2, decide_eq_false hnf, decide_eq_false hn0, decide_eq_false (show ¬ 0 < s.nd.lvl by omega), Bool.true_and, Bool.false_and, Bool.and_false, Bool.or_false]
              go_wp2
              clear n0 n3 n5 d2 d3 s1
              go_roundw
              case rel =>
                refine ⟨j + 1, hlt, by first | (simp; done) | (simp; omega), ?_, ?_, HB.out, K2.out⟩
                · first | (rw [HKN.out]; done) | (rw [HKN.out]; rfl) | (rw [← hki]; have h := hadd; rw [IntKind.wrap_i64] at h; unfold wrap64; rw [h])
                · have h := HJL.out
                  rw [lvlFrom_at (e := e) HXE.out, HXN.out, if_neg (by rw [HBD.out]; decide)] at h
                  exact h
              case measure => simp [intOf]; omega
  · have blv : (s.nd.lvl == 0) = false := by simp only [beq_eq_false_iff_ne, ne_eq]; omega
    by_cases hlp : 0 < s.nd.lvl
    · by_cases hjl : (j : Int) = ((d.c.length : Int) - 1)
      · have bjl : ((j : Int) == ((d.c.length : Int) - 1)) = true := by simp only [beq_iff_eq]; omega
        have hjl2 : ¬ (j : Int) < ((d.c.length : Int) - 1) := by omega
        as_aux_lemma =>
          have HBD : Hid (nodeBad a3 a2 s.nd j ((d.c.length : Int) - 1) = false) := by show _ = _; unfold nodeBad; simp only [blv, decide_eq_true hlp, decide_eq_false hjl2, Bool.false_and, Bool.and_false, Bool.false_or, Bool.or_false]
          go_wp2
          clear n0 n3 n5 d2 d3 s1
          go_roundw
          case rel =>
            refine ⟨j + 1, hlt, by first | (simp; done) | (simp; omega), ?_, ?_, HB.out, K2.out⟩
            · first | (rw [HKN.out]; done) | (rw [HKN.out]; rfl) | (rw [← hki]; have h := hadd; rw [IntKind.wrap_i64] at h; unfold wrap64; rw [h])
            · have h := HJL.out
              rw [lvlFrom_at (e := e) HXE.out, HXN.out, if_neg (by rw [HBD.out]; decide)] at h
              exact h
          case measure => simp [intOf]; omega
      · have bjl : ((j : Int) == ((d.c.length : Int) - 1)) = false := by simp only [beq_eq_false_iff_ne, ne_eq]; omega
        have hjl2 : (j : Int) < ((d.c.length : Int) - 1) := by omega
        by_cases hki : (s.nd.kids.length : Int) = a2
        · have bki : ((s.nd.kids.length : Int) != a2) = false := by simp only [bne_eq_false_iff_eq]; omega
          as_aux_lemma =>
            have HBD : Hid (nodeBad a3 a2 s.nd j ((d.c.length : Int) - 1) = false) := by show _ = _; unfold nodeBad; simp only [blv, decide_eq_true hlp, decide_eq_true hjl2, decide_eq_false (not_not_intro hki), Bool.true_and, Bool.false_and, Bool.and_false, Bool.or_false]
            go_wp2
            clear n0 n3 n5 d2 d3 s1
            go_roundw
            case rel =>
              refine ⟨j + 1, hlt, by first | (simp; done) | (simp; omega), ?_, ?_, HB.out, K2.out⟩
              · first | (rw [HKN.out]; done) | (rw [HKN.out]; rfl) | (rw [← hki]; have h := hadd; rw [IntKind.wrap_i64] at h; unfold wrap64; rw [h])
              · have h := HJL.out
                rw [lvlFrom_at (e := e) HXE.out, HXN.out, if_neg (by rw [HBD.out]; decide)] at h
                exact h
            case measure => simp [intOf]; omega
        · have bki : ((s.nd.kids.length : Int) != a2) = true := by simp only [bne_iff_ne, ne_eq]; omega
          as_aux_lemma =>
            have HBD : Hid (nodeBad a3 a2 s.nd j ((d.c.length : Int) - 1) = true) := by show _ = _; unfold nodeBad; simp only [blv, decide_eq_true hlp, decide_eq_true hjl2, decide_eq_true (show (s.nd.kids.length : Int) ≠ a2 from hki), Bool.true_and, Bool.false_and, Bool.and_true, Bool.or_true]
            go_wp2
            clear n0 n3 n5 d2 d3 s1
            go_ret
            refine ⟨?_, K.out.trans K2.out (fun _ _ h => h)⟩
            have h := HJL.out
            rw [lvlFrom_at (e := e) HXE.out, HXN.out, if_pos HBD.out] at h
            have h2 := HRES.out
            rw [packLs_at HLC.out, if_pos h] at h2
            rw [← h2]
            first | done | rfl
    · by_cases hjl : (j : Int) = ((d.c.length : Int) - 1)
      · have bjl : ((j : Int) == ((d.c.length : Int) - 1)) = true := by simp only [beq_iff_eq]; omega
        have hjl2 : ¬ (j : Int) < ((d.c.length : Int) - 1) := by omega
        as_aux_lemma =>
          have HBD : Hid (nodeBad a3 a2 s.nd j ((d.c.length : Int) - 1) = false) := by show _ = _; unfold nodeBad; simp only [blv, decide_eq_false hlp, Bool.false_and, Bool.or_false]
          go_wp2
          clear n0 n3 n5 d2 d3 s1
          go_roundw
          case rel =>
            refine ⟨j + 1, hlt, by first | (simp; done) | (simp; omega), ?_, ?_, HB.out, K2.out⟩
            · first | (rw [HKN.out]; done) | (rw [HKN.out]; rfl) | (rw [← hki]; have h := hadd; rw [IntKind.wrap_i64] at h; unfold wrap64; rw [h])
            · have h := HJL.out
              rw [lvlFrom_at (e := e) HXE.out, HXN.out, if_neg (by rw [HBD.out]; decide)] at h
              exact h
          case measure => simp [intOf]; omega
      · have bjl : ((j : Int) == ((d.c.length : Int) - 1)) = false := by simp only [beq_eq_false_iff_ne, ne_eq]; omega
        have hjl2 : (j : Int) < ((d.c.length : Int) - 1) := by omega
        as_aux_lemma =>
          have HBD : Hid (nodeBad a3 a2 s.nd j ((d.c.length : Int) - 1) = false) := by show _ = _; unfold nodeBad; simp only [blv, decide_eq_false hlp, Bool.false_and, Bool.or_false]
          go_wp2
          clear n0 n3 n5 d2 d3 s1
          go_roundw
          case rel =>
            refine ⟨j + 1, hlt, by first | (simp; done) | (simp; omega), ?_, ?_, HB.out, K2.out⟩
            · first | (rw [HKN.out]; done) | (rw [HKN.out]; rfl) | (rw [← hki]; have h := hadd; rw [IntKind.wrap_i64] at h; unfold wrap64; rw [h])
            · have h := HJL.out
              rw [lvlFrom_at (e := e) HXE.out, HXN.out, if_neg (by rw [HBD.out]; decide)] at h
              exact h
          case measure => simp [intOf]; omega
end
end Go.Proofs.YtbhohohgojcapaaGreat
