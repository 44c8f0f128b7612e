import Derived.Test.YtbhohohgojcapaaGreatPkD2
import Derived.Test.YtbhohohgojcapaaGreatPkC9
import Derived.Test.YtbhohohgojcapaaGreatPkD4
import Derived.Test.YtbhohohgojcapaaGreatPkE0
import Derived.Test.YtbhohohgojcapaaGreatPkE8
import Derived.Test.YtbhohohgojcapaaGreatPkE9
namespace Go.Proofs.YtbhohohgojcapaaGreat
open Go.RowKit
theorem ar0_ok_ (n : Nat) (h : 1 <= n) : RightA (ar0 n) /\ (∀ c, c <= 200000000000000 -> SmA c (ar0 n)) /\ 1 <= (ar0 n).root /\ (ar0 n).root <= (ar0 n).sl.length :=
 ⟨λ s hs => by simp [ar0] at hs; subst hs; exact right_zero, λ c hc s hs => by simp [ar0] at hs; subst hs; exact zero_sm hc, by simp [ar0], by simp [ar0]⟩
theorem wideR (w : World) : Calls Tryz.prog 13 #[] w λ e w' => e = .returned (.agg #[.int .i64 60, .int .i64 64, .int .i64 64, .int .i64 1, .int .i64 1]) /\ Keeps Nob w w' := by
 go_enter Tryz.func13, Tryz.ntmps13
 go_wp2
 refine post_at (λ wb hw => ?_)
 have hk : Keeps Nob w wb := by rw [hw]; exact Keeps.alloc _ _ _
 have hb : Blk wb w.heap.size 49 #[.int .i64 60, .int .i64 64, .int .i64 64, .int .i64 1, .int .i64 1] := by rw [hw]; exact Blk.new _ _ _
 have r0 := hb.cell 0
 have r1 := hb.cell 1
 have r2 := hb.cell 2
 have r3 := hb.cell 3
 have r4 := hb.cell 4
 refine bodyPost_ret (v := .agg #[.int .i64 60, .int .i64 64, .int .i64 64, .int .i64 1, .int .i64 1]) (by simp [results, Tryz.results13, go_sem, r0, r1, r2, r3, r4]) rfl ⟨rfl, hk⟩
section
variable {w : World} {os : List O13} {v kv : Value} {key : List UInt8}
set_option maxRecDepth 100000 in
set_option maxHeartbeats 12800000 in
theorem galone_ok (h : O13At w w.heap.size v os) (hkey : Byts w (λ b => b < w.heap.size) kv key) (hsm : Sm 0 1 key.length) : Calls Tryz.prog 3 #[v, kv] w λ e w' => e = .returned (.bool true) /\ Keeps Nob w w' := by
 have HO := Hd_ h
 have HKEY := Hd_ hkey
 have HSM : Hid (Sm 0 1 key.length) := hsm
 obtain ⟨SA, sc, hv, hc1, hc2, hc3, _⟩ := h
 obtain ⟨KY, ky, ek, _, _⟩ := hkey.form
 subst hv ek
 have HH := Hd_ (head13 w)
 have HB := λ wx => begunJ (n := 60) wx (by decide) (by decide)
 have hos : os.length < 800000000000 := by omega
 clear hc1 hc2 hc3 hkey hsm
 unfold iV pV at *
 go_enter Tryz.func3, Tryz.ntmps3
 go_wp2_with fail
 refine HH.out.mono ?_
 rintro e w2 ⟨rfl, hk⟩
 have K := Hd_ hk
 have HP : Hid (w.heap.size <= w2.heap.size) := hk.size
 clear hk HH
 go_wp2_with (go_at_call 9; refine (HB _).mono ?_; rintro e w3 ⟨b, p, q, rfl, hj, hk⟩; have HJ := Hd_ hj; have KB := Hd_ hk; clear hj hk)
 clear HB
 go_loopw [8] (λ i wr => ∃ k : Nat, k <= os.length /\ i = .int .i64 k /\ ∃ A, J wr (From w2.heap.size) b p q A A /\ RightA A /\ SmA (BIG - 24 * k) A /\ (1 <= A.root /\ A.root <= A.sl.length) /\ Keeps Nob w2 wr) (λ i _ => os.length - (intOf i).toNat)
 case atStart =>
  obtain ⟨z1, z2, z3⟩ := ar0_ok_ 60 (by decide)
  exact ⟨0, Nat.zero_le _, rfl, _, HJ.out, z1, z2 _ (by decide), z3, KB.out⟩
 clear HJ KB
 obtain ⟨k, hk, rfl, A, hj, hra, hsa, hroot, hkr⟩ := hrel
 have HJ := Hd_ hj
 have HRA := Hd_ hra
 have HSA := Hd_ hsa
 have HROOT : Hid (1 <= A.root /\ A.root <= A.sl.length) := hroot
 have KB := Hd_ hkr
 clear hj hra hsa hroot hkr
 have hk64 : k < 9223372036854775807 := by omega
 rcases Nat.lt_or_ge k os.length with hlt | hlt
 ·obtain ⟨o, ho⟩ : ∃ o, os[k]? = some o := ⟨_, List.getElem?_eq_getElem hlt⟩
  obtain ⟨ad, cs, rfl, hlo, hop, hcs⟩ := (HO.out.keeps (K.out.trans KB.out (λ _ _ h => h)) (λ _ _ => id) (λ _ _ h => h.keeps (K.out.trans KB.out (λ _ _ h => h)) (λ _ _ => id))).at_ ho
  have HOP := Hd_ hop
  obtain ⟨kv, vv, hv, c0, c1, c2, c3, c4, c5, rfl, ⟨hkey, hval, hhi, hn⟩, ⟨i1, i2, i3⟩, z1, z2, z3, z4⟩ := hop
  obtain ⟨KA, kc, ek, _, _⟩ := hkey.form
  obtain ⟨VA, vc, ev, _, _⟩ := hval.form
  obtain ⟨HA, hc, eh, _, _⟩ := hhi.form
  subst ek ev eh
  obtain ⟨X1, k1, e1, _, _⟩ := hn.1.high.form
  obtain ⟨X3, k3, e3, _, _⟩ := hn.2.keys.form
  obtain ⟨X4, k4, e4, _, _⟩ := hn.2.vals.form
  obtain ⟨X5, k5, e5, _, _⟩ := hn.2.kids.form
  have e0 := hn.1.lvl
  have e2 := hn.1.right
  unfold iV at e0 e2
  subst e0 e1 e2 e3 e4 e5
  clear hkey hval hhi hn z1 z2 z3 z4 i1 i2 i3
  have q0 := hcs 0 _ rfl
  have q1 := hcs 1 _ rfl
  have q2 := hcs 2 _ rfl
  have q3 := hcs 3 _ rfl
  have q4 := hcs 4 _ rfl
  have q5 := hcs 5 _ rfl
  have q6 := hcs 6 _ rfl
  have q7 := hcs 7 _ rfl
  have q8 := hcs 8 _ rfl
  have q9 := hcs 9 _ rfl
  have q10 := hcs 10 _ rfl
  have q11 := hcs 11 _ rfl
  have q12 := hcs 12 _ rfl
  simp only [sub_] at q0 q1 q2 q3 q4 q5 q6 q7 q8 q9 q10 q11 q12
  clear hcs hlo ho
  have NEXT : Hid (SmA (BIG - 24 * (k + 1)) A) := λ s hs => (HSA.out s hs).mono (by omega)
  by_cases h4 : o.kd = 4
  ·have hb4 : (o.kd == 4) = true := by simpa using h4
   have hb5 : (o.kd != 4) = false := by simp [h4]
   clear h4
   go_wp2
   go_roundw
   case rel => exact ⟨k + 1, by omega, by go_num, A, HJ.out, HRA.out, NEXT.out, HROOT.out, KB.out⟩
   case measure => simp [intOf]; omega
  have hb4 : (o.kd == 4) = false := by simpa using h4
  have hb5 : (o.kd != 4) = true := by simpa using h4
  clear h4
  by_cases h6 : o.kd <= 6
  rotate_left
  ·go_wp2
   go_roundw
   case rel => exact ⟨k + 1, by omega, by go_num, A, HJ.out, HRA.out, NEXT.out, HROOT.out, KB.out⟩
   case measure => simp [intOf]; omega
  clear NEXT
  as_aux_lemma =>
  go_wp2_with fail
  clear q0 q1 q2 q3 q4 q5 q6 q7 q8 q9 q10 q11 q12
  have hb0 : A.sl.length <= A.nodes := by obtain ⟨_, ⟨_, _, _, _, ⟨_, _, hX⟩, _⟩, _⟩ := HJ.out; exact hX.bound.1
  obtain ⟨_, _, _, _, _, _, _, _, _, _, _, _, z1, z2, z3, z4⟩ := HOP.out
  have TJ := turnJ HJ.out HOP.out (λ x hx hg => by have h1 := HP.out; have h2 : w2.heap.size <= x := hg; omega) HRA.out (λ s hs => (HSA.out s hs).mono (by unfold BIG; omega)) (by have := HROOT.out; omega) HROOT.out
  have HR2 := Hd_ (right_turn (o := o) HRA.out hb0)
  have HS2 : Hid (SmA (BIG - 24 * (k + 1)) (turnM A o)) := sm_turn (by rw [show BIG - 24 * (k + 1) + 24 = BIG - 24 * k by unfold BIG; omega]; exact HSA.out) (by unfold BIG; omega) hb0 (z1.mono (by omega)) (z2.mono (by omega)) (z4.mono (by omega))
  have HRT := Hd_ (root_turn (o := o) HROOT.out)
  clear hb0 z1 z2 z3 z4
  unfold pV at TJ
  refine TJ.mono ?_
  rintro e w4 ⟨rfl, hj, hk4⟩
  have HJ4 := Hd_ hj
  have KB4 := Hd_ (KB.out.trans hk4 (λ x hx hg => absurd hx (Nat.not_lt.2 hg)))
  clear hj hk4 TJ KB HJ
  go_wp2
  go_roundw
  case rel => exact ⟨k + 1, by omega, by go_num, _, HJ4.out, HR2.out, HS2.out, HRT.out, KB4.out⟩
  case measure => simp [intOf]; omega
 obtain rfl : k = os.length := by omega
 replace K := Hd_ (K.out.trans KB.out (λ _ _ h => h))
 clear KB HO HSA HRA hk hk64 hlt HROOT
 -- Key, Check
 have FK := λ wx (h : Keeps Nob wr wx) => keyFitR ((HKEY.out.keeps K.out (λ _ _ _ h => h)).keeps h (λ _ _ _ h => h))
 obtain ⟨M1, D1, M', D', _, ⟨L, xs, hY⟩, _, _, _⟩ := HJ.out.mem
 have HY := Hd_ hY
 have hsl : A.sl.length <= 65536 := by have := hY.bound; omega
 clear hY
 obtain ⟨ls, R, hR⟩ : ∃ ls R, levelsM A 60 64 64 1 1 = (ls, R) := ⟨_, _, rfl⟩
 have hcs : (checkM A 60 64 64 1 1).sound = R.sound := by rw [checkM_sound, hR]
 have FC := λ wx (h : DocW wx M' D' q L xs A) => checkRep (a0 := 60) (a1 := 64) (a2 := 64) (a3 := 1) (a4 := 1) h HJ.out.smB
 unfold rpV pV at FC
 rw [hcs] at FC
 generalize checkM A 60 64 64 1 1 = C at *
 have HR := Hd_ hR
 clear hR hcs
 have s1 := HJ.out.blk.cell 1
 unfold pV at s1
 go_wp2_with (go_at_call 11; refine (FK _ (Keeps.refl _ _)).mono ?_; rintro e w' ⟨rfl, rfl⟩)
 clear FK
 refine wp_region_canon [0, 1, 2, 3, 4, 5, 6, 7] 8 (λ W => W.cell? ⟨b, 1, none⟩ = some (.pointer (some ⟨q, 0, none⟩)) /\ True) (by kernel_rfl) (by kernel_rfl) rfl (by kernel_rfl) (λ _ _ d _ _ h => by cases d <;> exact h) ⟨s1, trivial⟩ ?_
 refine canon_at (λ v0 hw => ?_)
 have hk : Keeps Nob wr v0 := by rw [hw]; exact Keeps.drew _ _
 have HC := Hd_ (hk.cell s1 (λ h => h))
 have KT := Hd_ hk
 clear hw hk s1
 iterate 4
  refine wpCanon_read (v := ?_) rfl (by kernel_rfl) (by rfl) ?_ ?_
  rotate_left
  ·intro W hW
   try (obtain ⟨g1, _⟩ : _ /\ _ := hW)
   go_simp
   try rfl
  simp only [Act.put, List.setIfInBounds_toArray, List.set_cons_zero, List.set_cons_succ]
 refine wpCanon_act rfl (by kernel_rfl) ?_
 go_wp2_with (go_at_call 13; refine (wideR _).mono ?_; rintro e v1 ⟨rfl, hk⟩)
 refine ⟨.inr ⟨hk.cell HC.out (λ h => h), trivial⟩, ?_⟩
 replace HC := Hd_ (hk.cell HC.out (λ h => h))
 replace KT := Hd_ (KT.out.trans hk (λ _ _ h => h))
 clear hk
 refine wpCanon_act rfl (by kernel_rfl) ?_
 go_wp2_with (go_at_call 12; refine (FC _ (HY.out.keeps KT.out (λ _ _ _ h => h) (λ _ _ _ h => h))).mono ?_; rintro e v2 ⟨rfl, hk⟩)
 refine ⟨.inr ⟨hk.cell HC.out (λ h => h), trivial⟩, ?_⟩
 replace KT := Hd_ (KT.out.trans hk (λ _ _ h => h))
 clear hk HC FC
 iterate 2
  refine wpCanon_read (v := ?_) rfl (by kernel_rfl) (by rfl) ?_ ?_
  rotate_left
  ·intro W hW
   try (obtain ⟨g1, _⟩ : _ /\ _ := hW)
   go_simp
   try rfl
  simp only [Act.put, List.setIfInBounds_toArray, List.set_cons_zero, List.set_cons_succ]
 refine wpCanon_nil ?_
 replace HY := Hd_ (HY.out.keeps KT.out (λ _ _ _ h => h) (λ _ _ _ h => h))
 replace HJ := Hd_ (HJ.out.nob KT.out)
 replace K := Hd_ (K.out.trans KT.out (λ _ _ h => h))
 clear KT
 obtain ⟨rs, rn, re, rl, rns, rents⟩ := R
 rcases rs with _ | _
 ·as_aux_lemma =>
  go_wp2
  go_ret
  exact ⟨rfl, K.out⟩
 obtain ⟨lv0, hT⟩ := levelsM_ok HR.out rfl
 obtain ⟨S, g, r, hal⟩ := get_alone (key := key) hT
 have HF : Hid ((mapOf A).length <= 4000000000000) := map_few hT (by decide) hsl
 have HAL := Hd_ hal
 have hS := hal.most
 clear hT HR hal
 -- New
 have FN := λ wx (h : Keeps Nob v2 wx) => getNewX (p := p) ((HKEY.out.keeps K.out (λ _ _ _ h => h)).keeps h (λ _ _ _ h => h)) HSM.out
 unfold pV at FN
 have s0 := HJ.out.blk.cell 0
 unfold pV at s0
 generalize hgk : keyFit key = good at *
 have HGK := Hd_ hgk
 clear hgk
 go_wp2_with (go_at_call 14; refine (FN _ (Keeps.refl _ _)).mono ?_; rintro e w5 ⟨m, d, rfl, hf1, hf2, hX, hk⟩)
 have HM : Hid (v2.heap.size <= m /\ v2.heap.size <= d) := ⟨hf1.1, hf2.1⟩
 have HX : Hid (∃ G S', J w5 G b p q A A /\ GX w5 m d p S' (g 0) /\ ∀ x, x = m \/ x = d \/ S' x -> ¬ G x) := ⟨_, _, HJ.out.shr hk (λ _ _ _ h => h), by rw [HAL.out.start]; exact hX, λ x hx hg => hg.2 (by rcases hx with h | h | h; exact h ▸ hf1; exact h ▸ hf2; exact h.1)⟩
 have K5 : Hid (Keeps Nob v2 w5) := hk
 clear FN hf1 hf2 hX hk s0
 go_loopw [11, 12] (λ i th wz => ∃ n : Nat, i = .int .i64 n /\ n <= S /\ th = .bool (decide (n = S)) /\ (∃ G S', J wz G b p q A A /\ GX wz m d p S' (g n) /\ ∀ x, x = m \/ x = d \/ S' x -> ¬ G x) /\ Keeps Nob v2 wz) (λ i _ _ => 1 + 4 * A.sl.length + 1 - (intOf i).toNat)
 case atStart => exact ⟨0, rfl, Nat.zero_le _, by rw [decide_eq_false (by omega)], HX.out, K5.out⟩
 clear HX K5
 obtain ⟨n, rfl, hnS, rfl, hX, hk5⟩ := hrel
 have K5 := Hd_ hk5
 obtain ⟨G, S', hj, hX, hoff⟩ := hX
 clear hk5
 rcases Nat.lt_or_ge n S with hlt | hlt
 ·as_aux_lemma =>
  obtain ⟨hres, hstep, hle⟩ := HAL.out.step n hlt
  rw [decide_eq_false (show ¬ n = S by omega)]
  have hout : (g n).out = ⟨[], false, 0⟩ := by unfold Gc.out; rw [hres]; rfl
  have FA := answerGX hX
  rw [hout] at FA
  have FU := λ wx (h : Keeps Nob v2 wx) => usedR (HY.out.keeps h (λ _ _ _ h => h) (λ _ _ _ h => h))
  have HB1 := Hd_ (λ wx (h : Keeps Nob v2 wx) => h.cell (HJ.out.blk.cell 1) (λ h => h))
  have HJ2 := Hd_ hj
  have HX2 := Hd_ hX
  have HOFF := Hd_ hoff
  have HST := Hd_ hstep
  have HLE := Hd_ hle
  have hn1 : ¬ (1 + 4 * (A.sl.length : Int)) < (n : Int) := by omega
  unfold pV iV at FA FU
  simp only [List.length_nil] at FA
  clear hres hstep hle hout hj hX hoff
  go_wp2_with fail
  refine FA.mono ?_
  rintro e w6 ⟨VA, vc, rfl, _, hk6⟩
  replace K5 := Hd_ (K5.out.trans hk6 (λ _ _ h => h))
  have s1 : w6.cell? ⟨b, 1, none⟩ = some (.pointer (some ⟨q, 0, none⟩)) := HB1.out _ K5.out
  have FS := stepGX (HJ2.out.nob hk6) HOFF.out (HX2.out.keeps hk6 (λ h => h) (λ h => h) (λ _ _ _ h => h)) (HLE.out.low (by omega))
  rw [HST.out] at FS
  simp only at FS
  unfold pV at FS
  obtain ⟨z, hz⟩ : ∃ z, decide (n + 1 = S) = z := ⟨_, rfl⟩
  rw [hz] at FS
  have HZ := Hd_ hz
  have HK6 := Hd_ hk6
  clear FA hk6 hz
  go_wp2_with fail
  refine (FU _ K5.out).mono ?_
  rintro e w' ⟨rfl, rfl⟩
  clear s1
  go_wp2_with fail
  refine FS.mono ?_
  rintro e w7 ⟨rfl, hX7, hk7⟩
  have HX7 : Hid (∃ G S', J w7 G b p q A A /\ GX w7 m d p S' (g (n + 1)) /\ ∀ x, x = m \/ x = d \/ S' x -> ¬ G x) := ⟨_, _, (HJ2.out.nob HK6.out).shr hk7 (λ x _ hg h => HOFF.out x (h.imp (λ h => h) .inl) hg), hX7, λ x hx hg => by
   rcases hx with h | h | h | h
   ·exact HOFF.out x (.inl h) hg.1
   ·exact HOFF.out x (.inr (.inl h)) hg.1
   ·exact HOFF.out x (.inr (.inr h)) hg.1
   ·exact hg.2 h⟩
  have K7 := Hd_ (K5.out.trans hk7 (λ x hx h => by have h1 := HM.out; rcases h with h | h <;> omega))
  clear hX7 hk7 FS FU HB1 HK6 HX2 HOFF HJ2 HST HLE K5 hn1
  have hn64 : (n : Int) < 300000 := by omega
  go_wp2
  go_roundw
  case rel => exact ⟨n + 1, by go_num, by omega, by rw [HZ.out], HX7.out, K7.out⟩
  case measure => simp [intOf]; omega
 obtain rfl : n = S := by omega
 rw [decide_eq_true rfl]
 obtain ⟨hres, hle⟩ := HAL.out.fin
 have hst : stepG A (g n) = ((true, false), g n) := by unfold stepG; rw [hres]
 have hout : (g n).out = r := by unfold Gc.out; rw [hres]; rfl
 have FS := stepGX hj hoff hX (hle.low (by omega))
 rw [hst] at FS
 simp only at FS
 unfold pV at FS
 have HOUT := Hd_ hout
 have HG := Hd_ HAL.out.good
 have HBD := Hd_ HAL.out.bad
 clear hres hle hst hout hj hX hoff HAL
 rcases good with _ | _
 ·as_aux_lemma =>
  obtain ⟨hn1, hr⟩ := HBD.out HGK.out
  subst hr
  clear HG HBD hS hnS
  subst hn1
  obtain ⟨rv, rt, hvm⟩ : ∃ rv rt, valueM (mapOf A) key = (rv, rt) := ⟨_, _, rfl⟩
  have HVM := Hd_ hvm
  clear hvm
  go_wp2_with fail
  refine FS.mono ?_
  rintro e w6 ⟨rfl, hX6, hk6⟩
  replace K5 := Hd_ (K5.out.trans hk6 (λ x hx h => by have h1 := HM.out; rcases h with h | h <;> omega))
  have FA := answerGX hX6
  rw [HOUT.out] at FA
  unfold pV iV at FA
  clear FS hk6 hX6
  go_wp2_with fail
  refine FA.mono ?_
  rintro e w7 ⟨VA, vc, rfl, hov, hk7⟩
  replace K5 := Hd_ (K5.out.trans hk7 (λ _ _ h => h))
  have HOV := Hd_ hov
  clear FA hov hk7
  have s1 : w7.cell? ⟨b, 1, none⟩ = some (.pointer (some ⟨q, 0, none⟩)) := K5.out.cell (HJ.out.blk.cell 1) (λ h => h)
  have FM := mapR (HY.out.keeps K5.out (λ _ _ _ h => h) (λ _ _ _ h => h)) HJ.out.smB rfl HF.out
  unfold pV at FM
  go_wp2_with fail
  refine FM.mono ?_
  rintro e w8 ⟨mv, rfl, hm, hk8⟩
  replace K5 := Hd_ (K5.out.trans hk8 (λ _ _ h => h))
  replace HOV := Hd_ (HOV.out.keeps hk8 (λ _ _ _ h => h))
  have FV := mapValueR hm (HKEY.out.keeps (K.out.trans K5.out (λ _ _ h => h)) (λ _ _ _ h => h))
  rw [HVM.out] at FV
  clear FM hm hk8 s1
  go_wp2_with fail
  refine FV.mono ?_
  rintro e w9 ⟨vv, rfl, hb, hk9⟩
  replace K5 := Hd_ (K5.out.trans hk9 (λ _ _ h => h))
  replace HOV := Hd_ (HOV.out.keeps hk9 (λ _ _ _ h => h))
  have t1 := run_str HOV.out.r
  have t2 := run_str hb
  try simp only at t1 t2
  clear FV hb hk9
  go_wp2
  go_ret
  exact ⟨rfl, K.out.trans K5.out (λ _ _ h => h)⟩
 ·as_aux_lemma =>
  obtain ⟨he, hv⟩ := HG.out HGK.out
  obtain ⟨rv, rt, re⟩ := r
  simp only at he hv
  subst he
  have hvm : valueM (mapOf A) key = (rv, rt) := hv.symm
  clear HG HBD hS hnS hv
  have HVM := Hd_ hvm
  clear hvm
  go_wp2_with fail
  refine FS.mono ?_
  rintro e w6 ⟨rfl, hX6, hk6⟩
  replace K5 := Hd_ (K5.out.trans hk6 (λ x hx h => by have h1 := HM.out; rcases h with h | h <;> omega))
  have FA := answerGX hX6
  rw [HOUT.out] at FA
  unfold pV iV at FA
  clear FS hk6 hX6
  go_wp2_with fail
  refine FA.mono ?_
  rintro e w7 ⟨VA, vc, rfl, hov, hk7⟩
  replace K5 := Hd_ (K5.out.trans hk7 (λ _ _ h => h))
  have HOV := Hd_ hov
  clear FA hov hk7
  have s1 : w7.cell? ⟨b, 1, none⟩ = some (.pointer (some ⟨q, 0, none⟩)) := K5.out.cell (HJ.out.blk.cell 1) (λ h => h)
  have FM := mapR (HY.out.keeps K5.out (λ _ _ _ h => h) (λ _ _ _ h => h)) HJ.out.smB rfl HF.out
  unfold pV at FM
  go_wp2_with fail
  refine FM.mono ?_
  rintro e w8 ⟨mv, rfl, hm, hk8⟩
  replace K5 := Hd_ (K5.out.trans hk8 (λ _ _ h => h))
  replace HOV := Hd_ (HOV.out.keeps hk8 (λ _ _ _ h => h))
  have FV := mapValueR hm (HKEY.out.keeps (K.out.trans K5.out (λ _ _ h => h)) (λ _ _ _ h => h))
  rw [HVM.out] at FV
  clear FM hm hk8 s1
  go_wp2_with fail
  refine FV.mono ?_
  rintro e w9 ⟨vv, rfl, hb, hk9⟩
  replace K5 := Hd_ (K5.out.trans hk9 (λ _ _ h => h))
  replace HOV := Hd_ (HOV.out.keeps hk9 (λ _ _ _ h => h))
  have t1 := run_str HOV.out.r
  have t2 := run_str hb
  try simp only at t1 t2
  clear FV hb hk9
  go_wp2
  go_ret
  exact ⟨rfl, K.out.trans K5.out (λ _ _ h => h)⟩
end
end Go.Proofs.YtbhohohgojcapaaGreat
