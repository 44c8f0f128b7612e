import Derived.Test.YtbhohohgojcapaaGreatPkE6
import Derived.Test.YtbhohohgojcapaaGreatPkE9
import Derived.Test.YtbhohohgojcapaaGreatPkB0
set_option maxHeartbeats 64000000
namespace Go.Proofs.YtbhohohgojcapaaGreat
open Go.RowKit
theorem ar0_okM (n : Nat) (h : 1 <= n) : RightA (ar0 n) /\ (∀ c, c <= 200000000000000 -> SmA c (ar0 n)) /\ (1 <= (ar0 n).root /\ (ar0 n).root <= (ar0 n).sl.length) /\ WB 1 (ar0 n) /\ (ar0 n).sl.length <= 65536 :=
 ⟨λ s hs => by simp [ar0] at hs; subst hs; exact right_zero, λ c hc s hs => by simp [ar0] at hs; subst hs; exact zero_sm hc, by simp [ar0], λ s hs => by simp [ar0] at hs; subst hs; simp, by simp [ar0]⟩
section
variable {w : World} {os : List O13} {v : Value}
set_option maxRecDepth 100000 in
theorem moment_ok (h : O13At w w.heap.size v os) : Calls Tryz.prog 5 #[v] w λ e w' => e = .returned (.bool true) /\ Keeps Nob w w' := by
 have HO := Hd h
 obtain ⟨SA, sc, hv, hc1, hc2, hc3, _⟩ := h
 subst hv
 have HH := Hd (head13 w)
 have HB := λ wx => begunJ (n := 60) wx (by decide) (by decide)
 have hos : os.length < 800000000000 := by omega
 clear hc1 hc2 hc3
 unfold iV pV at *
 go_enter Tryz.func5, Tryz.ntmps5
 go_wp2_with (first
  | (go_at_call 8; refine HH.out.mono ?_; rintro e w1 ⟨rfl, hk⟩; have K := Hd hk; clear hk)
  | (go_at_call 9; refine (HB _).mono ?_; rintro e w2 ⟨b, p, q, rfl, hj, hk⟩; have HS := Hd ((((Su.begin (w0 := w) hj (λ x hx => Nat.le_trans K.out.size hx) (K.out.trans hk (λ _ _ h => h))).nilRow 67 3).addNo.addNo.addGrp)); clear hj hk))
 clear HB HH K
 go_loopw [6, 7] (λ lv i wr => ∃ k : Nat, k <= os.length /\ i = .int .i64 k /\ ∃ A gs, ∃ o1 o2 : Ob, gs.length <= k /\ MomI w k A gs /\ WB (1 + 4 * k) A /\ RightA A /\ SmA (BIG - 24 * k) A /\ (1 <= A.root /\ A.root <= A.sl.length) /\ A.sl.length <= 65536 /\ Su w wr b p q A A [rowOb 67 3 lv gs.length (prsM gs), o1, o2, grpOb (gs.map (gmO p))]) (λ _ i _ => os.length - (intOf i).toNat)
 case atStart =>
  obtain ⟨z1, z2, z3, z4, z5⟩ := ar0_okM 60 (by decide)
  exact ⟨0, Nat.zero_le _, rfl, _, [], _, _, Nat.le_refl _, MomI.nil _ _ _, z4, z1, z2 _ (by decide), z3, z5, HS.out⟩
 clear HS
 obtain ⟨k, hk, rfl, AR, gs, o1, o2, hgl, hmo, hwb, hra, hsa, hroot, hsl, hs⟩ := hrel
 rcases Nat.lt_or_ge k os.length with hlt | hlt
 rotate_left
 ·as_aux_lemma =>
  obtain rfl : k = os.length := by omega
  have K := Hd hs.kept
  obtain ⟨G, hJ, _, _⟩ := hs.arena
  have HN := Hd (sameJ hJ)
  unfold pV at HN
  clear hs hJ hmo hwb hgl hra hsa hroot hsl
  go_wp2_with fail
  refine HN.out.mono ?_
  rintro e wl ⟨rfl, _, hk2⟩
  have HK3 := Hd (K.out.trans hk2 (λ _ _ h => h))
  clear hk2 HN
  go_wp2
  go_ret
  exact ⟨rfl, HK3.out⟩
 obtain ⟨o, ho⟩ : ∃ o, os[k]? = some o := ⟨_, List.getElem?_eq_getElem hlt⟩
 obtain ⟨ad, cs, rfl, hlo, hop0, hcs0⟩ := HO.out.at_ ho
 have hop := hop0.keeps hs.kept (λ _ _ => id)
 have hcs := λ j x hx => hs.kept.cell (hcs0 j x hx) id
 have HOP := Hd hop
 obtain ⟨kv, vv, hv, c0, c1, c2, c3, c4, c5, rfl, ⟨hkey, hval, hhi, hn⟩, ⟨i1, i2, i3⟩, z1, z2, z3, z4⟩ := hop0
 have HKEY0 := Hd hkey
 obtain ⟨KA, kc, ek, _, _⟩ := hkey.form
 obtain ⟨VA, vc, ev, _, _⟩ := hval.form
 obtain ⟨HA, hc, eh, _, _⟩ := hhi.form
 subst ek ev eh
 obtain ⟨X1, k1, e1, _, _⟩ := hn.1.high.form
 obtain ⟨X3, k3, e3, _, _⟩ := hn.2.keys.form
 obtain ⟨X4, k4, e4, _, _⟩ := hn.2.vals.form
 obtain ⟨X5, k5, e5, _, _⟩ := hn.2.kids.form
 have e0 := hn.1.lvl
 have e2 := hn.1.right
 unfold iV at e0 e2
 subst e0 e1 e2 e3 e4 e5
 clear hval hhi hn z3 z4 z2
 obtain ⟨lA, lc, el⟩ := (hs.get (i := 0) rfl : Own wr _ _ 3 _ _ _).form
 subst el
 have q0 := hcs 0 _ rfl
 have q1 := hcs 1 _ rfl
 have q2 := hcs 2 _ rfl
 have q3 := hcs 3 _ rfl
 have q4 := hcs 4 _ rfl
 have q5 := hcs 5 _ rfl
 have q6 := hcs 6 _ rfl
 have q7 := hcs 7 _ rfl
 have q8 := hcs 8 _ rfl
 have q9 := hcs 9 _ rfl
 have q10 := hcs 10 _ rfl
 have q11 := hcs 11 _ rfl
 have q12 := hcs 12 _ rfl
 simp only [sub_] at q0 q1 q2 q3 q4 q5 q6 q7 q8 q9 q10 q11 q12
 clear hcs hcs0 hop hlo ho
 have HS := Hd hs
 have HMO := Hd hmo
 have HWB := Hd hwb
 have HRA := Hd hra
 have HSA := Hd hsa
 have HROOT : Hid (1 <= AR.root /\ AR.root <= AR.sl.length) := hroot
 have HSL : Hid (AR.sl.length <= 65536) := hsl
 have HSM : Hid (Sm BIG 1 o.key.length) := z1
 have NEXT : Hid (SmA (BIG - 24 * (k + 1)) AR) := λ s hs => (HSA.out s hs).mono (by omega)
 have hll : gs.length < 9223372036854775807 := by omega
 clear hs hmo hwb hra hsa hroot hsl hkey z1 i1 i3
 have hk64 : k < 9223372036854775807 := by omega
 by_cases ht : 0 <= o.kd /\ o.kd <= 6
 ·obtain ⟨ht1, ht2⟩ := ht
  rcases Nat.eq_zero_or_pos gs.length with hz | hpos
  ·obtain rfl : gs = [] := List.length_eq_zero_iff.1 hz
   clear hz hll
   as_aux_lemma =>
   go_wp2_with fail
   clear q0 q1 q2 q3 q4 q5 q6 q7 q8 q9 q10 q11 q12
   refine calls_at (λ w1 hw => ?_)
   have hk1 : Keeps Nob wr w1 := by rw [hw]; exact (Keeps.alloc Nob _ _)
   obtain ⟨P8, hP8⟩ : ∃ N, wr.heap.size = N := ⟨_, rfl⟩
   have hb8 : Blk w1 P8 37 #[.int .i64 o.kd, .int .i64 o.a, .int .i64 o.b, .slice KA o.key.length kc, .slice VA o.val.length vc, .slice HA o.hi.length hc, .bool true, .int .i64 o.nd.lvl, .slice X1 o.nd.high.length k1, .int .i64 o.nd.right, .slice X3 o.nd.keys.length k3, .slice X4 o.nd.vals.length k4, .slice X5 o.nd.kids.length k5] := by rw [hw, <- hP8]; exact Blk.new _ _ _
   clear hw
   replace HS := Hd (HS.out.blkPut (i := 1) rfl hk1 hb8 (by rw [hP8]; exact Nat.le_refl _))
   have hop2 := (HOP.out.keeps hk1 (λ _ _ => id)).tru
   obtain ⟨G, hJ, hG, hback⟩ := HS.out.arena
   have hb0 : AR.sl.length <= AR.nodes /\ AR.nodes <= 65536 := by obtain ⟨_, ⟨_, _, _, _, ⟨_, _, hX⟩, _⟩, _⟩ := hJ; exact hX.bound
   obtain ⟨_, _, _, _, _, _, _, _, _, _, _, _, z1, z2, z3, z4⟩ := HOP.out
   have TJ := turnJ hJ hop2 (λ x hx hg => absurd hx (Nat.not_lt.2 (hG x hg))) HRA.out (λ s hs => (HSA.out s hs).mono (by unfold BIG; omega)) (by have := HROOT.out; omega) HROOT.out
   have HR2 := Hd (right_turn (o := o.tru) HRA.out hb0.1)
   have HS2 : Hid (SmA (BIG - 24 * (k + 1)) (turnM AR o.tru)) := sm_turn (by rw [show BIG - 24 * (k + 1) + 24 = BIG - 24 * k by unfold BIG; omega]; exact HSA.out) (by unfold BIG; omega) hb0.1 (z1.mono (by omega)) (z2.mono (by omega)) (z4.mono (by omega))
   have HRT := Hd (root_turn (o := o.tru) HROOT.out)
   have HW2 : Hid (WB (1 + 4 * (k + 1)) (turnM AR o.tru)) := Hd ((wb_turn HWB.out (by omega)).mono (by omega))
   have HBK := Hd hback
   clear hJ hG hback hop2 hb0 z1 z2 z3 z4 hk1 hb8 hP8 HS
   unfold pV at TJ
   refine TJ.mono ?_
   rintro e w4 ⟨rfl, hj, hk4⟩
   have HSL2 : Hid ((turnM AR o.tru).sl.length <= 65536) := by obtain ⟨_, ⟨_, _, _, _, ⟨_, _, hX⟩, _⟩, _⟩ := hj; have := hX.bound; show _ <= _; omega
   have HS := Hd (HBK.out _ _ _ hj hk4)
   clear hj hk4 TJ HBK
   generalize turnM AR o.tru = AT at *
   go_wp2
   have s1 := HS.out.blk.cell 1
   unfold pV at s1
   obtain ⟨sd, hsd⟩ : ∃ x, soundZ AT = x := ⟨_, rfl⟩
   have HSD := Hd hsd
   clear hsd
   refine rC_ [0, 1, 2, 3, 4, 5, 6] 7 (λ W => W.cell? ⟨b, 1, none⟩ = some (.pointer (some ⟨q, 0, none⟩)) /\ True) ⟨s1, trivial⟩ ?_
   refine canon_at (λ vs0 hw => ?_)
   have hk : Keeps Nob w4 vs0 := by rw [hw]; exact Keeps.drew _ _
   have HC := Hd (hk.cell s1 (λ h => h))
   replace HS := Hd (HS.out.nob hk)
   clear hw hk s1
   iterate 4
    refine cR_ (v := ?_) rfl ?_ ?_
    rotate_left
    ·intro W hW
     try (obtain ⟨g1, _⟩ : _ /\ _ := hW)
     go_simp
     try rfl
    simp only [Act.put, sa_, sb_, sc_]
   refine cA_ rfl ?_
   go_wp2_with (go_at_call 13; refine (wideM _).mono ?_; rintro e vs1 ⟨rfl, hk⟩)
   refine ⟨.inr ⟨hk.cell HC.out (λ h => h), trivial⟩, ?_⟩
   replace HC := Hd (hk.cell HC.out (λ h => h))
   replace HS := Hd (HS.out.nob hk)
   clear hk
   have FS := HS.out.soundS
   rw [HSD.out] at FS
   unfold pV at FS
   refine cA_ rfl ?_
   go_wp2_with (go_at_call 25; refine FS.mono ?_; rintro e vs2 ⟨rfl, hk⟩)
   refine ⟨.inr ⟨hk.cell HC.out (λ h => h), trivial⟩, ?_⟩
   replace HS := Hd (HS.out.nob hk)
   clear hk HC FS
   iterate 1
    refine cR_ (v := ?_) rfl ?_ ?_
    rotate_left
    ·intro W hW
     try (obtain ⟨g1, _⟩ : _ /\ _ := hW)
     go_simp
     try rfl
    simp only [Act.put, sa_, sb_, sc_]
   refine wpCanon_nil ?_
   go_wp2
   go_roundw
   case rel => exact ⟨k + 1, by omega, by go_num, _, [], _, _, Nat.zero_le _, MomI.nil _ _ _, HW2.out, HR2.out, HS2.out, HRT.out, HSL2.out, HS.out⟩
   case measure => simp [intOf]; omega
  have hpos' : (0 : Int) < (gs.length : Int) := by omega
  by_cases h0 : o.kd = 0
  ·have hz0 : (o.kd == 0) = true := by rw [h0]; rfl
   clear h0
   as_aux_lemma =>
   go_wp2
   go_roundw
   case rel => exact ⟨k + 1, by omega, by go_num, AR, gs, _, _, by omega, HMO.out.mono (by omega), HWB.out.mono (by omega), HRA.out, NEXT.out, HROOT.out, HSL.out, HS.out.nob (Keeps.alloc _ _ _)⟩
   case measure => simp [intOf]; omega
  have hz0 : (o.kd == 0) = false := by simpa using h0
  by_cases h6 : o.kd = 6
  ·have hz6 : (o.kd == 6) = true := by rw [h6]; rfl
   clear h0 h6
   as_aux_lemma =>
   go_wp2
   go_roundw
   case rel => exact ⟨k + 1, by omega, by go_num, AR, gs, _, _, by omega, HMO.out.mono (by omega), HWB.out.mono (by omega), HRA.out, NEXT.out, HROOT.out, HSL.out, HS.out.nob (Keeps.alloc _ _ _)⟩
   case measure => simp [intOf]; omega
  have hz6 : (o.kd == 6) = false := by simpa using h6
  as_aux_lemma =>
  go_wp2_with fail
  clear q0 q1 q2 q3 q4 q5 q6 q7 q8 q9 q10 q11 q12
  refine calls_at (λ w1 hw => ?_)
  have hk1 : Keeps Nob wr w1 := by rw [hw]; exact (Keeps.alloc Nob _ _)
  obtain ⟨P8, hP8⟩ : ∃ N, wr.heap.size = N := ⟨_, rfl⟩
  have hb8 : Blk w1 P8 37 #[.int .i64 o.kd, .int .i64 o.a, .int .i64 o.b, .slice KA o.key.length kc, .slice VA o.val.length vc, .slice HA o.hi.length hc, .bool true, .int .i64 o.nd.lvl, .slice X1 o.nd.high.length k1, .int .i64 o.nd.right, .slice X3 o.nd.keys.length k3, .slice X4 o.nd.vals.length k4, .slice X5 o.nd.kids.length k5] := by rw [hw, <- hP8]; exact Blk.new _ _ _
  clear hw
  replace HS := Hd (HS.out.blkPut (i := 1) rfl hk1 hb8 (by rw [hP8]; exact Nat.le_refl _))
  have hop2 := (HOP.out.keeps hk1 (λ _ _ => id)).tru
  obtain ⟨G, hJ, hG, hback⟩ := HS.out.arena
  have hb0 : AR.sl.length <= AR.nodes /\ AR.nodes <= 65536 := by obtain ⟨_, ⟨_, _, _, _, ⟨_, _, hX⟩, _⟩, _⟩ := hJ; exact hX.bound
  obtain ⟨_, _, _, _, _, _, _, _, _, _, _, _, z1, z2, z3, z4⟩ := HOP.out
  have TJ := turnJ hJ hop2 (λ x hx hg => absurd hx (Nat.not_lt.2 (hG x hg))) HRA.out (λ s hs => (HSA.out s hs).mono (by unfold BIG; omega)) (by have := HROOT.out; omega) HROOT.out
  have HR2 := Hd (right_turn (o := o.tru) HRA.out hb0.1)
  have HS2 : Hid (SmA (BIG - 24 * (k + 1)) (turnM AR o.tru)) := sm_turn (by rw [show BIG - 24 * (k + 1) + 24 = BIG - 24 * k by unfold BIG; omega]; exact HSA.out) (by unfold BIG; omega) hb0.1 (z1.mono (by omega)) (z2.mono (by omega)) (z4.mono (by omega))
  have HRT := Hd (root_turn (o := o.tru) HROOT.out)
  have HW2 : Hid (WB (1 + 4 * (k + 1)) (turnM AR o.tru)) := Hd ((wb_turn HWB.out (by omega)).mono (by omega))
  have HBK := Hd hback
  have HTK := Hd (turn_kept_ (o := o.tru) HWB.out (by omega) (by omega) (by have := HROOT.out; omega) hb0.1 rfl (by show 1 <= o.kd /\ o.kd <= 5; omega))
  clear hJ hG hback hop2 hb0 z1 z2 z3 z4 hk1 hb8 hP8 HS
  unfold pV at TJ
  refine TJ.mono ?_
  rintro e w4 ⟨rfl, hj, hk4⟩
  have HSL2 : Hid ((turnM AR o.tru).sl.length <= 65536) := by obtain ⟨_, ⟨_, _, _, _, ⟨_, _, hX⟩, _⟩, _⟩ := hj; have := hX.bound; show _ <= _; omega
  have HS := Hd (HBK.out _ _ _ hj hk4)
  clear hj hk4 TJ HBK
  generalize turnM AR o.tru = AT at *
  go_wp2
  have s1 := HS.out.blk.cell 1
  unfold pV at s1
  obtain ⟨sd, hsd⟩ : ∃ x, soundZ AT = x := ⟨_, rfl⟩
  have HSD := Hd hsd
  clear hsd
  refine rC_ [0, 1, 2, 3, 4, 5, 6] 7 (λ W => W.cell? ⟨b, 1, none⟩ = some (.pointer (some ⟨q, 0, none⟩)) /\ True) ⟨s1, trivial⟩ ?_
  refine canon_at (λ vs0 hw => ?_)
  have hk : Keeps Nob w4 vs0 := by rw [hw]; exact Keeps.drew _ _
  have HC := Hd (hk.cell s1 (λ h => h))
  replace HS := Hd (HS.out.nob hk)
  clear hw hk s1
  iterate 4
   refine cR_ (v := ?_) rfl ?_ ?_
   rotate_left
   ·intro W hW
    try (obtain ⟨g1, _⟩ : _ /\ _ := hW)
    go_simp
    try rfl
   simp only [Act.put, sa_, sb_, sc_]
  refine cA_ rfl ?_
  go_wp2_with (go_at_call 13; refine (wideM _).mono ?_; rintro e vs1 ⟨rfl, hk⟩)
  refine ⟨.inr ⟨hk.cell HC.out (λ h => h), trivial⟩, ?_⟩
  replace HC := Hd (hk.cell HC.out (λ h => h))
  replace HS := Hd (HS.out.nob hk)
  clear hk
  have FS := HS.out.soundS
  rw [HSD.out] at FS
  unfold pV at FS
  refine cA_ rfl ?_
  go_wp2_with (go_at_call 25; refine FS.mono ?_; rintro e vs2 ⟨rfl, hk⟩)
  refine ⟨.inr ⟨hk.cell HC.out (λ h => h), trivial⟩, ?_⟩
  replace HS := Hd (HS.out.nob hk)
  clear hk HC FS
  iterate 1
   refine cR_ (v := ?_) rfl ?_ ?_
   rotate_left
   ·intro W hW
    try (obtain ⟨g1, _⟩ : _ /\ _ := hW)
    go_simp
    try rfl
   simp only [Act.put, sa_, sb_, sc_]
  refine wpCanon_nil ?_
  rcases sd with _ | _
  ·as_aux_lemma =>
   have K := Hd HS.out.kept
   go_wp2
   go_ret
   exact ⟨rfl, K.out⟩
  go_wp2
  go_roundw
  case rel => exact ⟨k + 1, by omega, by go_num, _, gs, _, _, by omega, (HMO.out.turn HTK.out.1 HTK.out.2 HSD.out).mono (by omega), HW2.out, HR2.out, HS2.out, HRT.out, HSL2.out, HS.out⟩
  case measure => simp [intOf]; omega
 by_cases h7 : o.kd = 7
 ·have hge : ¬ o.kd <= 6 := by omega
  have hge0 : 0 <= o.kd := by omega
  have he7 : (o.kd == 7) = true := by rw [h7]; rfl
  clear h7 ht i2
  generalize hkd : o.kd = kd at *
  have HKD := Hd hkd
  clear hkd
  as_aux_lemma =>
  go_wp2
  clear q0 q1 q2 q3 q4 q5 q6 q7 q8 q9 q10 q11 q12
  refine code_at (λ w1 hw => ?_)
  have hk1 : Keeps Nob wr w1 := by rw [hw]; exact (Keeps.alloc Nob _ _)
  obtain ⟨P8, hP8⟩ : ∃ N, wr.heap.size = N := ⟨_, rfl⟩
  have hb8 : Blk w1 P8 37 #[.int .i64 kd, .int .i64 o.a, .int .i64 o.b, .slice KA o.key.length kc, .slice VA o.val.length vc, .slice HA o.hi.length hc, .bool o.ch, .int .i64 o.nd.lvl, .slice X1 o.nd.high.length k1, .int .i64 o.nd.right, .slice X3 o.nd.keys.length k3, .slice X4 o.nd.vals.length k4, .slice X5 o.nd.kids.length k5] := by rw [hw, <- hP8]; exact Blk.new _ _ _
  clear hw
  replace HS := Hd (HS.out.blkPut (i := 1) rfl hk1 hb8 (by rw [hP8]; exact Nat.le_refl _))
  rw [hP8]
  clear hk1 hb8 hP8
  have s1 := HS.out.blk.cell 1
  unfold pV at s1
  obtain ⟨sd, hsd⟩ : ∃ x, soundZ AR = x := ⟨_, rfl⟩
  have HSD := Hd hsd
  clear hsd
  refine rC_ [0, 1, 2, 3, 4, 5, 6] 7 (λ W => W.cell? ⟨b, 1, none⟩ = some (.pointer (some ⟨q, 0, none⟩)) /\ True) ⟨s1, trivial⟩ ?_
  refine canon_at (λ vs0 hw => ?_)
  have hk : Keeps Nob w1 vs0 := by rw [hw]; exact Keeps.drew _ _
  have HC := Hd (hk.cell s1 (λ h => h))
  replace HS := Hd (HS.out.nob hk)
  clear hw hk s1
  iterate 4
   refine cR_ (v := ?_) rfl ?_ ?_
   rotate_left
   ·intro W hW
    try (obtain ⟨g1, _⟩ : _ /\ _ := hW)
    go_simp
    try rfl
   simp only [Act.put, sa_, sb_, sc_]
  refine cA_ rfl ?_
  go_wp2_with (go_at_call 13; refine (wideM _).mono ?_; rintro e vs1 ⟨rfl, hk⟩)
  refine ⟨.inr ⟨hk.cell HC.out (λ h => h), trivial⟩, ?_⟩
  replace HC := Hd (hk.cell HC.out (λ h => h))
  replace HS := Hd (HS.out.nob hk)
  clear hk
  have FS := HS.out.soundS
  rw [HSD.out] at FS
  unfold pV at FS
  refine cA_ rfl ?_
  go_wp2_with (go_at_call 25; refine FS.mono ?_; rintro e vs2 ⟨rfl, hk⟩)
  refine ⟨.inr ⟨hk.cell HC.out (λ h => h), trivial⟩, ?_⟩
  replace HS := Hd (HS.out.nob hk)
  clear hk HC FS
  iterate 1
   refine cR_ (v := ?_) rfl ?_ ?_
   rotate_left
   ·intro W hW
    try (obtain ⟨g1, _⟩ : _ /\ _ := hW)
    go_simp
    try rfl
   simp only [Act.put, sa_, sb_, sc_]
  refine wpCanon_nil ?_
  rcases sd with _ | _
  ·as_aux_lemma =>
   have K := Hd HS.out.kept
   go_wp2
   go_ret
   exact ⟨rfl, K.out⟩
  go_wp2
  have s0 := HS.out.blk.cell 0
  unfold pV at s0
  have b3 : vs2.cell? ⟨P8, 3, none⟩ = some (.slice KA o.key.length kc) := (HS.out.get (i := 1) rfl : Blk vs2 P8 _ _).cell 3
  obtain ⟨i1, hi, hy0, hy1, hy2⟩ := info_parts Tryz.inf_pair13
  have HI := Hd (And.intro hi (And.intro hy0 (And.intro hy1 hy2)))
  clear hi hy0 hy1 hy2
  refine rC_ [0, 1, 2, 3, 4, 5, 6, 8, 9, 7, 10, 11, 12, 13] 14 (λ W => W.cell? ⟨b, 0, none⟩ = some (.pointer (some ⟨p, 0, none⟩)) /\ W.cell? ⟨P8, 3, none⟩ = some (.slice KA o.key.length kc)) ⟨s0, b3⟩ ?_
  refine canon_at (λ v0 hw => ?_)
  have hk : Keeps Nob vs2 v0 := by rw [hw]; exact Keeps.drew _ _
  have HC := Hd (And.intro (hk.cell s0 (λ h => h)) (hk.cell b3 (λ h => h)))
  replace HS := Hd (HS.out.nob hk)
  clear hw hk s0 b3
  iterate 9
   refine cR_ (v := ?_) rfl ?_ ?_
   rotate_left
   ·intro W hW
    try (obtain ⟨g1, g2⟩ : _ /\ _ := hW)
    go_simp
    try rfl
   simp only [Act.put, sa_, sb_, sc_]
  have FN := getNewX (p := p) (HKEY0.out.keeps HS.out.kept (λ _ _ _ h => h)) (HSM.out.mono (Nat.zero_le _))
  unfold pV at FN
  refine cA_ rfl ?_
  go_wp2_with (go_at_call 14; refine FN.mono ?_; rintro e v1 ⟨m, d, rfl, hf1, hf2, hX, hk⟩)
  refine ⟨.inr ⟨hk.cell HC.out.1 (λ h => h), hk.cell HC.out.2 (λ h => h)⟩, ?_⟩
  replace HC := Hd (And.intro (hk.cell HC.out.1 (λ h => h)) (hk.cell HC.out.2 (λ h => h)))
  obtain ⟨Sx, hSx⟩ : ∃ Sx : Nat -> Prop, Sx = (λ x => Fresh v0 v1 x /\ x ≠ m /\ x ≠ d) := ⟨_, rfl⟩
  rw [<- hSx] at hX
  replace HS := Hd (HS.out.pushG (i := 3) (o := gmO p ⟨m, d, Sx, Gc.new o.key, .slice KA o.key.length kc⟩) rfl hk hX (λ x hx => by
   rcases hx with rfl | rfl | hx
   ·exact hf1
   ·exact hf2
   ·have h2 : Sx x := hx
    rw [hSx] at h2; exact h2.1) (λ x hx => hx.imp id .inl))
  have HMN : Hid (MomI w k AR (gs ++ [⟨m, d, Sx, Gc.new o.key, .slice KA o.key.length kc⟩])) := Hd (HMO.out.snoc HSD.out ⟨_, _, _, rfl⟩ HKEY0.out rfl)
  clear hk FN hf1 hf2 hX hSx
  iterate 1
   refine cR_ (v := ?_) rfl ?_ ?_
   rotate_left
   ·intro W hW
    try (obtain ⟨g1, g2⟩ : _ /\ _ := hW)
    go_simp
    try rfl
   simp only [Act.put, sa_, sb_, sc_]
  refine cA_ rfl ?_
  go_wp2
  refine canon_at' (λ v2 hw => ?_)
  obtain ⟨N9, hN⟩ : ∃ N, v1.heap.size = N := ⟨_, rfl⟩
  rw [hN]
  have hk : Keeps Nob v1 v2 := by rw [hw]; exact Keeps.alloc _ _ _
  have HLIT : Hid (SlG v2 (λ _ => True) 3 (.slice (some ⟨N9, 0, none⟩) 1 1) 1 [.pointer (some ⟨m, 0, none⟩), .pointer none, .slice KA o.key.length kc]) := by
   rw [hw, <- hN]; exact Hd ((SlG.lit _ _ [.pointer (some ⟨m, 0, none⟩), .pointer none, .slice KA o.key.length kc] 3 1 _ (by simp) rfl (by decide)).mono (λ _ _ _ => trivial))
  refine ⟨.inr ⟨hk.cell HC.out.1 (λ h => h), hk.cell HC.out.2 (λ h => h)⟩, ?_⟩
  replace HC := Hd (And.intro (hk.cell HC.out.1 (λ h => h)) (hk.cell HC.out.2 (λ h => h)))
  replace HS := Hd (HS.out.nob hk)
  clear hw hk hN
  obtain ⟨hi, hy0, hy1, hy2⟩ := HI.out
  refine cA_ rfl ?_
  go_wp2_with (at_builtin; refine wpList_app rfl (.tmp 97) (.tmp 108) 63 rfl Tryz.underlying63 hi hy0 hy1 hy2 rfl (by decide) (v := .slice lA gs.length lc) (n := gs.length) (m := 1) (S := λ x => (Value.slice lA gs.length lc).ownBlock = some x) (T := λ _ => True) (xs := prsM gs) (news := [.pointer (some ⟨m, 0, none⟩), .pointer none, .slice KA o.key.length kc]) rfl ?d1 (y := .slice (some ⟨N9, 0, none⟩) 1 1) rfl ?d2 ?d3 ?d4 ?d5 ?d6)
  case d1 => exact HS.out.get (i := 0) rfl
  case d2 => exact HLIT.out
  case d3 => intro u hu; simp only [List.mem_cons, List.not_mem_nil, or_false] at hu; rcases hu with h | h | h <;> subst h <;> rfl
  case d4 => unfold maxLen; omega
  case d5 => omega
  case d6 =>
  intro v' w6 ho hk6 _
  obtain ⟨Av, cv, ev⟩ := ho.form
  subst ev
  have hown : ∀ x, (Value.slice lA gs.length lc).ownBlock = some x -> w.heap.size <= x := λ x hx => by
   obtain ⟨G, hJ, hF, _, hw2, _⟩ := HS.out
   exact hw2 0 _ rfl x hx
  have hb8 : Blk v2 P8 _ _ := HS.out.get (i := 1) rfl
  have hne8 : ¬ (Value.slice lA gs.length lc).ownBlock = some P8 := λ e => by
   obtain ⟨G, hJ, hF, _, hw2, _⟩ := HS.out
   exact hF.apart 0 1 _ _ rfl rfl (by decide) P8 e rfl
  have hneb : ¬ (Value.slice lA gs.length lc).ownBlock = some b := λ e => by
   obtain ⟨G, hJ, hF, _, hw2, _⟩ := HS.out
   have h1 : Own v2 _ 67 3 _ _ _ := HS.out.get (i := 0) rfl
   obtain ⟨cs, h2⟩ := h1.ownBlk e
   exact Blk.ne_ h2 hJ.blk (by decide) rfl
  refine ⟨.inr ⟨hk6.cell HC.out.1 hneb, hk6.cell HC.out.2 hne8⟩, ?_⟩
  have HS6 := Hd (HS.out.app (i := 0) rfl hk6 (ho.mono (λ b _ hb => hb.imp id (λ h => ⟨h.1, h.2⟩))))
  clear ho hk6 HC hown hb8 hne8 hneb hi hy0 hy1 hy2 HS
  iterate 1
   refine cR_ (v := ?_) rfl ?_ ?_
   rotate_left
   ·intro W hW
    try (obtain ⟨g1, g2⟩ : _ /\ _ := hW)
    go_simp
    try rfl
   simp only [Act.put, sa_, sb_, sc_]
  refine wpCanon_nil ?_
  go_wp2
  go_roundw
  case rel =>
   have h := HS6.out
   simp only [sb_, sc_] at h
   exact ⟨k + 1, by omega, by go_num, AR, gs ++ [⟨m, d, Sx, Gc.new o.key, .slice KA o.key.length kc⟩], _, _, by simp; omega, HMN.out.mono (by omega), HWB.out.mono (by omega), HRA.out, NEXT.out, HROOT.out, HSL.out, by rw [List.length_append, List.length_singleton, prsM_snoc, List.map_append]; exact h⟩
  case measure => simp [intOf]; omega
 have he7 : (o.kd == 7) = false := by simpa using h7
 have hneg : ¬ (0 <= o.kd /\ o.kd <= 6) := ht
 clear ht h7
 rcases Nat.eq_zero_or_pos gs.length with hz | hpos
 ·obtain rfl : gs = [] := List.length_eq_zero_iff.1 hz
  clear hz i2 hll
  rcases Int.lt_or_le o.kd 0 with h0 | h0
  ·as_aux_lemma =>
   clear hneg
   go_wp2
   go_roundw
   case rel => exact ⟨k + 1, by omega, by go_num, AR, [], _, _, Nat.zero_le _, HMO.out.mono (by omega), HWB.out.mono (by omega), HRA.out, NEXT.out, HROOT.out, HSL.out, HS.out.nob (Keeps.alloc _ _ _)⟩
   case measure => simp [intOf]; omega
  ·have h6 : ¬ o.kd <= 6 := λ h => hneg ⟨h0, h⟩
   clear hneg
   as_aux_lemma =>
   go_wp2
   go_roundw
   case rel => exact ⟨k + 1, by omega, by go_num, AR, [], _, _, Nat.zero_le _, HMO.out.mono (by omega), HWB.out.mono (by omega), HRA.out, NEXT.out, HROOT.out, HSL.out, HS.out.nob (Keeps.alloc _ _ _)⟩
   case measure => simp [intOf]; omega
 have PI := λ wx (hn : 1 <= (gs.length : Int)) => pick13_ (n := (gs.length : Int)) wx i2 hn
 unfold iV at PI
 obtain ⟨hx1, hx2⟩ := pk_range o.a (gs.length : Int) (by omega)
 replace PI := λ wx => PI wx (by omega)
 obtain ⟨n, hn⟩ : ∃ n : Nat, pk o.a (gs.length : Int) = (n : Int) := ⟨(pk o.a (gs.length : Int)).toNat, by omega⟩
 rw [hn] at PI hx1 hx2
 have hnl : n < gs.length := by omega
 clear hn hx1 hx2 i2
 obtain ⟨g, hg⟩ : ∃ g, gs[n]? = some g := ⟨_, List.getElem?_eq_getElem hnl⟩
 obtain ⟨gle, ⟨GA, gn, gc, hgk⟩, hgb0⟩ := HMO.out.each g (List.mem_of_getElem? hg)
 rw [hgk] at hgb0
 have how : Own wr _ 67 3 _ _ _ := HS.out.get (i := 0) rfl
 obtain ⟨hd1, hd1', hf⟩ := how.at_
 rcases hf with ⟨_, hd0⟩ | ⟨gb, o5, cur, rfl, hgb, hb, hcz, hx⟩
 ·exact absurd hd1 (by omega)
 clear how hd1 hd1' hgb hb hcz hx
 have hpos' : (0 : Int) < (gs.length : Int) := by omega
 have HDS := Hd hg
 have HGK : Hid (g.kv = .slice GA gn gc) := hgk
 have HLE : Hid (g.A.D.le k) := gle
 have HKG := Hd hgb0
 clear hg gle hgk hgb0
 rcases Int.lt_or_le o.kd 0 with h0 | h0
 ·clear hneg
  as_aux_lemma =>
  go_wp2_with fail
  clear q0 q1 q2 q3 q4 q5 q6 q7 q8 q9 q10 q11 q12
  refine calls_at (λ w1 hw => ?_)
  have hk1 : Keeps Nob wr w1 := by rw [hw]; exact (Keeps.alloc Nob _ _)
  obtain ⟨P8, hP8⟩ : ∃ N, wr.heap.size = N := ⟨_, rfl⟩
  have hb8 : Blk w1 P8 37 #[.int .i64 o.kd, .int .i64 o.a, .int .i64 o.b, .slice KA o.key.length kc, .slice VA o.val.length vc, .slice HA o.hi.length hc, .bool o.ch, .int .i64 o.nd.lvl, .slice X1 o.nd.high.length k1, .int .i64 o.nd.right, .slice X3 o.nd.keys.length k3, .slice X4 o.nd.vals.length k4, .slice X5 o.nd.kids.length k5] := by rw [hw, <- hP8]; exact Blk.new _ _ _
  clear hw
  replace HS := Hd (HS.out.blkPut (i := 1) rfl hk1 hb8 (by rw [hP8]; exact Nat.le_refl _))
  rw [hP8]
  refine (PI w1).mono ?_
  rintro e w' ⟨rfl, rfl⟩
  obtain ⟨p0, p1, p2⟩ := prsM_at gs n g HDS.out
  have how : Own w1 _ 67 3 _ _ _ := HS.out.get (i := 0) rfl
  obtain ⟨hd1, hd1', hf⟩ := how.at_
  rcases hf with ⟨hd0, _⟩ | ⟨gb', o5', cur', hrr, hgb, hb, hcz, hx⟩
  ·cases hd0
  cases hrr
  have r0 : w1.cell? ⟨gb, o5 + n * 3, none⟩ = some (.pointer (some ⟨g.mx, 0, none⟩)) := by rw [hb.cell]; exact hx _ _ p0
  have r1 : w1.cell? ⟨gb, o5 + n * 3 + 1, none⟩ = some (.pointer none) := by rw [hb.cell]; exact hx _ _ p1
  have r2 : w1.cell? ⟨gb, o5 + n * 3 + 2, none⟩ = some (.slice GA gn gc) := by rw [hb.cell, <- HGK.out]; exact hx _ _ p2
  clear how hd1 hd1' hgb hb hcz hx p0 p1 p2 hk1 hb8 hP8
  go_wp2_with fail
  clear r0 r1 r2
  refine calls_at (λ w2 hw => ?_)
  have hk2 : Keeps Nob w1 w2 := by rw [hw]; exact Keeps.alloc _ _ _
  obtain ⟨N, hN⟩ : ∃ N, w1.heap.size = N := ⟨_, rfl⟩
  have hb2 : Blk w2 N 67 #[.pointer (some ⟨g.mx, 0, none⟩), .pointer none, .slice GA gn gc] := by rw [hw, <- hN]; exact Blk.new _ _ _
  clear hw
  replace HS := Hd (HS.out.blkPut (i := 2) rfl hk2 hb2 (by rw [hN]; exact Nat.le_refl _))
  rw [hN]
  clear hk2 hb2 hN
  have FX := HS.out.getM (i := 3) rfl HDS.out (HLE.out.low (by omega))
  unfold pV at FX
  have HMS := λ S => HMO.out.step (S := S) HDS.out
  have htk := HMO.out.took HDS.out
  obtain ⟨⟨⟨za, zb⟩, ng⟩, hzz⟩ : ∃ z, stepG AR g.A = z := ⟨_, rfl⟩
  rw [hzz] at FX HMS htk
  simp only at FX HMS htk
  obtain ⟨rr, hrr⟩ : ∃ rr, ng.out = rr := ⟨_, rfl⟩
  rw [hrr] at htk
  obtain ⟨ov, ot, oe⟩ := rr
  simp only at htk
  obtain ⟨good, hgood⟩ : ∃ x, keyFit g.A.D.key = x := ⟨_, rfl⟩
  rw [hgood] at htk
  have HTK := Hd htk
  have HRR := Hd hrr
  have HGD := Hd hgood
  have HMS2 := Hd HMS
  clear hzz HMS HS htk hrr hgood
  refine FX.mono ?_
  rintro e w3 ⟨rfl, S, hs⟩
  simp only [sb_, sc_] at hs
  have HS := Hd hs
  have HNL : Hid ((gs.set n { g with A := ng, Sx := S })[n]? = some { g with A := ng, Sx := S }) := by show _ = _; rw [List.getElem?_set, if_pos rfl, if_pos hnl]
  have HPS : Hid (prsM (gs.set n { g with A := ng, Sx := S }) = prsM gs /\ (gs.set n { g with A := ng, Sx := S }).length = gs.length) := Hd ⟨prsM_set gs n g _ HDS.out rfl rfl, List.length_set⟩
  have HMS := Hd (HMS2.out S)
  have HNX : Hid (({ g with A := ng, Sx := S } : Gm).mx = g.mx /\ ({ g with A := ng, Sx := S } : Gm).A = ng) := Hd ⟨rfl, rfl⟩
  clear hs FX HMS2
  generalize ({ g with A := ng, Sx := S } : Gm) = g' at *
  go_wp2
  have s1 := HS.out.blk.cell 1
  unfold pV at s1
  obtain ⟨sd, hsd⟩ : ∃ x, soundZ AR = x := ⟨_, rfl⟩
  have HSD := Hd hsd
  clear hsd
  refine rC_ [0, 1, 2, 3, 4, 5, 6] 7 (λ W => W.cell? ⟨b, 1, none⟩ = some (.pointer (some ⟨q, 0, none⟩)) /\ True) ⟨s1, trivial⟩ ?_
  refine canon_at (λ vs0 hw => ?_)
  have hk : Keeps Nob w3 vs0 := by rw [hw]; exact Keeps.drew _ _
  have HC := Hd (hk.cell s1 (λ h => h))
  replace HS := Hd (HS.out.nob hk)
  clear hw hk s1
  iterate 4
   refine cR_ (v := ?_) rfl ?_ ?_
   rotate_left
   ·intro W hW
    try (obtain ⟨g1, _⟩ : _ /\ _ := hW)
    go_simp
    try rfl
   simp only [Act.put, sa_, sb_, sc_]
  refine cA_ rfl ?_
  go_wp2_with (go_at_call 13; refine (wideM _).mono ?_; rintro e vs1 ⟨rfl, hk⟩)
  refine ⟨.inr ⟨hk.cell HC.out (λ h => h), trivial⟩, ?_⟩
  replace HC := Hd (hk.cell HC.out (λ h => h))
  replace HS := Hd (HS.out.nob hk)
  clear hk
  have FS := HS.out.soundS
  rw [HSD.out] at FS
  unfold pV at FS
  refine cA_ rfl ?_
  go_wp2_with (go_at_call 25; refine FS.mono ?_; rintro e vs2 ⟨rfl, hk⟩)
  refine ⟨.inr ⟨hk.cell HC.out (λ h => h), trivial⟩, ?_⟩
  replace HS := Hd (HS.out.nob hk)
  clear hk HC FS
  iterate 1
   refine cR_ (v := ?_) rfl ?_ ?_
   rotate_left
   ·intro W hW
    try (obtain ⟨g1, _⟩ : _ /\ _ := hW)
    go_simp
    try rfl
   simp only [Act.put, sa_, sb_, sc_]
  refine wpCanon_nil ?_
  obtain rfl : sd = true := by rw [<- HSD.out]; exact HMO.out.snd (ne_nil_at HDS.out)
  have n0 : vs2.cell? ⟨N, 0, none⟩ = some (.pointer (some ⟨g.mx, 0, none⟩)) := (HS.out.get (i := 2) rfl : Blk vs2 N _ _).cell 0
  have FA := HS.out.askM (i := 3) rfl HNL.out
  rw [HNX.out.1, HNX.out.2, HRR.out] at FA
  unfold pV iV at FA
  simp only at FA
  go_wp2_with fail
  clear n0 HS
  refine FA.mono ?_
  rintro e w5 ⟨VA2, vc2, rfl, hbv, hs⟩
  have HS := Hd hs
  have HBV := Hd hbv
  have n2 : w5.cell? ⟨N, 2, none⟩ = some (.slice GA gn gc) := (HS.out.get (i := 2) rfl : Blk w5 N _ _).cell 2
  have FK := keyFitR (HKG.out.keeps HS.out.kept (λ _ _ _ h => h))
  rw [HGD.out] at FK
  clear hs hbv FA
  go_wp2_with fail
  clear n2
  refine FK.mono ?_
  rintro e w' ⟨rfl, rfl⟩
  clear FK
  rcases zb with _ | _
  ·as_aux_lemma =>
   go_wp2
   go_roundw
   case rel =>
    have h := HS.out
    rw [<- HPS.out.1, <- HPS.out.2] at h
    exact ⟨k + 1, by omega, by go_num, AR, gs.set n g', _, _, by rw [HPS.out.2]; omega, HMS.out, HWB.out.mono (by omega), HRA.out, NEXT.out, HROOT.out, HSL.out, by rw [HPS.out.2] at h ⊢; exact h⟩
   case measure => simp [intOf]; omega
  go_wp2
  have s1 := HS.out.blk.cell 1
  have n2 : w5.cell? ⟨N, 2, none⟩ = some (.slice GA gn gc) := (HS.out.get (i := 2) rfl : Blk w5 N _ _).cell 2
  unfold pV at s1
  have HFEW : Hid ((mapOf AR).length <= 4000000000000) := Hd (HMO.out.few (ne_nil_at HDS.out) HSL.out)
  refine rC_ [0, 1, 2, 3, 5, 6, 4, 7, 8, 9, 10, 11, 12] 13 (λ W => W.cell? ⟨b, 1, none⟩ = some (.pointer (some ⟨q, 0, none⟩)) /\ W.cell? ⟨N, 2, none⟩ = some (.slice GA gn gc)) ⟨s1, n2⟩ ?_
  refine canon_at (λ v0 hw => ?_)
  have hk : Keeps Nob w5 v0 := by rw [hw]; exact Keeps.drew _ _
  have HC := Hd (And.intro (hk.cell s1 (λ h => h)) (hk.cell n2 (λ h => h)))
  replace HS := Hd (HS.out.nob hk)
  replace HBV := Hd (HBV.out.keeps hk (λ _ _ _ h => h))
  clear hw hk s1 n2
  iterate 6
   refine cR_ (v := ?_) rfl ?_ ?_
   rotate_left
   ·intro W hW
    try (obtain ⟨g1, g2⟩ : _ /\ _ := hW)
    go_simp
    try rfl
   simp only [Act.put, sa_, sb_, sc_]
  have FM := HS.out.mapS HFEW.out
  unfold pV at FM
  refine cA_ rfl ?_
  go_wp2_with (go_at_call 19; refine FM.mono ?_; rintro e v1 ⟨mv, rfl, hm, hk⟩)
  refine ⟨.inr ⟨hk.cell HC.out.1 (λ h => h), hk.cell HC.out.2 (λ h => h)⟩, ?_⟩
  replace HC := Hd (And.intro (hk.cell HC.out.1 (λ h => h)) (hk.cell HC.out.2 (λ h => h)))
  replace HS := Hd (HS.out.nob hk)
  replace HBV := Hd (HBV.out.keeps hk (λ _ _ _ h => h))
  have FV := mapValueR hm (HKG.out.keeps HS.out.kept (λ _ _ _ h => h))
  clear hk FM hm
  obtain ⟨rv, rt, hvm⟩ : ∃ rv rt, valueM (mapOf AR) g.A.D.key = (rv, rt) := ⟨_, _, rfl⟩
  rw [hvm] at FV
  have HVM := Hd hvm
  clear hvm
  refine cA_ rfl ?_
  go_wp2_with (go_at_call 18; refine FV.mono ?_; rintro e v2 ⟨vv, rfl, hb, hk⟩)
  refine ⟨.inr ⟨hk.cell HC.out.1 (λ h => h), hk.cell HC.out.2 (λ h => h)⟩, ?_⟩
  replace HS := Hd (HS.out.nob hk)
  replace HBV := Hd (HBV.out.keeps hk (λ _ _ _ h => h))
  have HB2 := Hd hb
  clear hk FV hb HC
  iterate 5
   refine cR_ (v := ?_) rfl ?_ ?_
   rotate_left
   ·intro W hW
    try (obtain ⟨g1, g2⟩ : _ /\ _ := hW)
    go_simp
    try rfl
   simp only [Act.put, sa_, sb_, sc_]
  refine wpCanon_nil ?_
  have t1 := run_str HBV.out
  have t2 := run_str HB2.out
  try simp only at t1 t2
  have h := HTK.out (by trivial)
  rw [HVM.out] at h
  obtain ⟨h1, h2⟩ := h
  rcases good with _ | _
  ·as_aux_lemma =>
   obtain ⟨e1, e2⟩ := h2 rfl
   subst e1 e2
   clear h1 h2 t1 t2
   go_wp2
   go_roundw
   case rel =>
    have h := HS.out
    rw [<- HPS.out.1, <- HPS.out.2] at h
    exact ⟨k + 1, by omega, by go_num, AR, gs.set n g', _, _, by rw [HPS.out.2]; omega, HMS.out, HWB.out.mono (by omega), HRA.out, NEXT.out, HROOT.out, HSL.out, by rw [HPS.out.2] at h ⊢; exact h⟩
   case measure => simp [intOf]; omega
  obtain ⟨e1, e2⟩ := h1 rfl
  injection e2 with e2 e3
  subst e1 e2 e3
  clear h1 h2
  rcases rt with _ | _
  ·as_aux_lemma =>
   go_wp2
   go_roundw
   case rel =>
    have h := HS.out
    rw [<- HPS.out.1, <- HPS.out.2] at h
    exact ⟨k + 1, by omega, by go_num, AR, gs.set n g', _, _, by rw [HPS.out.2]; omega, HMS.out, HWB.out.mono (by omega), HRA.out, NEXT.out, HROOT.out, HSL.out, by rw [HPS.out.2] at h ⊢; exact h⟩
   case measure => simp [intOf]; omega
  ·as_aux_lemma =>
   go_wp2
   go_roundw
   case rel =>
    have h := HS.out
    rw [<- HPS.out.1, <- HPS.out.2] at h
    exact ⟨k + 1, by omega, by go_num, AR, gs.set n g', _, _, by rw [HPS.out.2]; omega, HMS.out, HWB.out.mono (by omega), HRA.out, NEXT.out, HROOT.out, HSL.out, by rw [HPS.out.2] at h ⊢; exact h⟩
   case measure => simp [intOf]; omega
 have h6 : ¬ o.kd <= 6 := λ h => hneg ⟨h0, h⟩
 clear hneg
 as_aux_lemma =>
 go_wp2_with fail
 clear q0 q1 q2 q3 q4 q5 q6 q7 q8 q9 q10 q11 q12
 refine calls_at (λ w1 hw => ?_)
 have hk1 : Keeps Nob wr w1 := by rw [hw]; exact (Keeps.alloc Nob _ _)
 obtain ⟨P8, hP8⟩ : ∃ N, wr.heap.size = N := ⟨_, rfl⟩
 have hb8 : Blk w1 P8 37 #[.int .i64 o.kd, .int .i64 o.a, .int .i64 o.b, .slice KA o.key.length kc, .slice VA o.val.length vc, .slice HA o.hi.length hc, .bool o.ch, .int .i64 o.nd.lvl, .slice X1 o.nd.high.length k1, .int .i64 o.nd.right, .slice X3 o.nd.keys.length k3, .slice X4 o.nd.vals.length k4, .slice X5 o.nd.kids.length k5] := by rw [hw, <- hP8]; exact Blk.new _ _ _
 clear hw
 replace HS := Hd (HS.out.blkPut (i := 1) rfl hk1 hb8 (by rw [hP8]; exact Nat.le_refl _))
 rw [hP8]
 refine (PI w1).mono ?_
 rintro e w' ⟨rfl, rfl⟩
 obtain ⟨p0, p1, p2⟩ := prsM_at gs n g HDS.out
 have how : Own w1 _ 67 3 _ _ _ := HS.out.get (i := 0) rfl
 obtain ⟨hd1, hd1', hf⟩ := how.at_
 rcases hf with ⟨hd0, _⟩ | ⟨gb', o5', cur', hrr, hgb, hb, hcz, hx⟩
 ·cases hd0
 cases hrr
 have r0 : w1.cell? ⟨gb, o5 + n * 3, none⟩ = some (.pointer (some ⟨g.mx, 0, none⟩)) := by rw [hb.cell]; exact hx _ _ p0
 have r1 : w1.cell? ⟨gb, o5 + n * 3 + 1, none⟩ = some (.pointer none) := by rw [hb.cell]; exact hx _ _ p1
 have r2 : w1.cell? ⟨gb, o5 + n * 3 + 2, none⟩ = some (.slice GA gn gc) := by rw [hb.cell, <- HGK.out]; exact hx _ _ p2
 clear how hd1 hd1' hgb hb hcz hx p0 p1 p2 hk1 hb8 hP8
 go_wp2_with fail
 clear r0 r1 r2
 refine calls_at (λ w2 hw => ?_)
 have hk2 : Keeps Nob w1 w2 := by rw [hw]; exact Keeps.alloc _ _ _
 obtain ⟨N, hN⟩ : ∃ N, w1.heap.size = N := ⟨_, rfl⟩
 have hb2 : Blk w2 N 67 #[.pointer (some ⟨g.mx, 0, none⟩), .pointer none, .slice GA gn gc] := by rw [hw, <- hN]; exact Blk.new _ _ _
 clear hw
 replace HS := Hd (HS.out.blkPut (i := 2) rfl hk2 hb2 (by rw [hN]; exact Nat.le_refl _))
 rw [hN]
 clear hk2 hb2 hN
 have FX := HS.out.getM (i := 3) rfl HDS.out (HLE.out.low (by omega))
 unfold pV at FX
 have HMS := λ S => HMO.out.step (S := S) HDS.out
 have htk := HMO.out.took HDS.out
 obtain ⟨⟨⟨za, zb⟩, ng⟩, hzz⟩ : ∃ z, stepG AR g.A = z := ⟨_, rfl⟩
 rw [hzz] at FX HMS htk
 simp only at FX HMS htk
 obtain ⟨rr, hrr⟩ : ∃ rr, ng.out = rr := ⟨_, rfl⟩
 rw [hrr] at htk
 obtain ⟨ov, ot, oe⟩ := rr
 simp only at htk
 obtain ⟨good, hgood⟩ : ∃ x, keyFit g.A.D.key = x := ⟨_, rfl⟩
 rw [hgood] at htk
 have HTK := Hd htk
 have HRR := Hd hrr
 have HGD := Hd hgood
 have HMS2 := Hd HMS
 clear hzz HMS HS htk hrr hgood
 refine FX.mono ?_
 rintro e w3 ⟨rfl, S, hs⟩
 simp only [sb_, sc_] at hs
 have HS := Hd hs
 have HNL : Hid ((gs.set n { g with A := ng, Sx := S })[n]? = some { g with A := ng, Sx := S }) := by show _ = _; rw [List.getElem?_set, if_pos rfl, if_pos hnl]
 have HPS : Hid (prsM (gs.set n { g with A := ng, Sx := S }) = prsM gs /\ (gs.set n { g with A := ng, Sx := S }).length = gs.length) := Hd ⟨prsM_set gs n g _ HDS.out rfl rfl, List.length_set⟩
 have HMS := Hd (HMS2.out S)
 have HNX : Hid (({ g with A := ng, Sx := S } : Gm).mx = g.mx /\ ({ g with A := ng, Sx := S } : Gm).A = ng) := Hd ⟨rfl, rfl⟩
 clear hs FX HMS2
 generalize ({ g with A := ng, Sx := S } : Gm) = g' at *
 go_wp2
 have s1 := HS.out.blk.cell 1
 unfold pV at s1
 obtain ⟨sd, hsd⟩ : ∃ x, soundZ AR = x := ⟨_, rfl⟩
 have HSD := Hd hsd
 clear hsd
 refine rC_ [0, 1, 2, 3, 4, 5, 6] 7 (λ W => W.cell? ⟨b, 1, none⟩ = some (.pointer (some ⟨q, 0, none⟩)) /\ True) ⟨s1, trivial⟩ ?_
 refine canon_at (λ vs0 hw => ?_)
 have hk : Keeps Nob w3 vs0 := by rw [hw]; exact Keeps.drew _ _
 have HC := Hd (hk.cell s1 (λ h => h))
 replace HS := Hd (HS.out.nob hk)
 clear hw hk s1
 iterate 4
  refine cR_ (v := ?_) rfl ?_ ?_
  rotate_left
  ·intro W hW
   try (obtain ⟨g1, _⟩ : _ /\ _ := hW)
   go_simp
   try rfl
  simp only [Act.put, sa_, sb_, sc_]
 refine cA_ rfl ?_
 go_wp2_with (go_at_call 13; refine (wideM _).mono ?_; rintro e vs1 ⟨rfl, hk⟩)
 refine ⟨.inr ⟨hk.cell HC.out (λ h => h), trivial⟩, ?_⟩
 replace HC := Hd (hk.cell HC.out (λ h => h))
 replace HS := Hd (HS.out.nob hk)
 clear hk
 have FS := HS.out.soundS
 rw [HSD.out] at FS
 unfold pV at FS
 refine cA_ rfl ?_
 go_wp2_with (go_at_call 25; refine FS.mono ?_; rintro e vs2 ⟨rfl, hk⟩)
 refine ⟨.inr ⟨hk.cell HC.out (λ h => h), trivial⟩, ?_⟩
 replace HS := Hd (HS.out.nob hk)
 clear hk HC FS
 iterate 1
  refine cR_ (v := ?_) rfl ?_ ?_
  rotate_left
  ·intro W hW
   try (obtain ⟨g1, _⟩ : _ /\ _ := hW)
   go_simp
   try rfl
  simp only [Act.put, sa_, sb_, sc_]
 refine wpCanon_nil ?_
 obtain rfl : sd = true := by rw [<- HSD.out]; exact HMO.out.snd (ne_nil_at HDS.out)
 have n0 : vs2.cell? ⟨N, 0, none⟩ = some (.pointer (some ⟨g.mx, 0, none⟩)) := (HS.out.get (i := 2) rfl : Blk vs2 N _ _).cell 0
 have FA := HS.out.askM (i := 3) rfl HNL.out
 rw [HNX.out.1, HNX.out.2, HRR.out] at FA
 unfold pV iV at FA
 simp only at FA
 go_wp2_with fail
 clear n0 HS
 refine FA.mono ?_
 rintro e w5 ⟨VA2, vc2, rfl, hbv, hs⟩
 have HS := Hd hs
 have HBV := Hd hbv
 have n2 : w5.cell? ⟨N, 2, none⟩ = some (.slice GA gn gc) := (HS.out.get (i := 2) rfl : Blk w5 N _ _).cell 2
 have FK := keyFitR (HKG.out.keeps HS.out.kept (λ _ _ _ h => h))
 rw [HGD.out] at FK
 clear hs hbv FA
 go_wp2_with fail
 clear n2
 refine FK.mono ?_
 rintro e w' ⟨rfl, rfl⟩
 clear FK
 rcases zb with _ | _
 ·as_aux_lemma =>
  go_wp2
  go_roundw
  case rel =>
   have h := HS.out
   rw [<- HPS.out.1, <- HPS.out.2] at h
   exact ⟨k + 1, by omega, by go_num, AR, gs.set n g', _, _, by rw [HPS.out.2]; omega, HMS.out, HWB.out.mono (by omega), HRA.out, NEXT.out, HROOT.out, HSL.out, by rw [HPS.out.2] at h ⊢; exact h⟩
  case measure => simp [intOf]; omega
 go_wp2
 have s1 := HS.out.blk.cell 1
 have n2 : w5.cell? ⟨N, 2, none⟩ = some (.slice GA gn gc) := (HS.out.get (i := 2) rfl : Blk w5 N _ _).cell 2
 unfold pV at s1
 have HFEW : Hid ((mapOf AR).length <= 4000000000000) := Hd (HMO.out.few (ne_nil_at HDS.out) HSL.out)
 refine rC_ [0, 1, 2, 3, 5, 6, 4, 7, 8, 9, 10, 11, 12] 13 (λ W => W.cell? ⟨b, 1, none⟩ = some (.pointer (some ⟨q, 0, none⟩)) /\ W.cell? ⟨N, 2, none⟩ = some (.slice GA gn gc)) ⟨s1, n2⟩ ?_
 refine canon_at (λ v0 hw => ?_)
 have hk : Keeps Nob w5 v0 := by rw [hw]; exact Keeps.drew _ _
 have HC := Hd (And.intro (hk.cell s1 (λ h => h)) (hk.cell n2 (λ h => h)))
 replace HS := Hd (HS.out.nob hk)
 replace HBV := Hd (HBV.out.keeps hk (λ _ _ _ h => h))
 clear hw hk s1 n2
 iterate 6
  refine cR_ (v := ?_) rfl ?_ ?_
  rotate_left
  ·intro W hW
   try (obtain ⟨g1, g2⟩ : _ /\ _ := hW)
   go_simp
   try rfl
  simp only [Act.put, sa_, sb_, sc_]
 have FM := HS.out.mapS HFEW.out
 unfold pV at FM
 refine cA_ rfl ?_
 go_wp2_with (go_at_call 19; refine FM.mono ?_; rintro e v1 ⟨mv, rfl, hm, hk⟩)
 refine ⟨.inr ⟨hk.cell HC.out.1 (λ h => h), hk.cell HC.out.2 (λ h => h)⟩, ?_⟩
 replace HC := Hd (And.intro (hk.cell HC.out.1 (λ h => h)) (hk.cell HC.out.2 (λ h => h)))
 replace HS := Hd (HS.out.nob hk)
 replace HBV := Hd (HBV.out.keeps hk (λ _ _ _ h => h))
 have FV := mapValueR hm (HKG.out.keeps HS.out.kept (λ _ _ _ h => h))
 clear hk FM hm
 obtain ⟨rv, rt, hvm⟩ : ∃ rv rt, valueM (mapOf AR) g.A.D.key = (rv, rt) := ⟨_, _, rfl⟩
 rw [hvm] at FV
 have HVM := Hd hvm
 clear hvm
 refine cA_ rfl ?_
 go_wp2_with (go_at_call 18; refine FV.mono ?_; rintro e v2 ⟨vv, rfl, hb, hk⟩)
 refine ⟨.inr ⟨hk.cell HC.out.1 (λ h => h), hk.cell HC.out.2 (λ h => h)⟩, ?_⟩
 replace HS := Hd (HS.out.nob hk)
 replace HBV := Hd (HBV.out.keeps hk (λ _ _ _ h => h))
 have HB2 := Hd hb
 clear hk FV hb HC
 iterate 5
  refine cR_ (v := ?_) rfl ?_ ?_
  rotate_left
  ·intro W hW
   try (obtain ⟨g1, g2⟩ : _ /\ _ := hW)
   go_simp
   try rfl
  simp only [Act.put, sa_, sb_, sc_]
 refine wpCanon_nil ?_
 have t1 := run_str HBV.out
 have t2 := run_str HB2.out
 try simp only at t1 t2
 have h := HTK.out (by trivial)
 rw [HVM.out] at h
 obtain ⟨h1, h2⟩ := h
 rcases good with _ | _
 ·as_aux_lemma =>
  obtain ⟨e1, e2⟩ := h2 rfl
  subst e1 e2
  clear h1 h2 t1 t2
  go_wp2
  go_roundw
  case rel =>
   have h := HS.out
   rw [<- HPS.out.1, <- HPS.out.2] at h
   exact ⟨k + 1, by omega, by go_num, AR, gs.set n g', _, _, by rw [HPS.out.2]; omega, HMS.out, HWB.out.mono (by omega), HRA.out, NEXT.out, HROOT.out, HSL.out, by rw [HPS.out.2] at h ⊢; exact h⟩
  case measure => simp [intOf]; omega
 obtain ⟨e1, e2⟩ := h1 rfl
 injection e2 with e2 e3
 subst e1 e2 e3
 clear h1 h2
 rcases rt with _ | _
 ·as_aux_lemma =>
  go_wp2
  go_roundw
  case rel =>
   have h := HS.out
   rw [<- HPS.out.1, <- HPS.out.2] at h
   exact ⟨k + 1, by omega, by go_num, AR, gs.set n g', _, _, by rw [HPS.out.2]; omega, HMS.out, HWB.out.mono (by omega), HRA.out, NEXT.out, HROOT.out, HSL.out, by rw [HPS.out.2] at h ⊢; exact h⟩
  case measure => simp [intOf]; omega
 ·as_aux_lemma =>
  go_wp2
  go_roundw
  case rel =>
   have h := HS.out
   rw [<- HPS.out.1, <- HPS.out.2] at h
   exact ⟨k + 1, by omega, by go_num, AR, gs.set n g', _, _, by rw [HPS.out.2]; omega, HMS.out, HWB.out.mono (by omega), HRA.out, NEXT.out, HROOT.out, HSL.out, by rw [HPS.out.2] at h ⊢; exact h⟩
  case measure => simp [intOf]; omega
end
end Go.Proofs.YtbhohohgojcapaaGreat
