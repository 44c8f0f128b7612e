import Derived.Test.YtbhohohgojcapaaGreatPkC7
set_option maxHeartbeats 64000000
namespace Go.Proofs.YtbhohohgojcapaaGreat
open Go.RowKit
section
variable {w : World} {G : Nat -> Prop} {b p q lo : Nat} {A : Ar} {o : O13} {cs : Array Value}
set_option maxRecDepth 100000 in
theorem turn_1 (hJ : J w G b p q A A) (ho : IsO13 w lo cs o) (hlo : ∀ x, x < lo -> ¬ G x) (hr : RightA A) (hsm : SmA 64 A) (hp : 1 <= A.sl.length) (hk : o.kd = 1) : Calls Tryz.prog 10 #[pV b, .agg cs] w λ e w' => e = .returned (.bool true) /\ J w' G b p q (turnM A o) (turnM A o) /\ Keeps G w w' := by
 obtain ⟨kd, a, b', key, val, hi, ch, nd⟩ := o
 obtain ⟨kv, vv, hv, c0, c1, c2, c3, c4, c5, rfl, ⟨hkey, hval, hhi, hnd⟩, ⟨i1, i2, i3⟩, z1, z2, z3, z4⟩ := ho
 simp only at hkey hval hhi hnd i1 i2 i3 z1 z2 z3 z4 hk
 obtain ⟨KA, kc, e1, _, _⟩ := hkey.form
 obtain ⟨VA, vc, e2, _, _⟩ := hval.form
 obtain ⟨HA, hc, e3, _, _⟩ := hhi.form
 subst e1 e2 e3
 obtain ⟨X1, xj1, f1, _, _⟩ := hnd.1.high.form
 obtain ⟨X3, xj3, f3, _, _⟩ := hnd.2.keys.form
 obtain ⟨X4, xj4, f4, _, _⟩ := hnd.2.vals.form
 obtain ⟨X5, xj5, f5, _, _⟩ := hnd.2.kids.form
 have f0 := hnd.1.lvl
 have f2 := hnd.1.right
 unfold iV at f0 f2
 subst f0 f1 f2 f3 f4 f5
 have PA := λ wx => pick13_ (n := (A.sl.length : Int)) wx i2 (by omega)
 obtain ⟨hx1, hx2⟩ := pk_range a (A.sl.length : Int) (by omega)
 have hbd := hJ.bound.1
 have hturn : ∀ T, turnM A ⟨kd, a, b', key, val, hi, ch, nd⟩ = T -> turnM A ⟨kd, a, b', key, val, hi, ch, nd⟩ = T := λ _ h => h
 skip
 obtain ⟨i, hi0⟩ : ∃ i : Nat, pk a (A.sl.length : Int) = (i : Int) := ⟨(pk a (A.sl.length : Int)).toNat, by omega⟩
 obtain ⟨s, hs⟩ : ∃ s, A.get ((i : Int) + 1) = some s := get_in (by omega) (by omega)
 have hm : opNd A ((i : Int) + 1) = s.nd := opNd_some hs
 have hrm : right s.nd = true := by rw [<- hm]; exact nd_of (P := λ n => right n = true) hJ right_zero hr _
 have hsm2 : NdSm 64 s.nd := by rw [<- hm]; exact nd_of (P := λ n => NdSm 64 n) hJ (zero_sm (by decide)) hsm _
 have HTU : Hid (∀ T, turnM A ⟨kd, a, b', key, val, hi, ch, nd⟩ = T -> turnM A ⟨kd, a, b', key, val, hi, ch, nd⟩ = T) := λ _ h => h
 have HAT : Hid (at13 A ⟨kd, a, b', key, val, hi, ch, nd⟩ = (i : Int) /\ nd13 A ⟨kd, a, b', key, val, hi, ch, nd⟩ = s.nd) := by
  have h1 : at13 A ⟨kd, a, b', key, val, hi, ch, nd⟩ = (i : Int) := hi0
  exact ⟨h1, by unfold nd13; rw [h1]; exact hm⟩
 rw [hi0] at PA hx1 hx2
 clear hi0 hm hturn HTU
 have HJ := Hd hJ
 have HKEY := Hd hkey
 have HVAL := Hd hval
 have HND := Hd hnd
 have HZ : Hid (Sm BIG 1 key.length /\ Sm BIG 1 val.length /\ NdSm BIG nd /\ I64 a) := ⟨z1, z2, z4, i2⟩
 have HLO := Hd hlo
 have HRM : Hid (right s.nd = true) := hrm
 have HSM : Hid (NdSm 64 s.nd) := hsm2
 have HS := Hd hs
 have hkl : nd.keys.length < 9223372036854775807 := by have h := z4.2.1.1; unfold Sm at h; omega
 have HKL : Hid (nd.keys.length < 9223372036854775807) := hkl
 clear hJ hkey hval hhi hnd i1 i2 i3 z1 z2 z3 z4 hlo hr hsm hrm hsm2 hs hkl
 subst hk
 unfold pV
 unfold iV at PA
 go_enter Tryz.func10, Tryz.ntmps10
 go_wp2_with fail
 refine code_at (λ w1 hw => ?_)
 have hk : Keeps Nob w w1 := by rw [hw]; exact Keeps.alloc _ _ _
 have HP : Hid (Blk w1 w.heap.size 37 #[.int .i64 1, .int .i64 a, .int .i64 b', .slice KA key.length kc, .slice VA val.length vc, .slice HA hi.length hc, .bool ch, .int .i64 nd.lvl, .slice X1 nd.high.length xj1, .int .i64 nd.right, .slice X3 nd.keys.length xj3, .slice X4 nd.vals.length xj4, .slice X5 nd.kids.length xj5]) := by show Blk _ _ _ _; rw [hw]; exact Blk.new _ _ _
 clear hw
 replace HKEY := Hd (HKEY.out.keeps hk (λ _ _ _ => id))
 replace HVAL := Hd (HVAL.out.keeps hk (λ _ _ _ => id))
 replace HND := Hd (HND.out.keeps hk (λ _ _ _ => id))
 have K := Hd hk
 clear hk
 obtain ⟨P, hP⟩ : ∃ P, w.heap.size = P := ⟨_, rfl⟩
 rw [hP] at HP ⊢
 have HPW : Hid (w.heap.size = P) := hP
 clear hP
 refine rC_ [0, 1, 2, 3, 4, 5, 6, 7, 8] 7 (λ W => W.cell? ⟨P, 1, none⟩ = some (.int .i64 a)) ?_ ?_
 ·exact HP.out.cell 1
 refine canon_at (λ w2 hw => ?_)
 have hk : Keeps Nob w1 w2 := by rw [hw]; exact Keeps.drew _ _
 clear hw
 replace HKEY := Hd (HKEY.out.keeps hk (λ _ _ _ => id))
 replace HVAL := Hd (HVAL.out.keeps hk (λ _ _ _ => id))
 replace HND := Hd (HND.out.keeps hk (λ _ _ _ => id))
 replace HP := Hd (HP.out.keeps hk id)
 replace K := tr_ K hk
 clear hk
 iterate 5
  refine cR_ (v := ?_) rfl ?_ ?_
  rotate_left
  ·intro W hW
   try (replace hW : World.cell? _ _ = some _ := hW)
   go_simp
   try rfl
  simp only [Act.put, sa_, sb_, sc_]
 have c0 : w2.cell? ⟨b, 1, none⟩ = some (.pointer (some ⟨q, 0, none⟩)) := (HJ.out.nob K.out).blk.cell 1
 refine cA_ rfl ?_
 go_wp2
 refine ⟨.inr (HP.out.cell 1), ?_⟩
 have FU := (HJ.out.nob K.out).usedR
 unfold pV iV at FU
 refine cA_ rfl ?_
 go_wp2_with (go_at_call 16; refine FU.mono ?_; rintro e wk ⟨rfl, rfl⟩)
 refine ⟨.inr (HP.out.cell 1), ?_⟩
 refine cA_ rfl ?_
 go_wp2_with (go_at_call 21; refine (PA _).mono ?_; rintro e wk ⟨rfl, rfl⟩)
 refine ⟨.inl (by kernel_rfl), ?_⟩
 iterate 1
  refine cR_ (v := ?_) rfl ?_ ?_
  rotate_left
  ·intro W hW
   try (replace hW : World.cell? _ _ = some _ := hW)
   go_simp
   try rfl
  simp only [Act.put, sa_, sb_, sc_]
 refine wpCanon_nil ?_
 clear FU PA
 obtain ⟨i', g, o, cc, n0, n1, n2, n3, n4, n5, D, hii, hil, hL, h1, h2, h3, h4, h5, h6, hnd⟩ := (HJ.out.nob K.out).slotY HS.out
 obtain rfl : i = i' := by omega
 generalize hm : s.nd = m at *
 have HM := Hd hm
 clear hm
 obtain ⟨Y1, yj1, f1, _, _⟩ := hnd.1.high.form
 obtain ⟨Y3, yj3, f3, _, _⟩ := hnd.2.keys.form
 obtain ⟨Y4, yj4, f4, _, _⟩ := hnd.2.vals.form
 obtain ⟨Y5, yj5, f5, _, _⟩ := hnd.2.kids.form
 have f0 := hnd.1.lvl
 have f2 := hnd.1.right
 unfold iV at f0 f2
 subst f0 f1 f2 f3 f4 f5
 have HMD := Hd hnd
 have hll : A.sl.length <= 9223372036854775807 := by omega
 have hlt : g < w2.heap.size := World.block_lt_of_cell? _ _ h1
 clear hii hnd
 have lP := HP.out.lt
 have qHP0 := HP.out.cell 0
 by_cases hl : m.lvl = 0
 skip
 ·have HL := Hd hl
  have HOK := Hd (with_ok HRM.out hl key)
  clear hl
  skip
  have hlt0 : (m.lvl == 0) = true := by rw [HL.out]; rfl
  have qHP3 := HP.out.cell 3
  have qHP4 := HP.out.cell 4
  go_wp2_with fail
  clear qHP0 qHP3 qHP4
  refine calls_at (λ w3 hw => ?_)
  have hk : Keeps Nob w2 w3 := by rw [hw]; exact Keeps.alloc _ _ _
  have HN : Hid (Blk w3 w2.heap.size 35 #[.int .i64 m.lvl, .slice Y1 m.high.length yj1, .int .i64 m.right, .slice Y3 m.keys.length yj3, .slice Y4 m.vals.length yj4, .slice Y5 m.kids.length yj5]) := by show Blk _ _ _ _; rw [hw]; exact Blk.new _ _ _
  clear hw
  replace HKEY := Hd (HKEY.out.keeps hk (λ _ _ _ => id))
  replace HVAL := Hd (HVAL.out.keeps hk (λ _ _ _ => id))
  replace HND := Hd (HND.out.keeps hk (λ _ _ _ => id))
  replace HP := Hd (HP.out.keeps hk id)
  replace HMD := Hd (HMD.out.keeps hk (λ _ _ _ => id))
  replace K := tr_ K hk
  clear hk
  clear h1 h2 h3 h4 h5 h6 hL lP hlt0
  refine (withR HMD.out HKEY.out HVAL.out HSM.out (HZ.out.1.mono (Nat.zero_le _)) (HZ.out.2.1.mono (Nat.zero_le _)) HOK.out.1 HOK.out.2).mono ?_
  rintro e w4 ⟨d0, d1, d2, d3, d4, d5, rfl, hO, hk⟩
  have hs9 := K.out.size
  obtain ⟨D1, dj1, f1⟩ := Own.form hO.1.high
  obtain ⟨D3, dj3, f3⟩ := OTx.form hO.2.keys
  obtain ⟨D4, dj4, f4⟩ := OTx.form hO.2.vals
  obtain ⟨D5, dj5, f5⟩ := Own.form hO.2.kids
  have f0 := hO.1.lvl
  have f2 := hO.1.right
  unfold iV at f0 f2
  subst f0 f1 f2 f3 f4 f5
  have HO : Hid (ONd w4 (Fresh w w4) _ _ _ _ _ _ (wth m key val)) := hO.mono (λ x _ hx => ⟨Nat.le_trans hs9 hx.1, hx.2⟩)
  clear hO hs9
  replace HKEY := Hd (HKEY.out.keeps hk (λ _ _ _ => id))
  replace HVAL := Hd (HVAL.out.keeps hk (λ _ _ _ => id))
  replace HND := Hd (HND.out.keeps hk (λ _ _ _ => id))
  replace HP := Hd (HP.out.keeps hk id)
  replace HMD := Hd (HMD.out.keeps hk (λ _ _ _ => id))
  replace HN := Hd (HN.out.keeps hk id)
  replace K := tr_ K hk
  clear hk
  have qHP0 := HP.out.cell 0
  have lHP := HP.out.lt
  go_wp2_with fail
  clear qHP0 lHP
  refine calls_at (λ w5 hw => ?_)
  have HWX : Hid (w4.heap.size <= w5.heap.size) := by show _ <= _; rw [hw]; simp
  have hk : Keeps Nob w4 w5 := by rw [hw]; exact Keeps.alloc _ _ _
  have HN9 : Hid (Blk w5 w4.heap.size 35 #[.int .i64 (wth m key val).lvl, .slice D1 (wth m key val).high.length dj1, .int .i64 (wth m key val).right, .slice D3 (wth m key val).keys.length dj3, .slice D4 (wth m key val).vals.length dj4, .slice D5 (wth m key val).kids.length dj5]) := by show Blk _ _ _ _; rw [hw]; exact Blk.new _ _ _
  clear hw
  replace HKEY := Hd (HKEY.out.keeps hk (λ _ _ _ => id))
  replace HVAL := Hd (HVAL.out.keeps hk (λ _ _ _ => id))
  replace HND := Hd (HND.out.keeps hk (λ _ _ _ => id))
  replace HP := Hd (HP.out.keeps hk id)
  replace HMD := Hd (HMD.out.keeps hk (λ _ _ _ => id))
  replace HN := Hd (HN.out.keeps hk id)
  replace HO := Hd (HO.out.keeps hk (λ _ _ _ => id))
  replace K := tr_ K hk
  clear hk
  have HWW : Hid (w4.heap.size <= w5.heap.size) := HWX.out
  have hop : IsOp w5 (Fresh w w4) #[.int .i64 7, .int .i64 i, .int .i64 0, .int .u64 0, .bool false, .int .i64 (wth m key val).lvl, .slice D1 (wth m key val).high.length dj1, .int .i64 (wth m key val).right, .slice D3 (wth m key val).keys.length dj3, .slice D4 (wth m key val).vals.length dj4, .slice D5 (wth m key val).kids.length dj5] ⟨7, (i : Int), 0, 0, false, wth m key val⟩ := ⟨⟨_, _, _, _, _, _, rfl, HO.out.r⟩, (by show I64 7; unfold I64; omega), (by show I64 (i : Int); unfold I64; omega), (by show I64 0; unfold I64; omega), (by show U64 0; unfold U64; omega), (with_sm (c := 0) (HSM.out.mono (by decide)) (HZ.out.1.mono (Nat.zero_le _)) (HZ.out.2.1.mono (Nat.zero_le _)))⟩
  refine (rawJ (HJ.out.shr K.out (λ _ _ _ h => h)) hop (λ x hx hg => hg.2 ⟨hx.1, Nat.lt_of_lt_of_le hx.2 HWW.out⟩)).mono ?_
  rintro e w9 ⟨rfl, hj, hk9⟩
  have HJ9 := Hd hj
  have K9 := Hd hk9
  clear hop hj hk9
  go_wp2
  go_ret
  refine ⟨rfl, ?_, (K.out.mono (λ _ _ h => h.elim)).trans K9.out (λ _ _ h => h.1)⟩
  rw [show turnM A _ = step A ⟨7, (i : Int), 0, 0, false, wth m key val⟩ from by unfold turnM; rw [if_neg (show ¬ (1 : Int) = 0 by decide), if_pos rfl, if_pos (by rw [HAT.out.2]; exact HL.out), HAT.out.1, HAT.out.2]]
  exact HJ9.out.weaken (λ _ h => h.1)
 ·have hlf : (m.lvl == 0) = false := by simpa using hl
  have HL := Hd hl
  clear hl
  go_wp2
  go_ret
  have K2 := Hd ((K.out.trans (Keeps.alloc Nob _ (.cells #[.int .i64 m.lvl, .slice Y1 m.high.length yj1, .int .i64 m.right, .slice Y3 m.keys.length yj3, .slice Y4 m.vals.length yj4, .slice Y5 m.kids.length yj5] 35)) (λ _ _ h => h)).mono (M' := G) (λ _ _ h => h.elim))
  refine ⟨rfl, ?_, K2.out⟩
  rw [show turnM A _ = A from by unfold turnM; rw [if_neg (show ¬ (1 : Int) = 0 by decide), if_pos rfl, if_neg (by rw [HAT.out.2]; exact HL.out)]]
  exact (HJ.out.nob K.out).nob (Keeps.alloc _ _ _)
set_option maxRecDepth 100000 in
theorem turn_2 (hJ : J w G b p q A A) (ho : IsO13 w lo cs o) (hlo : ∀ x, x < lo -> ¬ G x) (hr : RightA A) (hsm : SmA 64 A) (hp : 1 <= A.sl.length) (hk : o.kd = 2) : Calls Tryz.prog 10 #[pV b, .agg cs] w λ e w' => e = .returned (.bool true) /\ J w' G b p q (turnM A o) (turnM A o) /\ Keeps G w w' := by
 obtain ⟨kd, a, b', key, val, hi, ch, nd⟩ := o
 obtain ⟨kv, vv, hv, c0, c1, c2, c3, c4, c5, rfl, ⟨hkey, hval, hhi, hnd⟩, ⟨i1, i2, i3⟩, z1, z2, z3, z4⟩ := ho
 simp only at hkey hval hhi hnd i1 i2 i3 z1 z2 z3 z4 hk
 obtain ⟨KA, kc, e1, _, _⟩ := hkey.form
 obtain ⟨VA, vc, e2, _, _⟩ := hval.form
 obtain ⟨HA, hc, e3, _, _⟩ := hhi.form
 subst e1 e2 e3
 obtain ⟨X1, xj1, f1, _, _⟩ := hnd.1.high.form
 obtain ⟨X3, xj3, f3, _, _⟩ := hnd.2.keys.form
 obtain ⟨X4, xj4, f4, _, _⟩ := hnd.2.vals.form
 obtain ⟨X5, xj5, f5, _, _⟩ := hnd.2.kids.form
 have f0 := hnd.1.lvl
 have f2 := hnd.1.right
 unfold iV at f0 f2
 subst f0 f1 f2 f3 f4 f5
 have PA := λ wx => pick13_ (n := (A.sl.length : Int)) wx i2 (by omega)
 obtain ⟨hx1, hx2⟩ := pk_range a (A.sl.length : Int) (by omega)
 have hbd := hJ.bound.1
 have hturn : ∀ T, turnM A ⟨kd, a, b', key, val, hi, ch, nd⟩ = T -> turnM A ⟨kd, a, b', key, val, hi, ch, nd⟩ = T := λ _ h => h
 skip
 obtain ⟨i, hi0⟩ : ∃ i : Nat, pk a (A.sl.length : Int) = (i : Int) := ⟨(pk a (A.sl.length : Int)).toNat, by omega⟩
 obtain ⟨s, hs⟩ : ∃ s, A.get ((i : Int) + 1) = some s := get_in (by omega) (by omega)
 have hm : opNd A ((i : Int) + 1) = s.nd := opNd_some hs
 have hrm : right s.nd = true := by rw [<- hm]; exact nd_of (P := λ n => right n = true) hJ right_zero hr _
 have hsm2 : NdSm 64 s.nd := by rw [<- hm]; exact nd_of (P := λ n => NdSm 64 n) hJ (zero_sm (by decide)) hsm _
 have HTU : Hid (∀ T, turnM A ⟨kd, a, b', key, val, hi, ch, nd⟩ = T -> turnM A ⟨kd, a, b', key, val, hi, ch, nd⟩ = T) := λ _ h => h
 have HAT : Hid (at13 A ⟨kd, a, b', key, val, hi, ch, nd⟩ = (i : Int) /\ nd13 A ⟨kd, a, b', key, val, hi, ch, nd⟩ = s.nd) := by
  have h1 : at13 A ⟨kd, a, b', key, val, hi, ch, nd⟩ = (i : Int) := hi0
  exact ⟨h1, by unfold nd13; rw [h1]; exact hm⟩
 rw [hi0] at PA hx1 hx2
 clear hi0 hm hturn HTU
 have HJ := Hd hJ
 have HKEY := Hd hkey
 have HVAL := Hd hval
 have HND := Hd hnd
 have HZ : Hid (Sm BIG 1 key.length /\ Sm BIG 1 val.length /\ NdSm BIG nd /\ I64 a) := ⟨z1, z2, z4, i2⟩
 have HLO := Hd hlo
 have HRM : Hid (right s.nd = true) := hrm
 have HSM : Hid (NdSm 64 s.nd) := hsm2
 have HS := Hd hs
 have hkl : nd.keys.length < 9223372036854775807 := by have h := z4.2.1.1; unfold Sm at h; omega
 have HKL : Hid (nd.keys.length < 9223372036854775807) := hkl
 clear hJ hkey hval hhi hnd i1 i2 i3 z1 z2 z3 z4 hlo hr hsm hrm hsm2 hs hkl
 subst hk
 unfold pV
 unfold iV at PA
 go_enter Tryz.func10, Tryz.ntmps10
 go_wp2_with fail
 refine code_at (λ w1 hw => ?_)
 have hk : Keeps Nob w w1 := by rw [hw]; exact Keeps.alloc _ _ _
 have HP : Hid (Blk w1 w.heap.size 37 #[.int .i64 2, .int .i64 a, .int .i64 b', .slice KA key.length kc, .slice VA val.length vc, .slice HA hi.length hc, .bool ch, .int .i64 nd.lvl, .slice X1 nd.high.length xj1, .int .i64 nd.right, .slice X3 nd.keys.length xj3, .slice X4 nd.vals.length xj4, .slice X5 nd.kids.length xj5]) := by show Blk _ _ _ _; rw [hw]; exact Blk.new _ _ _
 clear hw
 replace HKEY := Hd (HKEY.out.keeps hk (λ _ _ _ => id))
 replace HVAL := Hd (HVAL.out.keeps hk (λ _ _ _ => id))
 replace HND := Hd (HND.out.keeps hk (λ _ _ _ => id))
 have K := Hd hk
 clear hk
 obtain ⟨P, hP⟩ : ∃ P, w.heap.size = P := ⟨_, rfl⟩
 rw [hP] at HP ⊢
 have HPW : Hid (w.heap.size = P) := hP
 clear hP
 refine rC_ [0, 1, 2, 3, 4, 5, 6, 7, 8] 7 (λ W => W.cell? ⟨P, 1, none⟩ = some (.int .i64 a)) ?_ ?_
 ·exact HP.out.cell 1
 refine canon_at (λ w2 hw => ?_)
 have hk : Keeps Nob w1 w2 := by rw [hw]; exact Keeps.drew _ _
 clear hw
 replace HKEY := Hd (HKEY.out.keeps hk (λ _ _ _ => id))
 replace HVAL := Hd (HVAL.out.keeps hk (λ _ _ _ => id))
 replace HND := Hd (HND.out.keeps hk (λ _ _ _ => id))
 replace HP := Hd (HP.out.keeps hk id)
 replace K := tr_ K hk
 clear hk
 iterate 5
  refine cR_ (v := ?_) rfl ?_ ?_
  rotate_left
  ·intro W hW
   try (replace hW : World.cell? _ _ = some _ := hW)
   go_simp
   try rfl
  simp only [Act.put, sa_, sb_, sc_]
 have c0 : w2.cell? ⟨b, 1, none⟩ = some (.pointer (some ⟨q, 0, none⟩)) := (HJ.out.nob K.out).blk.cell 1
 refine cA_ rfl ?_
 go_wp2
 refine ⟨.inr (HP.out.cell 1), ?_⟩
 have FU := (HJ.out.nob K.out).usedR
 unfold pV iV at FU
 refine cA_ rfl ?_
 go_wp2_with (go_at_call 16; refine FU.mono ?_; rintro e wk ⟨rfl, rfl⟩)
 refine ⟨.inr (HP.out.cell 1), ?_⟩
 refine cA_ rfl ?_
 go_wp2_with (go_at_call 21; refine (PA _).mono ?_; rintro e wk ⟨rfl, rfl⟩)
 refine ⟨.inl (by kernel_rfl), ?_⟩
 iterate 1
  refine cR_ (v := ?_) rfl ?_ ?_
  rotate_left
  ·intro W hW
   try (replace hW : World.cell? _ _ = some _ := hW)
   go_simp
   try rfl
  simp only [Act.put, sa_, sb_, sc_]
 refine wpCanon_nil ?_
 clear FU PA
 obtain ⟨i', g, o, cc, n0, n1, n2, n3, n4, n5, D, hii, hil, hL, h1, h2, h3, h4, h5, h6, hnd⟩ := (HJ.out.nob K.out).slotY HS.out
 obtain rfl : i = i' := by omega
 generalize hm : s.nd = m at *
 have HM := Hd hm
 clear hm
 obtain ⟨Y1, yj1, f1, _, _⟩ := hnd.1.high.form
 obtain ⟨Y3, yj3, f3, _, _⟩ := hnd.2.keys.form
 obtain ⟨Y4, yj4, f4, _, _⟩ := hnd.2.vals.form
 obtain ⟨Y5, yj5, f5, _, _⟩ := hnd.2.kids.form
 have f0 := hnd.1.lvl
 have f2 := hnd.1.right
 unfold iV at f0 f2
 subst f0 f1 f2 f3 f4 f5
 have HMD := Hd hnd
 have hll : A.sl.length <= 9223372036854775807 := by omega
 have hlt : g < w2.heap.size := World.block_lt_of_cell? _ _ h1
 clear hii hnd
 have lP := HP.out.lt
 have qHP0 := HP.out.cell 0
 by_cases hl : m.lvl = 0
 skip
 ·have HL := Hd hl
  have HOK := Hd (with_ok HRM.out hl key)
  clear hl
  skip
  have hlt0 : (m.lvl == 0) = true := by rw [HL.out]; rfl
  have qHP3 := HP.out.cell 3
  have qHP4 := HP.out.cell 4
  go_wp2_with fail
  clear qHP0 qHP3 qHP4
  refine calls_at (λ w3 hw => ?_)
  have hk : Keeps Nob w2 w3 := by rw [hw]; exact Keeps.alloc _ _ _
  have HN : Hid (Blk w3 w2.heap.size 35 #[.int .i64 m.lvl, .slice Y1 m.high.length yj1, .int .i64 m.right, .slice Y3 m.keys.length yj3, .slice Y4 m.vals.length yj4, .slice Y5 m.kids.length yj5]) := by show Blk _ _ _ _; rw [hw]; exact Blk.new _ _ _
  clear hw
  replace HKEY := Hd (HKEY.out.keeps hk (λ _ _ _ => id))
  replace HVAL := Hd (HVAL.out.keeps hk (λ _ _ _ => id))
  replace HND := Hd (HND.out.keeps hk (λ _ _ _ => id))
  replace HP := Hd (HP.out.keeps hk id)
  replace HMD := Hd (HMD.out.keeps hk (λ _ _ _ => id))
  replace K := tr_ K hk
  clear hk
  clear h1 h2 h3 h4 h5 h6 hL lP hlt0
  refine (withR HMD.out HKEY.out HVAL.out HSM.out (HZ.out.1.mono (Nat.zero_le _)) (HZ.out.2.1.mono (Nat.zero_le _)) HOK.out.1 HOK.out.2).mono ?_
  rintro e w4 ⟨d0, d1, d2, d3, d4, d5, rfl, hO, hk⟩
  have hs9 := K.out.size
  obtain ⟨D1, dj1, f1⟩ := Own.form hO.1.high
  obtain ⟨D3, dj3, f3⟩ := OTx.form hO.2.keys
  obtain ⟨D4, dj4, f4⟩ := OTx.form hO.2.vals
  obtain ⟨D5, dj5, f5⟩ := Own.form hO.2.kids
  have f0 := hO.1.lvl
  have f2 := hO.1.right
  unfold iV at f0 f2
  subst f0 f1 f2 f3 f4 f5
  have HO : Hid (ONd w4 (Fresh w w4) _ _ _ _ _ _ (wth m key val)) := hO.mono (λ x _ hx => ⟨Nat.le_trans hs9 hx.1, hx.2⟩)
  clear hO hs9
  replace HKEY := Hd (HKEY.out.keeps hk (λ _ _ _ => id))
  replace HVAL := Hd (HVAL.out.keeps hk (λ _ _ _ => id))
  replace HND := Hd (HND.out.keeps hk (λ _ _ _ => id))
  replace HP := Hd (HP.out.keeps hk id)
  replace HMD := Hd (HMD.out.keeps hk (λ _ _ _ => id))
  replace HN := Hd (HN.out.keeps hk id)
  replace K := tr_ K hk
  clear hk
  have qHP0 := HP.out.cell 0
  have lHP := HP.out.lt
  have qHP3 := HP.out.cell 3
  have qHN0 := HN.out.cell 0
  have qHN1 := HN.out.cell 1
  have qHN2 := HN.out.cell 2
  have qHN3 := HN.out.cell 3
  have qHN4 := HN.out.cell 4
  have qHN5 := HN.out.cell 5
  have lHN := HN.out.lt
  go_wp2_with fail
  clear qHP0 lHP qHP3 qHN0 qHN1 qHN2 qHN3 qHN4 qHN5 lHN
  have HKW : Hid (w.heap.size <= w4.heap.size) := K.out.size
  refine calls_at (λ w5 hw => ?_)
  have hk : Keeps Nob w4 w5 := by rw [hw]; exact Keeps.alloc _ _ _
  have HN9 : Hid (Blk w5 w4.heap.size 35 #[.int .i64 (wth m key val).lvl, .slice D1 (wth m key val).high.length dj1, .int .i64 (wth m key val).right, .slice D3 (wth m key val).keys.length dj3, .slice D4 (wth m key val).vals.length dj4, .slice D5 (wth m key val).kids.length dj5]) := by show Blk _ _ _ _; rw [hw]; exact Blk.new _ _ _
  clear hw
  replace HKEY := Hd (HKEY.out.keeps hk (λ _ _ _ => id))
  replace HVAL := Hd (HVAL.out.keeps hk (λ _ _ _ => id))
  replace HND := Hd (HND.out.keeps hk (λ _ _ _ => id))
  replace HP := Hd (HP.out.keeps hk id)
  replace HMD := Hd (HMD.out.keeps hk (λ _ _ _ => id))
  replace HN := Hd (HN.out.keeps hk id)
  replace HO := Hd (HO.out.keeps hk (λ _ _ _ => id))
  replace K := tr_ K hk
  clear hk
  obtain ⟨N9, hN9⟩ : ∃ N9, w4.heap.size = N9 := ⟨_, rfl⟩
  rw [hN9] at HN9 ⊢
  have HN9W : Hid (w4.heap.size = N9) := hN9
  clear hN9
  refine (withoutR HMD.out HKEY.out HSM.out).mono ?_
  rintro e w6 ⟨d0, d1, d2, d3, d4, d5, rfl, hO, hk⟩
  have hs9 := K.out.size
  obtain ⟨E1, ej1, f1⟩ := Own.form hO.1.high
  obtain ⟨E3, ej3, f3⟩ := OTx.form hO.2.keys
  obtain ⟨E4, ej4, f4⟩ := OTx.form hO.2.vals
  obtain ⟨E5, ej5, f5⟩ := Own.form hO.2.kids
  have f0 := hO.1.lvl
  have f2 := hO.1.right
  unfold iV at f0 f2
  subst f0 f1 f2 f3 f4 f5
  have HO2 : Hid (ONd w6 (Fresh w w6) _ _ _ _ _ _ (woutD m key)) := hO.mono (λ x _ hx => ⟨Nat.le_trans hs9 hx.1, hx.2⟩)
  skip
  clear hO hs9
  replace HKEY := Hd (HKEY.out.keeps hk (λ _ _ _ => id))
  replace HVAL := Hd (HVAL.out.keeps hk (λ _ _ _ => id))
  replace HND := Hd (HND.out.keeps hk (λ _ _ _ => id))
  replace HP := Hd (HP.out.keeps hk id)
  replace HMD := Hd (HMD.out.keeps hk (λ _ _ _ => id))
  replace HN := Hd (HN.out.keeps hk id)
  replace HO := Hd (HO.out.keeps hk (λ _ _ _ => id))
  replace HN9 := Hd (HN9.out.keeps hk id)
  replace K := tr_ K hk
  clear hk
  have HNe : Hid (∀ e cs, Blk w6 N9 e cs -> e = 35) := λ e cs hb => (hb.inj HN9.out).1
  have qHN90 := HN9.out.cell 0
  have qHN91 := HN9.out.cell 1
  have qHN92 := HN9.out.cell 2
  have qHN93 := HN9.out.cell 3
  have qHN94 := HN9.out.cell 4
  have qHN95 := HN9.out.cell 5
  have gHN90 := HN9.out.frozen 0
  have gHN91 := HN9.out.frozen 1
  have gHN92 := HN9.out.frozen 2
  have gHN93 := HN9.out.frozen 3
  have gHN94 := HN9.out.frozen 4
  have gHN95 := HN9.out.frozen 5
  go_wp2_with fail
  clear qHN90 qHN91 qHN92 qHN93 qHN94 qHN95 gHN90 gHN91 gHN92 gHN93 gHN94 gHN95
  refine calls_at (λ w7 hw => ?_)
  have hk : Keeps (λ x => x = N9) w6 w7 := by rw [hw]; exact (((((Keeps.setCell _ (M := λ x => x = N9) rfl _).setCell' (λ _ => rfl) _).setCell' (λ _ => rfl) _).setCell' (λ _ => rfl) _).setCell' (λ _ => rfl) _).setCell' (λ _ => rfl) _
  have HWW : Hid (w6.heap.size = w7.heap.size) := by show _ = _; rw [hw]; simp
  clear hw
  replace HO2 := Hd (ONd.keepsB HO2.out HN9.out ⟨by decide, by decide, by decide⟩ hk)
  have hwN : w.heap.size <= N9 := by have h := HN9W.out; have h2 := HKW.out; omega
  replace K := Hd (K.out.trans hk (λ x hx e => by have e2 : x = N9 := e; omega))
  clear hk hwN HNe
  have hop : IsOp w7 (Fresh w w6) #[.int .i64 7, .int .i64 i, .int .i64 0, .int .u64 0, .bool false, .int .i64 (woutD m key).lvl, .slice E1 (woutD m key).high.length ej1, .int .i64 (woutD m key).right, .slice E3 (woutD m key).keys.length ej3, .slice E4 (woutD m key).vals.length ej4, .slice E5 (woutD m key).kids.length ej5] ⟨7, (i : Int), 0, 0, false, woutD m key⟩ := ⟨⟨_, _, _, _, _, _, rfl, HO2.out.r⟩, (by show I64 7; unfold I64; omega), (by show I64 (i : Int); unfold I64; omega), (by show I64 0; unfold I64; omega), (by show U64 0; unfold U64; omega), (wout_sm (HSM.out.mono (Nat.zero_le _)))⟩
  refine (rawJ (HJ.out.shr K.out (λ _ _ _ h => h)) hop (λ x hx hg => hg.2 ⟨hx.1, Nat.lt_of_lt_of_le hx.2 (Nat.le_of_eq HWW.out)⟩)).mono ?_
  rintro e w9 ⟨rfl, hj, hk9⟩
  have HJ9 := Hd hj
  have K9 := Hd hk9
  clear hop hj hk9
  go_wp2
  go_ret
  refine ⟨rfl, ?_, (K.out.mono (λ _ _ h => h.elim)).trans K9.out (λ _ _ h => h.1)⟩
  rw [show turnM A _ = step A ⟨7, (i : Int), 0, 0, false, woutD m key⟩ from by unfold turnM; rw [if_neg (show ¬ (2 : Int) = 0 by decide), if_neg (show ¬ (2 : Int) = 1 by decide), if_pos rfl, if_pos (by rw [HAT.out.2]; exact HL.out), HAT.out.1, HAT.out.2]]
  exact HJ9.out.weaken (λ _ h => h.1)
 ·have hlf : (m.lvl == 0) = false := by simpa using hl
  have HL := Hd hl
  clear hl
  go_wp2
  go_ret
  have K2 := Hd ((K.out.trans (Keeps.alloc Nob _ (.cells #[.int .i64 m.lvl, .slice Y1 m.high.length yj1, .int .i64 m.right, .slice Y3 m.keys.length yj3, .slice Y4 m.vals.length yj4, .slice Y5 m.kids.length yj5] 35)) (λ _ _ h => h)).mono (M' := G) (λ _ _ h => h.elim))
  refine ⟨rfl, ?_, K2.out⟩
  rw [show turnM A _ = A from by unfold turnM; rw [if_neg (show ¬ (2 : Int) = 0 by decide), if_neg (show ¬ (2 : Int) = 1 by decide), if_pos rfl, if_neg (by rw [HAT.out.2]; exact HL.out)]]
  exact (HJ.out.nob K.out).nob (Keeps.alloc _ _ _)
end
end Go.Proofs.YtbhohohgojcapaaGreat
