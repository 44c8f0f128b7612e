import Derived.Test.YtbhohohgojcapaaGreatPkC7
set_option maxHeartbeats 64000000
namespace Go.Proofs.YtbhohohgojcapaaGreat
open Go.RowKit
section
variable {w : World} {G : Nat -> Prop} {b p q lo : Nat} {A : Ar} {o : O13} {cs : Array Value}
set_option maxRecDepth 100000 in
theorem turn_3 (hJ : J w G b p q A A) (ho : IsO13 w lo cs o) (hlo : ∀ x, x < lo -> ¬ G x) (hr : RightA A) (hsm : SmA 64 A) (hp : 1 <= A.sl.length) (hk : o.kd = 3) : Calls Tryz.prog 10 #[pV b, .agg cs] w λ e w' => e = .returned (.bool true) /\ J w' G b p q (turnM A o) (turnM A o) /\ Keeps G w w' := by
 obtain ⟨kd, a, b', key, val, hi, ch, nd⟩ := o
 obtain ⟨kv, vv, hv, c0, c1, c2, c3, c4, c5, rfl, ⟨hkey, hval, hhi, hnd⟩, ⟨i1, i2, i3⟩, z1, z2, z3, z4⟩ := ho
 simp only at hkey hval hhi hnd i1 i2 i3 z1 z2 z3 z4 hk
 obtain ⟨KA, kc, e1, _, _⟩ := hkey.form
 obtain ⟨VA, vc, e2, _, _⟩ := hval.form
 obtain ⟨HA, hc, e3, _, _⟩ := hhi.form
 subst e1 e2 e3
 obtain ⟨X1, xj1, f1, _, _⟩ := hnd.1.high.form
 obtain ⟨X3, xj3, f3, _, _⟩ := hnd.2.keys.form
 obtain ⟨X4, xj4, f4, _, _⟩ := hnd.2.vals.form
 obtain ⟨X5, xj5, f5, _, _⟩ := hnd.2.kids.form
 have f0 := hnd.1.lvl
 have f2 := hnd.1.right
 unfold iV at f0 f2
 subst f0 f1 f2 f3 f4 f5
 have PA := λ wx => pick13_ (n := (A.sl.length : Int)) wx i2 (by omega)
 obtain ⟨hx1, hx2⟩ := pk_range a (A.sl.length : Int) (by omega)
 have hbd := hJ.bound.1
 have hturn : ∀ T, turnM A ⟨kd, a, b', key, val, hi, ch, nd⟩ = T -> turnM A ⟨kd, a, b', key, val, hi, ch, nd⟩ = T := λ _ h => h
 skip
 obtain ⟨i, hi0⟩ : ∃ i : Nat, pk a (A.sl.length : Int) = (i : Int) := ⟨(pk a (A.sl.length : Int)).toNat, by omega⟩
 obtain ⟨s, hs⟩ : ∃ s, A.get ((i : Int) + 1) = some s := get_in (by omega) (by omega)
 have hm : opNd A ((i : Int) + 1) = s.nd := opNd_some hs
 have hrm : right s.nd = true := by rw [<- hm]; exact nd_of (P := λ n => right n = true) hJ right_zero hr _
 have hsm2 : NdSm 64 s.nd := by rw [<- hm]; exact nd_of (P := λ n => NdSm 64 n) hJ (zero_sm (by decide)) hsm _
 have HTU : Hid (∀ T, turnM A ⟨kd, a, b', key, val, hi, ch, nd⟩ = T -> turnM A ⟨kd, a, b', key, val, hi, ch, nd⟩ = T) := λ _ h => h
 have HAT : Hid (at13 A ⟨kd, a, b', key, val, hi, ch, nd⟩ = (i : Int) /\ nd13 A ⟨kd, a, b', key, val, hi, ch, nd⟩ = s.nd) := by
  have h1 : at13 A ⟨kd, a, b', key, val, hi, ch, nd⟩ = (i : Int) := hi0
  exact ⟨h1, by unfold nd13; rw [h1]; exact hm⟩
 rw [hi0] at PA hx1 hx2
 clear hi0 hm hturn HTU
 have HJ := Hd hJ
 have HKEY := Hd hkey
 have HVAL := Hd hval
 have HND := Hd hnd
 have HZ : Hid (Sm BIG 1 key.length /\ Sm BIG 1 val.length /\ NdSm BIG nd /\ I64 a) := ⟨z1, z2, z4, i2⟩
 have HLO := Hd hlo
 have HRM : Hid (right s.nd = true) := hrm
 have HSM : Hid (NdSm 64 s.nd) := hsm2
 have HS := Hd hs
 have hkl : nd.keys.length < 9223372036854775807 := by have h := z4.2.1.1; unfold Sm at h; omega
 have HKL : Hid (nd.keys.length < 9223372036854775807) := hkl
 clear hJ hkey hval hhi hnd i1 i2 i3 z1 z2 z3 z4 hlo hr hsm hrm hsm2 hs hkl
 subst hk
 unfold pV
 unfold iV at PA
 go_enter Tryz.func10, Tryz.ntmps10
 go_wp2_with fail
 refine code_at (λ w1 hw => ?_)
 have hk : Keeps Nob w w1 := by rw [hw]; exact Keeps.alloc _ _ _
 have HP : Hid (Blk w1 w.heap.size 37 #[.int .i64 3, .int .i64 a, .int .i64 b', .slice KA key.length kc, .slice VA val.length vc, .slice HA hi.length hc, .bool ch, .int .i64 nd.lvl, .slice X1 nd.high.length xj1, .int .i64 nd.right, .slice X3 nd.keys.length xj3, .slice X4 nd.vals.length xj4, .slice X5 nd.kids.length xj5]) := by show Blk _ _ _ _; rw [hw]; exact Blk.new _ _ _
 clear hw
 replace HKEY := Hd (HKEY.out.keeps hk (λ _ _ _ => id))
 replace HVAL := Hd (HVAL.out.keeps hk (λ _ _ _ => id))
 replace HND := Hd (HND.out.keeps hk (λ _ _ _ => id))
 have K := Hd hk
 clear hk
 obtain ⟨P, hP⟩ : ∃ P, w.heap.size = P := ⟨_, rfl⟩
 rw [hP] at HP ⊢
 have HPW : Hid (w.heap.size = P) := hP
 clear hP
 refine rC_ [0, 1, 2, 3, 4, 5, 6, 7, 8] 7 (λ W => W.cell? ⟨P, 1, none⟩ = some (.int .i64 a)) ?_ ?_
 ·exact HP.out.cell 1
 refine canon_at (λ w2 hw => ?_)
 have hk : Keeps Nob w1 w2 := by rw [hw]; exact Keeps.drew _ _
 clear hw
 replace HKEY := Hd (HKEY.out.keeps hk (λ _ _ _ => id))
 replace HVAL := Hd (HVAL.out.keeps hk (λ _ _ _ => id))
 replace HND := Hd (HND.out.keeps hk (λ _ _ _ => id))
 replace HP := Hd (HP.out.keeps hk id)
 replace K := tr_ K hk
 clear hk
 iterate 5
  refine cR_ (v := ?_) rfl ?_ ?_
  rotate_left
  ·intro W hW
   try (replace hW : World.cell? _ _ = some _ := hW)
   go_simp
   try rfl
  simp only [Act.put, sa_, sb_, sc_]
 have c0 : w2.cell? ⟨b, 1, none⟩ = some (.pointer (some ⟨q, 0, none⟩)) := (HJ.out.nob K.out).blk.cell 1
 refine cA_ rfl ?_
 go_wp2
 refine ⟨.inr (HP.out.cell 1), ?_⟩
 have FU := (HJ.out.nob K.out).usedR
 unfold pV iV at FU
 refine cA_ rfl ?_
 go_wp2_with (go_at_call 16; refine FU.mono ?_; rintro e wk ⟨rfl, rfl⟩)
 refine ⟨.inr (HP.out.cell 1), ?_⟩
 refine cA_ rfl ?_
 go_wp2_with (go_at_call 21; refine (PA _).mono ?_; rintro e wk ⟨rfl, rfl⟩)
 refine ⟨.inl (by kernel_rfl), ?_⟩
 iterate 1
  refine cR_ (v := ?_) rfl ?_ ?_
  rotate_left
  ·intro W hW
   try (replace hW : World.cell? _ _ = some _ := hW)
   go_simp
   try rfl
  simp only [Act.put, sa_, sb_, sc_]
 refine wpCanon_nil ?_
 clear FU PA
 obtain ⟨i', g, o, cc, n0, n1, n2, n3, n4, n5, D, hii, hil, hL, h1, h2, h3, h4, h5, h6, hnd⟩ := (HJ.out.nob K.out).slotY HS.out
 obtain rfl : i = i' := by omega
 generalize hm : s.nd = m at *
 have HM := Hd hm
 clear hm
 obtain ⟨Y1, yj1, f1, _, _⟩ := hnd.1.high.form
 obtain ⟨Y3, yj3, f3, _, _⟩ := hnd.2.keys.form
 obtain ⟨Y4, yj4, f4, _, _⟩ := hnd.2.vals.form
 obtain ⟨Y5, yj5, f5, _, _⟩ := hnd.2.kids.form
 have f0 := hnd.1.lvl
 have f2 := hnd.1.right
 unfold iV at f0 f2
 subst f0 f1 f2 f3 f4 f5
 have HMD := Hd hnd
 have hll : A.sl.length <= 9223372036854775807 := by omega
 have hlt : g < w2.heap.size := World.block_lt_of_cell? _ _ h1
 clear hii hnd
 have lP := HP.out.lt
 have qHP0 := HP.out.cell 0
 have hwrp : IntKind.i64.wrap ((A.sl.length : Int) + 1) = (A.sl.length : Int) + 1 := wrap_in _ (by omega) (by omega)
 have HWR := Hd hwrp
 clear hwrp
 go_wp2_with fail
 clear qHP0
 refine code_at (λ w3 hw => ?_)
 have hk : Keeps Nob w2 w3 := by rw [hw]; exact Keeps.alloc _ _ _
 have HN : Hid (Blk w3 w2.heap.size 35 #[.int .i64 m.lvl, .slice Y1 m.high.length yj1, .int .i64 m.right, .slice Y3 m.keys.length yj3, .slice Y4 m.vals.length yj4, .slice Y5 m.kids.length yj5]) := by show Blk _ _ _ _; rw [hw]; exact Blk.new _ _ _
 clear hw
 replace HKEY := Hd (HKEY.out.keeps hk (λ _ _ _ => id))
 replace HVAL := Hd (HVAL.out.keeps hk (λ _ _ _ => id))
 replace HND := Hd (HND.out.keeps hk (λ _ _ _ => id))
 replace HP := Hd (HP.out.keeps hk id)
 replace HMD := Hd (HMD.out.keeps hk (λ _ _ _ => id))
 replace K := tr_ K hk
 clear hk
 clear h1 h2 h3 h4 h5 h6 hL lP
 obtain ⟨N, hN⟩ : ∃ N, w2.heap.size = N := ⟨_, rfl⟩
 rw [hN] at HN ⊢
 clear hN
 obtain ⟨wr, hwr⟩ : ∃ x, x = w3 := ⟨_, rfl⟩
 subst hwr
 refine wp_region_treV (X := Nat × Nat × Array Value × Array Value × Value) (λ x => [(some 83, .agg #[.int .i64 m.lvl, .slice Y1 m.high.length yj1, .int .i64 m.right, .slice Y3 m.keys.length yj3, .slice Y4 m.vals.length yj4, .slice Y5 m.kids.length yj5]), (some 84, .pointer (some ⟨b, 0, none⟩)), (some 85, .pointer (some ⟨b, 0, none⟩)), (some 86, .pointer (some ⟨b, 1, none⟩)), (some 87, .pointer (some ⟨q, 0, none⟩)), (some 88, .int .i64 A.sl.length), (some 89, .int .i64 ((A.sl.length : Int) + 1)), (some 90, .tuple #[.agg x.2.2.1, .agg x.2.2.2.1, x.2.2.2.2]), (some 82, .tuple #[.agg x.2.2.1, .agg x.2.2.2.1, x.2.2.2.2]), (some 91, .agg x.2.2.1), (some 92, .agg x.2.2.2.1), (some 93, x.2.2.2.2), (some 10, .pointer (some ⟨x.1, 0, none⟩)), (some 11, .pointer (some ⟨x.2.1, 0, none⟩)), (some 12, x.2.2.2.2)]) (λ x w' => (∃ d0 d1 d2 d3 d4 d5 e0 e1 e2 e3 e4 e5, x.2.2.1 = #[d0, d1, d2, d3, d4, d5] /\ x.2.2.2.1 = #[e0, e1, e2, e3, e4, e5] /\ ONd w' (Fresh wr w') d0 d1 d2 d3 d4 d5 (spL m ((A.sl.length : Int) + 1)) /\ ONd w' (Fresh wr w') e0 e1 e2 e3 e4 e5 (spR m)) /\ OBy w' (Fresh wr w') x.2.2.2.2 (spK m) /\ Blk w' x.1 35 x.2.2.1 /\ Blk w' x.2.1 35 x.2.2.2.1 /\ Keeps Nob wr w' /\ (wr.heap.size <= x.1 /\ wr.heap.size <= x.2.1) /\ x.1 ≠ x.2.1) (Wlk.reads [0, 1, 2, 3, 4] (.three 5 (Wlk.reads [6] (.three 7 (Wlk.reads [8, 9, 10, 11] (.two 12 (.act 13 (.act 14 (.act 15 (Wlk.reads [16] (.nil))))) 13 (.act 12 (.act 14 (.act 15 (Wlk.reads [16] (.nil))))))) 12 (.two 7 (Wlk.reads [8, 9, 10, 11] (.act 13 (.act 14 (.act 15 (Wlk.reads [16] (.nil)))))) 13 (.act 7 (Wlk.reads [8, 9, 10, 11] (.act 14 (.act 15 (Wlk.reads [16] (.nil))))))) 13 (.two 7 (Wlk.reads [8, 9, 10, 11] (.act 12 (.act 14 (.act 15 (Wlk.reads [16] (.nil)))))) 12 (.act 7 (Wlk.reads [8, 9, 10, 11] (.act 14 (.act 15 (Wlk.reads [16] (.nil))))))))) 12 (.two 5 (Wlk.reads [6] (.two 7 (Wlk.reads [8, 9, 10, 11] (.act 13 (.act 14 (.act 15 (Wlk.reads [16] (.nil)))))) 13 (.act 7 (Wlk.reads [8, 9, 10, 11] (.act 14 (.act 15 (Wlk.reads [16] (.nil)))))))) 13 (.act 5 (Wlk.reads [6] (.act 7 (Wlk.reads [8, 9, 10, 11] (.act 14 (.act 15 (Wlk.reads [16] (.nil))))))))) 13 (.two 5 (Wlk.reads [6] (.two 7 (Wlk.reads [8, 9, 10, 11] (.act 12 (.act 14 (.act 15 (Wlk.reads [16] (.nil)))))) 12 (.act 7 (Wlk.reads [8, 9, 10, 11] (.act 14 (.act 15 (Wlk.reads [16] (.nil)))))))) 12 (.act 5 (Wlk.reads [6] (.act 7 (Wlk.reads [8, 9, 10, 11] (.act 14 (.act 15 (Wlk.reads [16] (.nil))))))))))) 14 (λ W => W.cell? ⟨N, 0, none⟩ = some (.int .i64 m.lvl) /\ W.cell? ⟨N, 1, none⟩ = some (.slice Y1 m.high.length yj1) /\ W.cell? ⟨N, 2, none⟩ = some (.int .i64 m.right) /\ W.cell? ⟨N, 3, none⟩ = some (.slice Y3 m.keys.length yj3) /\ W.cell? ⟨N, 4, none⟩ = some (.slice Y4 m.vals.length yj4) /\ W.cell? ⟨N, 5, none⟩ = some (.slice Y5 m.kids.length yj5) /\ W.cell? ⟨b, 1, none⟩ = some (.pointer (some ⟨q, 0, none⟩))) (by kernel_rfl) (by kernel_rfl) (of_decide_eq_true (by kernel_rfl)) (by kernel_rfl) (λ _ _ d _ _ h => by cases d <;> exact h) ?_ ?_ ?_
 ·exact ⟨HN.out.cell 0, HN.out.cell 1, HN.out.cell 2, HN.out.cell 3, HN.out.cell 4, HN.out.cell 5, (HJ.out.nob K.out).blk.cell 1⟩
 ·refine tre_at (λ w4 hw => ?_)
  have hk : Keeps Nob wr w4 := by rw [hw]; exact Keeps.drew _ _
  clear hw
  have HC : Hid (w4.cell? ⟨N, 0, none⟩ = some (.int .i64 m.lvl) /\ w4.cell? ⟨N, 1, none⟩ = some (.slice Y1 m.high.length yj1) /\ w4.cell? ⟨N, 2, none⟩ = some (.int .i64 m.right) /\ w4.cell? ⟨N, 3, none⟩ = some (.slice Y3 m.keys.length yj3) /\ w4.cell? ⟨N, 4, none⟩ = some (.slice Y4 m.vals.length yj4) /\ w4.cell? ⟨N, 5, none⟩ = some (.slice Y5 m.kids.length yj5) /\ w4.cell? ⟨b, 1, none⟩ = some (.pointer (some ⟨q, 0, none⟩))) := ⟨hk.cell (HN.out.cell 0) id, hk.cell (HN.out.cell 1) id, hk.cell (HN.out.cell 2) id, hk.cell (HN.out.cell 3) id, hk.cell (HN.out.cell 4) id, hk.cell (HN.out.cell 5) id, hk.cell ((HJ.out.nob K.out).blk.cell 1) id⟩
  have KT := Hd hk
  replace HMD := Hd (HMD.out.keeps hk (λ _ _ _ => id))
  clear hk HKEY HVAL HND HP HN
  have hwrp := HWR.out
  unfold Wlk.reads
  iterate 5
   refine wpTre_read (v := ?_) rfl (by rfl) ?_ ?_
   rotate_left
   ·intro W hW
    try (obtain ⟨z1, z2, z3, z4, z5, z6, z7⟩ : _ /\ _ /\ _ /\ _ /\ _ /\ _ /\ _ := hW)
    go_simp
    try simp only [hwrp]
    try rfl
   simp only [Act.put, sa_, sb_, sc_]
  refine wpTre_three rfl rfl rfl ?_ ?_ ?_
  ·have FU := (HJ.out.nob (K.out.trans KT.out (λ _ _ h => h))).usedR
   unfold pV iV at FU
   go_wp2_with (go_at_call 16; refine FU.mono ?_; rintro e wk ⟨rfl, rfl⟩)
   clear FU
   refine ⟨.inr HC.out, ?_⟩
   iterate 1
    refine wpTre_read (v := ?_) rfl (by rfl) ?_ ?_
    rotate_left
    ·intro W hW
     try (obtain ⟨z1, z2, z3, z4, z5, z6, z7⟩ : _ /\ _ /\ _ /\ _ /\ _ /\ _ /\ _ := hW)
     go_simp
     try simp only [hwrp]
     try rfl
    simp only [Act.put, sa_, sb_, sc_]
   refine wpTre_three rfl rfl rfl ?_ ?_ ?_
   ·go_wp2_with (go_at_call 40; refine (splitR HMD.out HSM.out HRM.out).mono ?_; rintro e w5 ⟨d0, d1, d2, d3, d4, d5, e0, e1, e2, e3, e4, e5, kv, rfl, hO, hQ, hkv, hk⟩)
    obtain ⟨D1, dj1, f1⟩ := Own.form hO.1.high
    obtain ⟨D3, dj3, f3⟩ := OTx.form hO.2.keys
    obtain ⟨D4, dj4, f4⟩ := OTx.form hO.2.vals
    obtain ⟨D5, dj5, f5⟩ := Own.form hO.2.kids
    have f0 := hO.1.lvl
    have f2 := hO.1.right
    unfold iV at f0 f2
    subst f0 f1 f2 f3 f4 f5
    obtain ⟨E1, ej1, f1⟩ := Own.form hQ.1.high
    obtain ⟨E3, ej3, f3⟩ := OTx.form hQ.2.keys
    obtain ⟨E4, ej4, f4⟩ := OTx.form hQ.2.vals
    obtain ⟨E5, ej5, f5⟩ := Own.form hQ.2.kids
    have f0 := hQ.1.lvl
    have f2 := hQ.1.right
    unfold iV at f0 f2
    subst f0 f1 f2 f3 f4 f5
    obtain ⟨KB, kbc, hf⟩ := hkv.form
    subst hf
    have hs9 := KT.out.size
    have HL : Hid (ONd w5 (Fresh wr w5) _ _ _ _ _ _ (spL m ((A.sl.length : Int) + 1))) := hO.mono (λ x _ hx => ⟨Nat.le_trans hs9 hx.1, hx.2⟩)
    have HR : Hid (ONd w5 (Fresh wr w5) _ _ _ _ _ _ (spR m)) := hQ.mono (λ x _ hx => ⟨Nat.le_trans hs9 hx.1, hx.2⟩)
    have HKB : Hid (OBy w5 (Fresh wr w5) (.slice KB (spK m).length kbc) (spK m)) := hkv.mono (λ x _ hx => ⟨Nat.le_trans hs9 hx.1, hx.2⟩)
    clear hO hQ hkv hs9
    replace HC : Hid (_ /\ _ /\ _ /\ _ /\ _ /\ _ /\ _) := ⟨hk.cell HC.out.1 id, hk.cell HC.out.2.1 id, hk.cell HC.out.2.2.1 id, hk.cell HC.out.2.2.2.1 id, hk.cell HC.out.2.2.2.2.1 id, hk.cell HC.out.2.2.2.2.2.1 id, hk.cell HC.out.2.2.2.2.2.2 id⟩
    replace HMD := Hd (HMD.out.keeps hk (λ _ _ _ => id))
    replace KT := tq_ KT hk
    clear hk
    refine ⟨.inr HC.out, ?_⟩
    iterate 4
     refine wpTre_read (v := ?_) rfl (by rfl) ?_ ?_
     rotate_left
     ·intro W hW
      try (obtain ⟨z1, z2, z3, z4, z5, z6, z7⟩ : _ /\ _ /\ _ /\ _ /\ _ /\ _ /\ _ := hW)
      go_simp
      try simp only [hwrp]
      try rfl
     simp only [Act.put, sa_, sb_, sc_]
    refine wpTre_two rfl rfl ?_ ?_
    ·go_wp2
     refine tre_at' (λ w6 hw => ?_)
     obtain ⟨X, hN⟩ : ∃ N, w5.heap.size = N := ⟨_, rfl⟩
     have hk : Keeps Nob w5 w6 := by rw [hw]; exact Keeps.alloc _ _ _
     have XW : Hid (wr.heap.size <= X) := by show _ <= _; rw [<- hN]; exact KT.out.size
     have hb := Blk.new w5 35 #[.int .i64 0, .slice none 0 0, .int .i64 0, .slice none 0 0, .slice none 0 0, .slice none 0 0]
     rw [<- hw, hN] at hb
     have BX := Hd hb
     rw [hN]
     clear hw hN hb
     replace HC : Hid (_ /\ _ /\ _ /\ _ /\ _ /\ _ /\ _) := ⟨hk.cell HC.out.1 id, hk.cell HC.out.2.1 id, hk.cell HC.out.2.2.1 id, hk.cell HC.out.2.2.2.1 id, hk.cell HC.out.2.2.2.2.1 id, hk.cell HC.out.2.2.2.2.2.1 id, hk.cell HC.out.2.2.2.2.2.2 id⟩
     replace HMD := Hd (HMD.out.keeps hk (λ _ _ _ => id))
     replace HL := Hd (HL.out.keeps hk (λ _ _ _ => id))
     replace HR := Hd (HR.out.keeps hk (λ _ _ _ => id))
     replace HKB := Hd (HKB.out.keeps hk (λ _ _ _ => id))
     replace KT := tq_ KT hk
     clear hk
     refine ⟨.inr HC.out, ?_⟩
     refine wpTre_act rfl ?_
     go_wp2
     refine tre_at' (λ w7 hw => ?_)
     obtain ⟨Y, hN⟩ : ∃ N, w6.heap.size = N := ⟨_, rfl⟩
     have hk : Keeps Nob w6 w7 := by rw [hw]; exact Keeps.alloc _ _ _
     have YW : Hid (wr.heap.size <= Y) := by show _ <= _; rw [<- hN]; exact KT.out.size
     have hb := Blk.new w6 35 #[.int .i64 0, .slice none 0 0, .int .i64 0, .slice none 0 0, .slice none 0 0, .slice none 0 0]
     rw [<- hw, hN] at hb
     have BY := Hd hb
     rw [hN]
     have hne : X ≠ Y := λ e => by have h := BX.out.lt; omega
     have HXY := Hd hne
     clear hne
     clear hw hN hb
     replace HC : Hid (_ /\ _ /\ _ /\ _ /\ _ /\ _ /\ _) := ⟨hk.cell HC.out.1 id, hk.cell HC.out.2.1 id, hk.cell HC.out.2.2.1 id, hk.cell HC.out.2.2.2.1 id, hk.cell HC.out.2.2.2.2.1 id, hk.cell HC.out.2.2.2.2.2.1 id, hk.cell HC.out.2.2.2.2.2.2 id⟩
     replace HMD := Hd (HMD.out.keeps hk (λ _ _ _ => id))
     replace HL := Hd (HL.out.keeps hk (λ _ _ _ => id))
     replace HR := Hd (HR.out.keeps hk (λ _ _ _ => id))
     replace HKB := Hd (HKB.out.keeps hk (λ _ _ _ => id))
     replace BX := Hd (BX.out.keeps hk id)
     replace KT := tq_ KT hk
     clear hk
     refine ⟨.inr HC.out, ?_⟩
     refine wpTre_act rfl ?_
     clear HMD
     have qBX0 := BX.out.cell 0
     have qBX1 := BX.out.cell 1
     have qBX2 := BX.out.cell 2
     have qBX3 := BX.out.cell 3
     have qBX4 := BX.out.cell 4
     have qBX5 := BX.out.cell 5
     have gBX0 := BX.out.frozen 0
     have gBX1 := BX.out.frozen 1
     have gBX2 := BX.out.frozen 2
     have gBX3 := BX.out.frozen 3
     have gBX4 := BX.out.frozen 4
     have gBX5 := BX.out.frozen 5
     go_wp2
     clear qBX0 qBX1 qBX2 qBX3 qBX4 qBX5 gBX0 gBX1 gBX2 gBX3 gBX4 gBX5
     refine tre_at' (λ w8 hw => ?_)
     have hk : Keeps (λ x => x = X) w7 w8 := by rw [hw]; exact (((((Keeps.setCell _ (M := λ x => x = X) rfl _).setCell' (λ _ => rfl) _).setCell' (λ _ => rfl) _).setCell' (λ _ => rfl) _).setCell' (λ _ => rfl) _).setCell' (λ _ => rfl) _
     have hb : Hid (Blk w8 X 35 #[.int .i64 ((spL m ((A.sl.length : Int) + 1))).lvl, .slice D1 ((spL m ((A.sl.length : Int) + 1))).high.length dj1, .int .i64 ((spL m ((A.sl.length : Int) + 1))).right, .slice D3 ((spL m ((A.sl.length : Int) + 1))).keys.length dj3, .slice D4 ((spL m ((A.sl.length : Int) + 1))).vals.length dj4, .slice D5 ((spL m ((A.sl.length : Int) + 1))).kids.length dj5]) := by show Blk _ _ _ _; rw [hw]; exact ((((((BX.out.set_ 0 _).set_ 1 _).set_ 2 _).set_ 3 _).set_ 4 _).set_ 5 _)
     have hz : w8.heap.size = w7.heap.size := by rw [hw]; simp
     clear hw
     replace HL := Hd (ONd.keepsB HL.out BX.out ⟨by decide, by decide, by decide⟩ hk)
     replace HR := Hd (ONd.keepsB HR.out BX.out ⟨by decide, by decide, by decide⟩ hk)
     replace HKB := Hd (OBy.keepsB HKB.out BX.out ⟨by decide, by decide, by decide⟩ hk)
     replace BY := Hd (BY.out.keeps hk (λ e => HXY.out e.symm))
     replace BX := hb
     clear hb
     replace KT := Hd (KT.out.trans hk (λ x hx e => by have h := XW.out; have e2 : x = X := e; omega))
     clear hk hz
     refine ⟨.inl (by rfl), ?_⟩
     refine wpTre_act rfl ?_
     have qBY0 := BY.out.cell 0
     have qBY1 := BY.out.cell 1
     have qBY2 := BY.out.cell 2
     have qBY3 := BY.out.cell 3
     have qBY4 := BY.out.cell 4
     have qBY5 := BY.out.cell 5
     have gBY0 := BY.out.frozen 0
     have gBY1 := BY.out.frozen 1
     have gBY2 := BY.out.frozen 2
     have gBY3 := BY.out.frozen 3
     have gBY4 := BY.out.frozen 4
     have gBY5 := BY.out.frozen 5
     go_wp2
     clear qBY0 qBY1 qBY2 qBY3 qBY4 qBY5 gBY0 gBY1 gBY2 gBY3 gBY4 gBY5
     refine tre_at' (λ w9 hw => ?_)
     have hk : Keeps (λ x => x = Y) w8 w9 := by rw [hw]; exact (((((Keeps.setCell _ (M := λ x => x = Y) rfl _).setCell' (λ _ => rfl) _).setCell' (λ _ => rfl) _).setCell' (λ _ => rfl) _).setCell' (λ _ => rfl) _).setCell' (λ _ => rfl) _
     have hb : Hid (Blk w9 Y 35 #[.int .i64 ((spR m)).lvl, .slice E1 ((spR m)).high.length ej1, .int .i64 ((spR m)).right, .slice E3 ((spR m)).keys.length ej3, .slice E4 ((spR m)).vals.length ej4, .slice E5 ((spR m)).kids.length ej5]) := by show Blk _ _ _ _; rw [hw]; exact ((((((BY.out.set_ 0 _).set_ 1 _).set_ 2 _).set_ 3 _).set_ 4 _).set_ 5 _)
     have hz : w9.heap.size = w8.heap.size := by rw [hw]; simp
     clear hw
     replace HL := Hd (ONd.keepsB HL.out BY.out ⟨by decide, by decide, by decide⟩ hk)
     replace HR := Hd (ONd.keepsB HR.out BY.out ⟨by decide, by decide, by decide⟩ hk)
     replace HKB := Hd (OBy.keepsB HKB.out BY.out ⟨by decide, by decide, by decide⟩ hk)
     replace BX := Hd (BX.out.keeps hk (λ e => HXY.out e))
     replace BY := hb
     clear hb
     replace KT := Hd (KT.out.trans hk (λ x hx e => by have h := YW.out; have e2 : x = Y := e; omega))
     clear hk hz
     refine ⟨.inl (by rfl), ?_⟩
     iterate 1
      refine wpTre_read (v := ?_) rfl (by rfl) ?_ ?_
      rotate_left
      ·intro W hW
       try (obtain ⟨z1, z2, z3, z4, z5, z6, z7⟩ : _ /\ _ /\ _ /\ _ /\ _ /\ _ /\ _ := hW)
       go_simp
       try simp only [hwrp]
       try rfl
      simp only [Act.put, sa_, sb_, sc_]
     refine wpTre_nil ?_
     exact ⟨(X, Y, #[.int .i64 ((spL m ((A.sl.length : Int) + 1))).lvl, .slice D1 ((spL m ((A.sl.length : Int) + 1))).high.length dj1, .int .i64 ((spL m ((A.sl.length : Int) + 1))).right, .slice D3 ((spL m ((A.sl.length : Int) + 1))).keys.length dj3, .slice D4 ((spL m ((A.sl.length : Int) + 1))).vals.length dj4, .slice D5 ((spL m ((A.sl.length : Int) + 1))).kids.length dj5], #[.int .i64 ((spR m)).lvl, .slice E1 ((spR m)).high.length ej1, .int .i64 ((spR m)).right, .slice E3 ((spR m)).keys.length ej3, .slice E4 ((spR m)).vals.length ej4, .slice E5 ((spR m)).kids.length ej5], .slice KB (spK m).length kbc), by simp only [putsA, Act.put, sa_, sb_, sc_], ⟨_, _, _, _, _, _, _, _, _, _, _, _, rfl, rfl, HL.out.mono (λ x hx hS => ⟨hS.1, hx⟩), HR.out.mono (λ x hx hS => ⟨hS.1, hx⟩)⟩, HKB.out.mono (λ x hx hS => ⟨hS.1, hx⟩), BX.out, BY.out, KT.out, ⟨XW.out, YW.out⟩, HXY.out⟩
    ·go_wp2
     refine tre_at' (λ w10 hw => ?_)
     obtain ⟨Y, hN⟩ : ∃ N, w5.heap.size = N := ⟨_, rfl⟩
     have hk : Keeps Nob w5 w10 := by rw [hw]; exact Keeps.alloc _ _ _
     have YW : Hid (wr.heap.size <= Y) := by show _ <= _; rw [<- hN]; exact KT.out.size
     have hb := Blk.new w5 35 #[.int .i64 0, .slice none 0 0, .int .i64 0, .slice none 0 0, .slice none 0 0, .slice none 0 0]
     rw [<- hw, hN] at hb
     have BY := Hd hb
     rw [hN]
     clear hw hN hb
     replace HC : Hid (_ /\ _ /\ _ /\ _ /\ _ /\ _ /\ _) := ⟨hk.cell HC.out.1 id, hk.cell HC.out.2.1 id, hk.cell HC.out.2.2.1 id, hk.cell HC.out.2.2.2.1 id, hk.cell HC.out.2.2.2.2.1 id, hk.cell HC.out.2.2.2.2.2.1 id, hk.cell HC.out.2.2.2.2.2.2 id⟩
     replace HMD := Hd (HMD.out.keeps hk (λ _ _ _ => id))
     replace HL := Hd (HL.out.keeps hk (λ _ _ _ => id))
     replace HR := Hd (HR.out.keeps hk (λ _ _ _ => id))
     replace HKB := Hd (HKB.out.keeps hk (λ _ _ _ => id))
     replace KT := tq_ KT hk
     clear hk
     refine ⟨.inr HC.out, ?_⟩
     refine wpTre_act rfl ?_
     go_wp2
     refine tre_at' (λ w11 hw => ?_)
     obtain ⟨X, hN⟩ : ∃ N, w10.heap.size = N := ⟨_, rfl⟩
     have hk : Keeps Nob w10 w11 := by rw [hw]; exact Keeps.alloc _ _ _
     have XW : Hid (wr.heap.size <= X) := by show _ <= _; rw [<- hN]; exact KT.out.size
     have hb := Blk.new w10 35 #[.int .i64 0, .slice none 0 0, .int .i64 0, .slice none 0 0, .slice none 0 0, .slice none 0 0]
     rw [<- hw, hN] at hb
     have BX := Hd hb
     rw [hN]
     have hne : X ≠ Y := λ e => by have h := BY.out.lt; omega
     have HXY := Hd hne
     clear hne
     clear hw hN hb
     replace HC : Hid (_ /\ _ /\ _ /\ _ /\ _ /\ _ /\ _) := ⟨hk.cell HC.out.1 id, hk.cell HC.out.2.1 id, hk.cell HC.out.2.2.1 id, hk.cell HC.out.2.2.2.1 id, hk.cell HC.out.2.2.2.2.1 id, hk.cell HC.out.2.2.2.2.2.1 id, hk.cell HC.out.2.2.2.2.2.2 id⟩
     replace HMD := Hd (HMD.out.keeps hk (λ _ _ _ => id))
     replace HL := Hd (HL.out.keeps hk (λ _ _ _ => id))
     replace HR := Hd (HR.out.keeps hk (λ _ _ _ => id))
     replace HKB := Hd (HKB.out.keeps hk (λ _ _ _ => id))
     replace BY := Hd (BY.out.keeps hk id)
     replace KT := tq_ KT hk
     clear hk
     refine ⟨.inr HC.out, ?_⟩
     refine wpTre_act rfl ?_
     clear HMD
     have qBX0 := BX.out.cell 0
     have qBX1 := BX.out.cell 1
     have qBX2 := BX.out.cell 2
     have qBX3 := BX.out.cell 3
     have qBX4 := BX.out.cell 4
     have qBX5 := BX.out.cell 5
     have gBX0 := BX.out.frozen 0
     have gBX1 := BX.out.frozen 1
     have gBX2 := BX.out.frozen 2
     have gBX3 := BX.out.frozen 3
     have gBX4 := BX.out.frozen 4
     have gBX5 := BX.out.frozen 5
     go_wp2
     clear qBX0 qBX1 qBX2 qBX3 qBX4 qBX5 gBX0 gBX1 gBX2 gBX3 gBX4 gBX5
     refine tre_at' (λ w12 hw => ?_)
     have hk : Keeps (λ x => x = X) w11 w12 := by rw [hw]; exact (((((Keeps.setCell _ (M := λ x => x = X) rfl _).setCell' (λ _ => rfl) _).setCell' (λ _ => rfl) _).setCell' (λ _ => rfl) _).setCell' (λ _ => rfl) _).setCell' (λ _ => rfl) _
     have hb : Hid (Blk w12 X 35 #[.int .i64 ((spL m ((A.sl.length : Int) + 1))).lvl, .slice D1 ((spL m ((A.sl.length : Int) + 1))).high.length dj1, .int .i64 ((spL m ((A.sl.length : Int) + 1))).right, .slice D3 ((spL m ((A.sl.length : Int) + 1))).keys.length dj3, .slice D4 ((spL m ((A.sl.length : Int) + 1))).vals.length dj4, .slice D5 ((spL m ((A.sl.length : Int) + 1))).kids.length dj5]) := by show Blk _ _ _ _; rw [hw]; exact ((((((BX.out.set_ 0 _).set_ 1 _).set_ 2 _).set_ 3 _).set_ 4 _).set_ 5 _)
     have hz : w12.heap.size = w11.heap.size := by rw [hw]; simp
     clear hw
     replace HL := Hd (ONd.keepsB HL.out BX.out ⟨by decide, by decide, by decide⟩ hk)
     replace HR := Hd (ONd.keepsB HR.out BX.out ⟨by decide, by decide, by decide⟩ hk)
     replace HKB := Hd (OBy.keepsB HKB.out BX.out ⟨by decide, by decide, by decide⟩ hk)
     replace BY := Hd (BY.out.keeps hk (λ e => HXY.out e.symm))
     replace BX := hb
     clear hb
     replace KT := Hd (KT.out.trans hk (λ x hx e => by have h := XW.out; have e2 : x = X := e; omega))
     clear hk hz
     refine ⟨.inl (by rfl), ?_⟩
     refine wpTre_act rfl ?_
     have qBY0 := BY.out.cell 0
     have qBY1 := BY.out.cell 1
     have qBY2 := BY.out.cell 2
     have qBY3 := BY.out.cell 3
     have qBY4 := BY.out.cell 4
     have qBY5 := BY.out.cell 5
     have gBY0 := BY.out.frozen 0
     have gBY1 := BY.out.frozen 1
     have gBY2 := BY.out.frozen 2
     have gBY3 := BY.out.frozen 3
     have gBY4 := BY.out.frozen 4
     have gBY5 := BY.out.frozen 5
     go_wp2
     clear qBY0 qBY1 qBY2 qBY3 qBY4 qBY5 gBY0 gBY1 gBY2 gBY3 gBY4 gBY5
     refine tre_at' (λ w13 hw => ?_)
     have hk : Keeps (λ x => x = Y) w12 w13 := by rw [hw]; exact (((((Keeps.setCell _ (M := λ x => x = Y) rfl _).setCell' (λ _ => rfl) _).setCell' (λ _ => rfl) _).setCell' (λ _ => rfl) _).setCell' (λ _ => rfl) _).setCell' (λ _ => rfl) _
     have hb : Hid (Blk w13 Y 35 #[.int .i64 ((spR m)).lvl, .slice E1 ((spR m)).high.length ej1, .int .i64 ((spR m)).right, .slice E3 ((spR m)).keys.length ej3, .slice E4 ((spR m)).vals.length ej4, .slice E5 ((spR m)).kids.length ej5]) := by show Blk _ _ _ _; rw [hw]; exact ((((((BY.out.set_ 0 _).set_ 1 _).set_ 2 _).set_ 3 _).set_ 4 _).set_ 5 _)
     have hz : w13.heap.size = w12.heap.size := by rw [hw]; simp
     clear hw
     replace HL := Hd (ONd.keepsB HL.out BY.out ⟨by decide, by decide, by decide⟩ hk)
     replace HR := Hd (ONd.keepsB HR.out BY.out ⟨by decide, by decide, by decide⟩ hk)
     replace HKB := Hd (OBy.keepsB HKB.out BY.out ⟨by decide, by decide, by decide⟩ hk)
     replace BX := Hd (BX.out.keeps hk (λ e => HXY.out e))
     replace BY := hb
     clear hb
     replace KT := Hd (KT.out.trans hk (λ x hx e => by have h := YW.out; have e2 : x = Y := e; omega))
     clear hk hz
     refine ⟨.inl (by rfl), ?_⟩
     iterate 1
      refine wpTre_read (v := ?_) rfl (by rfl) ?_ ?_
      rotate_left
      ·intro W hW
       try (obtain ⟨z1, z2, z3, z4, z5, z6, z7⟩ : _ /\ _ /\ _ /\ _ /\ _ /\ _ /\ _ := hW)
       go_simp
       try simp only [hwrp]
       try rfl
      simp only [Act.put, sa_, sb_, sc_]
     refine wpTre_nil ?_
     exact ⟨(X, Y, #[.int .i64 ((spL m ((A.sl.length : Int) + 1))).lvl, .slice D1 ((spL m ((A.sl.length : Int) + 1))).high.length dj1, .int .i64 ((spL m ((A.sl.length : Int) + 1))).right, .slice D3 ((spL m ((A.sl.length : Int) + 1))).keys.length dj3, .slice D4 ((spL m ((A.sl.length : Int) + 1))).vals.length dj4, .slice D5 ((spL m ((A.sl.length : Int) + 1))).kids.length dj5], #[.int .i64 ((spR m)).lvl, .slice E1 ((spR m)).high.length ej1, .int .i64 ((spR m)).right, .slice E3 ((spR m)).keys.length ej3, .slice E4 ((spR m)).vals.length ej4, .slice E5 ((spR m)).kids.length ej5], .slice KB (spK m).length kbc), by simp only [putsA, Act.put, sa_, sb_, sc_], ⟨_, _, _, _, _, _, _, _, _, _, _, _, rfl, rfl, HL.out.mono (λ x hx hS => ⟨hS.1, hx⟩), HR.out.mono (λ x hx hS => ⟨hS.1, hx⟩)⟩, HKB.out.mono (λ x hx hS => ⟨hS.1, hx⟩), BX.out, BY.out, KT.out, ⟨XW.out, YW.out⟩, HXY.out⟩
   ·go_wp2
    refine tre_at' (λ w14 hw => ?_)
    obtain ⟨X, hN⟩ : ∃ N, w4.heap.size = N := ⟨_, rfl⟩
    have hk : Keeps Nob w4 w14 := by rw [hw]; exact Keeps.alloc _ _ _
    have XW : Hid (wr.heap.size <= X) := by show _ <= _; rw [<- hN]; exact KT.out.size
    have hb := Blk.new w4 35 #[.int .i64 0, .slice none 0 0, .int .i64 0, .slice none 0 0, .slice none 0 0, .slice none 0 0]
    rw [<- hw, hN] at hb
    have BX := Hd hb
    rw [hN]
    clear hw hN hb
    replace HC : Hid (_ /\ _ /\ _ /\ _ /\ _ /\ _ /\ _) := ⟨hk.cell HC.out.1 id, hk.cell HC.out.2.1 id, hk.cell HC.out.2.2.1 id, hk.cell HC.out.2.2.2.1 id, hk.cell HC.out.2.2.2.2.1 id, hk.cell HC.out.2.2.2.2.2.1 id, hk.cell HC.out.2.2.2.2.2.2 id⟩
    replace HMD := Hd (HMD.out.keeps hk (λ _ _ _ => id))
    replace KT := tq_ KT hk
    clear hk
    refine ⟨.inr HC.out, ?_⟩
    refine wpTre_two rfl rfl ?_ ?_
    ·go_wp2_with (go_at_call 40; refine (splitR HMD.out HSM.out HRM.out).mono ?_; rintro e w15 ⟨d0, d1, d2, d3, d4, d5, e0, e1, e2, e3, e4, e5, kv, rfl, hO, hQ, hkv, hk⟩)
     obtain ⟨D1, dj1, f1⟩ := Own.form hO.1.high
     obtain ⟨D3, dj3, f3⟩ := OTx.form hO.2.keys
     obtain ⟨D4, dj4, f4⟩ := OTx.form hO.2.vals
     obtain ⟨D5, dj5, f5⟩ := Own.form hO.2.kids
     have f0 := hO.1.lvl
     have f2 := hO.1.right
     unfold iV at f0 f2
     subst f0 f1 f2 f3 f4 f5
     obtain ⟨E1, ej1, f1⟩ := Own.form hQ.1.high
     obtain ⟨E3, ej3, f3⟩ := OTx.form hQ.2.keys
     obtain ⟨E4, ej4, f4⟩ := OTx.form hQ.2.vals
     obtain ⟨E5, ej5, f5⟩ := Own.form hQ.2.kids
     have f0 := hQ.1.lvl
     have f2 := hQ.1.right
     unfold iV at f0 f2
     subst f0 f1 f2 f3 f4 f5
     obtain ⟨KB, kbc, hf⟩ := hkv.form
     subst hf
     have hs9 := KT.out.size
     have HL : Hid (ONd w15 (Fresh wr w15) _ _ _ _ _ _ (spL m ((A.sl.length : Int) + 1))) := hO.mono (λ x _ hx => ⟨Nat.le_trans hs9 hx.1, hx.2⟩)
     have HR : Hid (ONd w15 (Fresh wr w15) _ _ _ _ _ _ (spR m)) := hQ.mono (λ x _ hx => ⟨Nat.le_trans hs9 hx.1, hx.2⟩)
     have HKB : Hid (OBy w15 (Fresh wr w15) (.slice KB (spK m).length kbc) (spK m)) := hkv.mono (λ x _ hx => ⟨Nat.le_trans hs9 hx.1, hx.2⟩)
     clear hO hQ hkv hs9
     replace HC : Hid (_ /\ _ /\ _ /\ _ /\ _ /\ _ /\ _) := ⟨hk.cell HC.out.1 id, hk.cell HC.out.2.1 id, hk.cell HC.out.2.2.1 id, hk.cell HC.out.2.2.2.1 id, hk.cell HC.out.2.2.2.2.1 id, hk.cell HC.out.2.2.2.2.2.1 id, hk.cell HC.out.2.2.2.2.2.2 id⟩
     replace HMD := Hd (HMD.out.keeps hk (λ _ _ _ => id))
     replace BX := Hd (BX.out.keeps hk id)
     replace KT := tq_ KT hk
     clear hk
     refine ⟨.inr HC.out, ?_⟩
     iterate 4
      refine wpTre_read (v := ?_) rfl (by rfl) ?_ ?_
      rotate_left
      ·intro W hW
       try (obtain ⟨z1, z2, z3, z4, z5, z6, z7⟩ : _ /\ _ /\ _ /\ _ /\ _ /\ _ /\ _ := hW)
       go_simp
       try simp only [hwrp]
       try rfl
      simp only [Act.put, sa_, sb_, sc_]
     refine wpTre_act rfl ?_
     go_wp2
     refine tre_at' (λ w16 hw => ?_)
     obtain ⟨Y, hN⟩ : ∃ N, w15.heap.size = N := ⟨_, rfl⟩
     have hk : Keeps Nob w15 w16 := by rw [hw]; exact Keeps.alloc _ _ _
     have YW : Hid (wr.heap.size <= Y) := by show _ <= _; rw [<- hN]; exact KT.out.size
     have hb := Blk.new w15 35 #[.int .i64 0, .slice none 0 0, .int .i64 0, .slice none 0 0, .slice none 0 0, .slice none 0 0]
     rw [<- hw, hN] at hb
     have BY := Hd hb
     rw [hN]
     have hne : X ≠ Y := λ e => by have h := BX.out.lt; omega
     have HXY := Hd hne
     clear hne
     clear hw hN hb
     replace HC : Hid (_ /\ _ /\ _ /\ _ /\ _ /\ _ /\ _) := ⟨hk.cell HC.out.1 id, hk.cell HC.out.2.1 id, hk.cell HC.out.2.2.1 id, hk.cell HC.out.2.2.2.1 id, hk.cell HC.out.2.2.2.2.1 id, hk.cell HC.out.2.2.2.2.2.1 id, hk.cell HC.out.2.2.2.2.2.2 id⟩
     replace HMD := Hd (HMD.out.keeps hk (λ _ _ _ => id))
     replace BX := Hd (BX.out.keeps hk id)
     replace HL := Hd (HL.out.keeps hk (λ _ _ _ => id))
     replace HR := Hd (HR.out.keeps hk (λ _ _ _ => id))
     replace HKB := Hd (HKB.out.keeps hk (λ _ _ _ => id))
     replace KT := tq_ KT hk
     clear hk
     refine ⟨.inr HC.out, ?_⟩
     refine wpTre_act rfl ?_
     clear HMD
     have qBX0 := BX.out.cell 0
     have qBX1 := BX.out.cell 1
     have qBX2 := BX.out.cell 2
     have qBX3 := BX.out.cell 3
     have qBX4 := BX.out.cell 4
     have qBX5 := BX.out.cell 5
     have gBX0 := BX.out.frozen 0
     have gBX1 := BX.out.frozen 1
     have gBX2 := BX.out.frozen 2
     have gBX3 := BX.out.frozen 3
     have gBX4 := BX.out.frozen 4
     have gBX5 := BX.out.frozen 5
     go_wp2
     clear qBX0 qBX1 qBX2 qBX3 qBX4 qBX5 gBX0 gBX1 gBX2 gBX3 gBX4 gBX5
     refine tre_at' (λ w17 hw => ?_)
     have hk : Keeps (λ x => x = X) w16 w17 := by rw [hw]; exact (((((Keeps.setCell _ (M := λ x => x = X) rfl _).setCell' (λ _ => rfl) _).setCell' (λ _ => rfl) _).setCell' (λ _ => rfl) _).setCell' (λ _ => rfl) _).setCell' (λ _ => rfl) _
     have hb : Hid (Blk w17 X 35 #[.int .i64 ((spL m ((A.sl.length : Int) + 1))).lvl, .slice D1 ((spL m ((A.sl.length : Int) + 1))).high.length dj1, .int .i64 ((spL m ((A.sl.length : Int) + 1))).right, .slice D3 ((spL m ((A.sl.length : Int) + 1))).keys.length dj3, .slice D4 ((spL m ((A.sl.length : Int) + 1))).vals.length dj4, .slice D5 ((spL m ((A.sl.length : Int) + 1))).kids.length dj5]) := by show Blk _ _ _ _; rw [hw]; exact ((((((BX.out.set_ 0 _).set_ 1 _).set_ 2 _).set_ 3 _).set_ 4 _).set_ 5 _)
     have hz : w17.heap.size = w16.heap.size := by rw [hw]; simp
     clear hw
     replace HL := Hd (ONd.keepsB HL.out BX.out ⟨by decide, by decide, by decide⟩ hk)
     replace HR := Hd (ONd.keepsB HR.out BX.out ⟨by decide, by decide, by decide⟩ hk)
     replace HKB := Hd (OBy.keepsB HKB.out BX.out ⟨by decide, by decide, by decide⟩ hk)
     replace BY := Hd (BY.out.keeps hk (λ e => HXY.out e.symm))
     replace BX := hb
     clear hb
     replace KT := Hd (KT.out.trans hk (λ x hx e => by have h := XW.out; have e2 : x = X := e; omega))
     clear hk hz
     refine ⟨.inl (by rfl), ?_⟩
     refine wpTre_act rfl ?_
     have qBY0 := BY.out.cell 0
     have qBY1 := BY.out.cell 1
     have qBY2 := BY.out.cell 2
     have qBY3 := BY.out.cell 3
     have qBY4 := BY.out.cell 4
     have qBY5 := BY.out.cell 5
     have gBY0 := BY.out.frozen 0
     have gBY1 := BY.out.frozen 1
     have gBY2 := BY.out.frozen 2
     have gBY3 := BY.out.frozen 3
     have gBY4 := BY.out.frozen 4
     have gBY5 := BY.out.frozen 5
     go_wp2
     clear qBY0 qBY1 qBY2 qBY3 qBY4 qBY5 gBY0 gBY1 gBY2 gBY3 gBY4 gBY5
     refine tre_at' (λ w18 hw => ?_)
     have hk : Keeps (λ x => x = Y) w17 w18 := by rw [hw]; exact (((((Keeps.setCell _ (M := λ x => x = Y) rfl _).setCell' (λ _ => rfl) _).setCell' (λ _ => rfl) _).setCell' (λ _ => rfl) _).setCell' (λ _ => rfl) _).setCell' (λ _ => rfl) _
     have hb : Hid (Blk w18 Y 35 #[.int .i64 ((spR m)).lvl, .slice E1 ((spR m)).high.length ej1, .int .i64 ((spR m)).right, .slice E3 ((spR m)).keys.length ej3, .slice E4 ((spR m)).vals.length ej4, .slice E5 ((spR m)).kids.length ej5]) := by show Blk _ _ _ _; rw [hw]; exact ((((((BY.out.set_ 0 _).set_ 1 _).set_ 2 _).set_ 3 _).set_ 4 _).set_ 5 _)
     have hz : w18.heap.size = w17.heap.size := by rw [hw]; simp
     clear hw
     replace HL := Hd (ONd.keepsB HL.out BY.out ⟨by decide, by decide, by decide⟩ hk)
     replace HR := Hd (ONd.keepsB HR.out BY.out ⟨by decide, by decide, by decide⟩ hk)
     replace HKB := Hd (OBy.keepsB HKB.out BY.out ⟨by decide, by decide, by decide⟩ hk)
     replace BX := Hd (BX.out.keeps hk (λ e => HXY.out e))
     replace BY := hb
     clear hb
     replace KT := Hd (KT.out.trans hk (λ x hx e => by have h := YW.out; have e2 : x = Y := e; omega))
     clear hk hz
     refine ⟨.inl (by rfl), ?_⟩
     iterate 1
      refine wpTre_read (v := ?_) rfl (by rfl) ?_ ?_
      rotate_left
      ·intro W hW
       try (obtain ⟨z1, z2, z3, z4, z5, z6, z7⟩ : _ /\ _ /\ _ /\ _ /\ _ /\ _ /\ _ := hW)
       go_simp
       try simp only [hwrp]
       try rfl
      simp only [Act.put, sa_, sb_, sc_]
     refine wpTre_nil ?_
     exact ⟨(X, Y, #[.int .i64 ((spL m ((A.sl.length : Int) + 1))).lvl, .slice D1 ((spL m ((A.sl.length : Int) + 1))).high.length dj1, .int .i64 ((spL m ((A.sl.length : Int) + 1))).right, .slice D3 ((spL m ((A.sl.length : Int) + 1))).keys.length dj3, .slice D4 ((spL m ((A.sl.length : Int) + 1))).vals.length dj4, .slice D5 ((spL m ((A.sl.length : Int) + 1))).kids.length dj5], #[.int .i64 ((spR m)).lvl, .slice E1 ((spR m)).high.length ej1, .int .i64 ((spR m)).right, .slice E3 ((spR m)).keys.length ej3, .slice E4 ((spR m)).vals.length ej4, .slice E5 ((spR m)).kids.length ej5], .slice KB (spK m).length kbc), by simp only [putsA, Act.put, sa_, sb_, sc_], ⟨_, _, _, _, _, _, _, _, _, _, _, _, rfl, rfl, HL.out.mono (λ x hx hS => ⟨hS.1, hx⟩), HR.out.mono (λ x hx hS => ⟨hS.1, hx⟩)⟩, HKB.out.mono (λ x hx hS => ⟨hS.1, hx⟩), BX.out, BY.out, KT.out, ⟨XW.out, YW.out⟩, HXY.out⟩
    ·go_wp2
     refine tre_at' (λ w19 hw => ?_)
     obtain ⟨Y, hN⟩ : ∃ N, w14.heap.size = N := ⟨_, rfl⟩
     have hk : Keeps Nob w14 w19 := by rw [hw]; exact Keeps.alloc _ _ _
     have YW : Hid (wr.heap.size <= Y) := by show _ <= _; rw [<- hN]; exact KT.out.size
     have hb := Blk.new w14 35 #[.int .i64 0, .slice none 0 0, .int .i64 0, .slice none 0 0, .slice none 0 0, .slice none 0 0]
     rw [<- hw, hN] at hb
     have BY := Hd hb
     rw [hN]
     have hne : X ≠ Y := λ e => by have h := BX.out.lt; omega
     have HXY := Hd hne
     clear hne
     clear hw hN hb
     replace HC : Hid (_ /\ _ /\ _ /\ _ /\ _ /\ _ /\ _) := ⟨hk.cell HC.out.1 id, hk.cell HC.out.2.1 id, hk.cell HC.out.2.2.1 id, hk.cell HC.out.2.2.2.1 id, hk.cell HC.out.2.2.2.2.1 id, hk.cell HC.out.2.2.2.2.2.1 id, hk.cell HC.out.2.2.2.2.2.2 id⟩
     replace HMD := Hd (HMD.out.keeps hk (λ _ _ _ => id))
     replace BX := Hd (BX.out.keeps hk id)
     replace KT := tq_ KT hk
     clear hk
     refine ⟨.inr HC.out, ?_⟩
     refine wpTre_act rfl ?_
     go_wp2_with (go_at_call 40; refine (splitR HMD.out HSM.out HRM.out).mono ?_; rintro e w20 ⟨d0, d1, d2, d3, d4, d5, e0, e1, e2, e3, e4, e5, kv, rfl, hO, hQ, hkv, hk⟩)
     obtain ⟨D1, dj1, f1⟩ := Own.form hO.1.high
     obtain ⟨D3, dj3, f3⟩ := OTx.form hO.2.keys
     obtain ⟨D4, dj4, f4⟩ := OTx.form hO.2.vals
     obtain ⟨D5, dj5, f5⟩ := Own.form hO.2.kids
     have f0 := hO.1.lvl
     have f2 := hO.1.right
     unfold iV at f0 f2
     subst f0 f1 f2 f3 f4 f5
     obtain ⟨E1, ej1, f1⟩ := Own.form hQ.1.high
     obtain ⟨E3, ej3, f3⟩ := OTx.form hQ.2.keys
     obtain ⟨E4, ej4, f4⟩ := OTx.form hQ.2.vals
     obtain ⟨E5, ej5, f5⟩ := Own.form hQ.2.kids
     have f0 := hQ.1.lvl
     have f2 := hQ.1.right
     unfold iV at f0 f2
     subst f0 f1 f2 f3 f4 f5
     obtain ⟨KB, kbc, hf⟩ := hkv.form
     subst hf
     have hs9 := KT.out.size
     have HL : Hid (ONd w20 (Fresh wr w20) _ _ _ _ _ _ (spL m ((A.sl.length : Int) + 1))) := hO.mono (λ x _ hx => ⟨Nat.le_trans hs9 hx.1, hx.2⟩)
     have HR : Hid (ONd w20 (Fresh wr w20) _ _ _ _ _ _ (spR m)) := hQ.mono (λ x _ hx => ⟨Nat.le_trans hs9 hx.1, hx.2⟩)
     have HKB : Hid (OBy w20 (Fresh wr w20) (.slice KB (spK m).length kbc) (spK m)) := hkv.mono (λ x _ hx => ⟨Nat.le_trans hs9 hx.1, hx.2⟩)
     clear hO hQ hkv hs9
     replace HC : Hid (_ /\ _ /\ _ /\ _ /\ _ /\ _ /\ _) := ⟨hk.cell HC.out.1 id, hk.cell HC.out.2.1 id, hk.cell HC.out.2.2.1 id, hk.cell HC.out.2.2.2.1 id, hk.cell HC.out.2.2.2.2.1 id, hk.cell HC.out.2.2.2.2.2.1 id, hk.cell HC.out.2.2.2.2.2.2 id⟩
     replace HMD := Hd (HMD.out.keeps hk (λ _ _ _ => id))
     replace BX := Hd (BX.out.keeps hk id)
     replace BY := Hd (BY.out.keeps hk id)
     replace KT := tq_ KT hk
     clear hk
     refine ⟨.inr HC.out, ?_⟩
     iterate 4
      refine wpTre_read (v := ?_) rfl (by rfl) ?_ ?_
      rotate_left
      ·intro W hW
       try (obtain ⟨z1, z2, z3, z4, z5, z6, z7⟩ : _ /\ _ /\ _ /\ _ /\ _ /\ _ /\ _ := hW)
       go_simp
       try simp only [hwrp]
       try rfl
      simp only [Act.put, sa_, sb_, sc_]
     refine wpTre_act rfl ?_
     clear HMD
     have qBX0 := BX.out.cell 0
     have qBX1 := BX.out.cell 1
     have qBX2 := BX.out.cell 2
     have qBX3 := BX.out.cell 3
     have qBX4 := BX.out.cell 4
     have qBX5 := BX.out.cell 5
     have gBX0 := BX.out.frozen 0
     have gBX1 := BX.out.frozen 1
     have gBX2 := BX.out.frozen 2
     have gBX3 := BX.out.frozen 3
     have gBX4 := BX.out.frozen 4
     have gBX5 := BX.out.frozen 5
     go_wp2
     clear qBX0 qBX1 qBX2 qBX3 qBX4 qBX5 gBX0 gBX1 gBX2 gBX3 gBX4 gBX5
     refine tre_at' (λ w21 hw => ?_)
     have hk : Keeps (λ x => x = X) w20 w21 := by rw [hw]; exact (((((Keeps.setCell _ (M := λ x => x = X) rfl _).setCell' (λ _ => rfl) _).setCell' (λ _ => rfl) _).setCell' (λ _ => rfl) _).setCell' (λ _ => rfl) _).setCell' (λ _ => rfl) _
     have hb : Hid (Blk w21 X 35 #[.int .i64 ((spL m ((A.sl.length : Int) + 1))).lvl, .slice D1 ((spL m ((A.sl.length : Int) + 1))).high.length dj1, .int .i64 ((spL m ((A.sl.length : Int) + 1))).right, .slice D3 ((spL m ((A.sl.length : Int) + 1))).keys.length dj3, .slice D4 ((spL m ((A.sl.length : Int) + 1))).vals.length dj4, .slice D5 ((spL m ((A.sl.length : Int) + 1))).kids.length dj5]) := by show Blk _ _ _ _; rw [hw]; exact ((((((BX.out.set_ 0 _).set_ 1 _).set_ 2 _).set_ 3 _).set_ 4 _).set_ 5 _)
     have hz : w21.heap.size = w20.heap.size := by rw [hw]; simp
     clear hw
     replace HL := Hd (ONd.keepsB HL.out BX.out ⟨by decide, by decide, by decide⟩ hk)
     replace HR := Hd (ONd.keepsB HR.out BX.out ⟨by decide, by decide, by decide⟩ hk)
     replace HKB := Hd (OBy.keepsB HKB.out BX.out ⟨by decide, by decide, by decide⟩ hk)
     replace BY := Hd (BY.out.keeps hk (λ e => HXY.out e.symm))
     replace BX := hb
     clear hb
     replace KT := Hd (KT.out.trans hk (λ x hx e => by have h := XW.out; have e2 : x = X := e; omega))
     clear hk hz
     refine ⟨.inl (by rfl), ?_⟩
     refine wpTre_act rfl ?_
     have qBY0 := BY.out.cell 0
     have qBY1 := BY.out.cell 1
     have qBY2 := BY.out.cell 2
     have qBY3 := BY.out.cell 3
     have qBY4 := BY.out.cell 4
     have qBY5 := BY.out.cell 5
     have gBY0 := BY.out.frozen 0
     have gBY1 := BY.out.frozen 1
     have gBY2 := BY.out.frozen 2
     have gBY3 := BY.out.frozen 3
     have gBY4 := BY.out.frozen 4
     have gBY5 := BY.out.frozen 5
     go_wp2
     clear qBY0 qBY1 qBY2 qBY3 qBY4 qBY5 gBY0 gBY1 gBY2 gBY3 gBY4 gBY5
     refine tre_at' (λ w22 hw => ?_)
     have hk : Keeps (λ x => x = Y) w21 w22 := by rw [hw]; exact (((((Keeps.setCell _ (M := λ x => x = Y) rfl _).setCell' (λ _ => rfl) _).setCell' (λ _ => rfl) _).setCell' (λ _ => rfl) _).setCell' (λ _ => rfl) _).setCell' (λ _ => rfl) _
     have hb : Hid (Blk w22 Y 35 #[.int .i64 ((spR m)).lvl, .slice E1 ((spR m)).high.length ej1, .int .i64 ((spR m)).right, .slice E3 ((spR m)).keys.length ej3, .slice E4 ((spR m)).vals.length ej4, .slice E5 ((spR m)).kids.length ej5]) := by show Blk _ _ _ _; rw [hw]; exact ((((((BY.out.set_ 0 _).set_ 1 _).set_ 2 _).set_ 3 _).set_ 4 _).set_ 5 _)
     have hz : w22.heap.size = w21.heap.size := by rw [hw]; simp
     clear hw
     replace HL := Hd (ONd.keepsB HL.out BY.out ⟨by decide, by decide, by decide⟩ hk)
     replace HR := Hd (ONd.keepsB HR.out BY.out ⟨by decide, by decide, by decide⟩ hk)
     replace HKB := Hd (OBy.keepsB HKB.out BY.out ⟨by decide, by decide, by decide⟩ hk)
     replace BX := Hd (BX.out.keeps hk (λ e => HXY.out e))
     replace BY := hb
     clear hb
     replace KT := Hd (KT.out.trans hk (λ x hx e => by have h := YW.out; have e2 : x = Y := e; omega))
     clear hk hz
     refine ⟨.inl (by rfl), ?_⟩
     iterate 1
      refine wpTre_read (v := ?_) rfl (by rfl) ?_ ?_
      rotate_left
      ·intro W hW
       try (obtain ⟨z1, z2, z3, z4, z5, z6, z7⟩ : _ /\ _ /\ _ /\ _ /\ _ /\ _ /\ _ := hW)
       go_simp
       try simp only [hwrp]
       try rfl
      simp only [Act.put, sa_, sb_, sc_]
     refine wpTre_nil ?_
     exact ⟨(X, Y, #[.int .i64 ((spL m ((A.sl.length : Int) + 1))).lvl, .slice D1 ((spL m ((A.sl.length : Int) + 1))).high.length dj1, .int .i64 ((spL m ((A.sl.length : Int) + 1))).right, .slice D3 ((spL m ((A.sl.length : Int) + 1))).keys.length dj3, .slice D4 ((spL m ((A.sl.length : Int) + 1))).vals.length dj4, .slice D5 ((spL m ((A.sl.length : Int) + 1))).kids.length dj5], #[.int .i64 ((spR m)).lvl, .slice E1 ((spR m)).high.length ej1, .int .i64 ((spR m)).right, .slice E3 ((spR m)).keys.length ej3, .slice E4 ((spR m)).vals.length ej4, .slice E5 ((spR m)).kids.length ej5], .slice KB (spK m).length kbc), by simp only [putsA, Act.put, sa_, sb_, sc_], ⟨_, _, _, _, _, _, _, _, _, _, _, _, rfl, rfl, HL.out.mono (λ x hx hS => ⟨hS.1, hx⟩), HR.out.mono (λ x hx hS => ⟨hS.1, hx⟩)⟩, HKB.out.mono (λ x hx hS => ⟨hS.1, hx⟩), BX.out, BY.out, KT.out, ⟨XW.out, YW.out⟩, HXY.out⟩
   ·go_wp2
    refine tre_at' (λ w23 hw => ?_)
    obtain ⟨Y, hN⟩ : ∃ N, w4.heap.size = N := ⟨_, rfl⟩
    have hk : Keeps Nob w4 w23 := by rw [hw]; exact Keeps.alloc _ _ _
    have YW : Hid (wr.heap.size <= Y) := by show _ <= _; rw [<- hN]; exact KT.out.size
    have hb := Blk.new w4 35 #[.int .i64 0, .slice none 0 0, .int .i64 0, .slice none 0 0, .slice none 0 0, .slice none 0 0]
    rw [<- hw, hN] at hb
    have BY := Hd hb
    rw [hN]
    clear hw hN hb
    replace HC : Hid (_ /\ _ /\ _ /\ _ /\ _ /\ _ /\ _) := ⟨hk.cell HC.out.1 id, hk.cell HC.out.2.1 id, hk.cell HC.out.2.2.1 id, hk.cell HC.out.2.2.2.1 id, hk.cell HC.out.2.2.2.2.1 id, hk.cell HC.out.2.2.2.2.2.1 id, hk.cell HC.out.2.2.2.2.2.2 id⟩
    replace HMD := Hd (HMD.out.keeps hk (λ _ _ _ => id))
    replace KT := tq_ KT hk
    clear hk
    refine ⟨.inr HC.out, ?_⟩
    refine wpTre_two rfl rfl ?_ ?_
    ·go_wp2_with (go_at_call 40; refine (splitR HMD.out HSM.out HRM.out).mono ?_; rintro e w24 ⟨d0, d1, d2, d3, d4, d5, e0, e1, e2, e3, e4, e5, kv, rfl, hO, hQ, hkv, hk⟩)
     obtain ⟨D1, dj1, f1⟩ := Own.form hO.1.high
     obtain ⟨D3, dj3, f3⟩ := OTx.form hO.2.keys
     obtain ⟨D4, dj4, f4⟩ := OTx.form hO.2.vals
     obtain ⟨D5, dj5, f5⟩ := Own.form hO.2.kids
     have f0 := hO.1.lvl
     have f2 := hO.1.right
     unfold iV at f0 f2
     subst f0 f1 f2 f3 f4 f5
     obtain ⟨E1, ej1, f1⟩ := Own.form hQ.1.high
     obtain ⟨E3, ej3, f3⟩ := OTx.form hQ.2.keys
     obtain ⟨E4, ej4, f4⟩ := OTx.form hQ.2.vals
     obtain ⟨E5, ej5, f5⟩ := Own.form hQ.2.kids
     have f0 := hQ.1.lvl
     have f2 := hQ.1.right
     unfold iV at f0 f2
     subst f0 f1 f2 f3 f4 f5
     obtain ⟨KB, kbc, hf⟩ := hkv.form
     subst hf
     have hs9 := KT.out.size
     have HL : Hid (ONd w24 (Fresh wr w24) _ _ _ _ _ _ (spL m ((A.sl.length : Int) + 1))) := hO.mono (λ x _ hx => ⟨Nat.le_trans hs9 hx.1, hx.2⟩)
     have HR : Hid (ONd w24 (Fresh wr w24) _ _ _ _ _ _ (spR m)) := hQ.mono (λ x _ hx => ⟨Nat.le_trans hs9 hx.1, hx.2⟩)
     have HKB : Hid (OBy w24 (Fresh wr w24) (.slice KB (spK m).length kbc) (spK m)) := hkv.mono (λ x _ hx => ⟨Nat.le_trans hs9 hx.1, hx.2⟩)
     clear hO hQ hkv hs9
     replace HC : Hid (_ /\ _ /\ _ /\ _ /\ _ /\ _ /\ _) := ⟨hk.cell HC.out.1 id, hk.cell HC.out.2.1 id, hk.cell HC.out.2.2.1 id, hk.cell HC.out.2.2.2.1 id, hk.cell HC.out.2.2.2.2.1 id, hk.cell HC.out.2.2.2.2.2.1 id, hk.cell HC.out.2.2.2.2.2.2 id⟩
     replace HMD := Hd (HMD.out.keeps hk (λ _ _ _ => id))
     replace BY := Hd (BY.out.keeps hk id)
     replace KT := tq_ KT hk
     clear hk
     refine ⟨.inr HC.out, ?_⟩
     iterate 4
      refine wpTre_read (v := ?_) rfl (by rfl) ?_ ?_
      rotate_left
      ·intro W hW
       try (obtain ⟨z1, z2, z3, z4, z5, z6, z7⟩ : _ /\ _ /\ _ /\ _ /\ _ /\ _ /\ _ := hW)
       go_simp
       try simp only [hwrp]
       try rfl
      simp only [Act.put, sa_, sb_, sc_]
     refine wpTre_act rfl ?_
     go_wp2
     refine tre_at' (λ w25 hw => ?_)
     obtain ⟨X, hN⟩ : ∃ N, w24.heap.size = N := ⟨_, rfl⟩
     have hk : Keeps Nob w24 w25 := by rw [hw]; exact Keeps.alloc _ _ _
     have XW : Hid (wr.heap.size <= X) := by show _ <= _; rw [<- hN]; exact KT.out.size
     have hb := Blk.new w24 35 #[.int .i64 0, .slice none 0 0, .int .i64 0, .slice none 0 0, .slice none 0 0, .slice none 0 0]
     rw [<- hw, hN] at hb
     have BX := Hd hb
     rw [hN]
     have hne : X ≠ Y := λ e => by have h := BY.out.lt; omega
     have HXY := Hd hne
     clear hne
     clear hw hN hb
     replace HC : Hid (_ /\ _ /\ _ /\ _ /\ _ /\ _ /\ _) := ⟨hk.cell HC.out.1 id, hk.cell HC.out.2.1 id, hk.cell HC.out.2.2.1 id, hk.cell HC.out.2.2.2.1 id, hk.cell HC.out.2.2.2.2.1 id, hk.cell HC.out.2.2.2.2.2.1 id, hk.cell HC.out.2.2.2.2.2.2 id⟩
     replace HMD := Hd (HMD.out.keeps hk (λ _ _ _ => id))
     replace BY := Hd (BY.out.keeps hk id)
     replace HL := Hd (HL.out.keeps hk (λ _ _ _ => id))
     replace HR := Hd (HR.out.keeps hk (λ _ _ _ => id))
     replace HKB := Hd (HKB.out.keeps hk (λ _ _ _ => id))
     replace KT := tq_ KT hk
     clear hk
     refine ⟨.inr HC.out, ?_⟩
     refine wpTre_act rfl ?_
     clear HMD
     have qBX0 := BX.out.cell 0
     have qBX1 := BX.out.cell 1
     have qBX2 := BX.out.cell 2
     have qBX3 := BX.out.cell 3
     have qBX4 := BX.out.cell 4
     have qBX5 := BX.out.cell 5
     have gBX0 := BX.out.frozen 0
     have gBX1 := BX.out.frozen 1
     have gBX2 := BX.out.frozen 2
     have gBX3 := BX.out.frozen 3
     have gBX4 := BX.out.frozen 4
     have gBX5 := BX.out.frozen 5
     go_wp2
     clear qBX0 qBX1 qBX2 qBX3 qBX4 qBX5 gBX0 gBX1 gBX2 gBX3 gBX4 gBX5
     refine tre_at' (λ w26 hw => ?_)
     have hk : Keeps (λ x => x = X) w25 w26 := by rw [hw]; exact (((((Keeps.setCell _ (M := λ x => x = X) rfl _).setCell' (λ _ => rfl) _).setCell' (λ _ => rfl) _).setCell' (λ _ => rfl) _).setCell' (λ _ => rfl) _).setCell' (λ _ => rfl) _
     have hb : Hid (Blk w26 X 35 #[.int .i64 ((spL m ((A.sl.length : Int) + 1))).lvl, .slice D1 ((spL m ((A.sl.length : Int) + 1))).high.length dj1, .int .i64 ((spL m ((A.sl.length : Int) + 1))).right, .slice D3 ((spL m ((A.sl.length : Int) + 1))).keys.length dj3, .slice D4 ((spL m ((A.sl.length : Int) + 1))).vals.length dj4, .slice D5 ((spL m ((A.sl.length : Int) + 1))).kids.length dj5]) := by show Blk _ _ _ _; rw [hw]; exact ((((((BX.out.set_ 0 _).set_ 1 _).set_ 2 _).set_ 3 _).set_ 4 _).set_ 5 _)
     have hz : w26.heap.size = w25.heap.size := by rw [hw]; simp
     clear hw
     replace HL := Hd (ONd.keepsB HL.out BX.out ⟨by decide, by decide, by decide⟩ hk)
     replace HR := Hd (ONd.keepsB HR.out BX.out ⟨by decide, by decide, by decide⟩ hk)
     replace HKB := Hd (OBy.keepsB HKB.out BX.out ⟨by decide, by decide, by decide⟩ hk)
     replace BY := Hd (BY.out.keeps hk (λ e => HXY.out e.symm))
     replace BX := hb
     clear hb
     replace KT := Hd (KT.out.trans hk (λ x hx e => by have h := XW.out; have e2 : x = X := e; omega))
     clear hk hz
     refine ⟨.inl (by rfl), ?_⟩
     refine wpTre_act rfl ?_
     have qBY0 := BY.out.cell 0
     have qBY1 := BY.out.cell 1
     have qBY2 := BY.out.cell 2
     have qBY3 := BY.out.cell 3
     have qBY4 := BY.out.cell 4
     have qBY5 := BY.out.cell 5
     have gBY0 := BY.out.frozen 0
     have gBY1 := BY.out.frozen 1
     have gBY2 := BY.out.frozen 2
     have gBY3 := BY.out.frozen 3
     have gBY4 := BY.out.frozen 4
     have gBY5 := BY.out.frozen 5
     go_wp2
     clear qBY0 qBY1 qBY2 qBY3 qBY4 qBY5 gBY0 gBY1 gBY2 gBY3 gBY4 gBY5
     refine tre_at' (λ w27 hw => ?_)
     have hk : Keeps (λ x => x = Y) w26 w27 := by rw [hw]; exact (((((Keeps.setCell _ (M := λ x => x = Y) rfl _).setCell' (λ _ => rfl) _).setCell' (λ _ => rfl) _).setCell' (λ _ => rfl) _).setCell' (λ _ => rfl) _).setCell' (λ _ => rfl) _
     have hb : Hid (Blk w27 Y 35 #[.int .i64 ((spR m)).lvl, .slice E1 ((spR m)).high.length ej1, .int .i64 ((spR m)).right, .slice E3 ((spR m)).keys.length ej3, .slice E4 ((spR m)).vals.length ej4, .slice E5 ((spR m)).kids.length ej5]) := by show Blk _ _ _ _; rw [hw]; exact ((((((BY.out.set_ 0 _).set_ 1 _).set_ 2 _).set_ 3 _).set_ 4 _).set_ 5 _)
     have hz : w27.heap.size = w26.heap.size := by rw [hw]; simp
     clear hw
     replace HL := Hd (ONd.keepsB HL.out BY.out ⟨by decide, by decide, by decide⟩ hk)
     replace HR := Hd (ONd.keepsB HR.out BY.out ⟨by decide, by decide, by decide⟩ hk)
     replace HKB := Hd (OBy.keepsB HKB.out BY.out ⟨by decide, by decide, by decide⟩ hk)
     replace BX := Hd (BX.out.keeps hk (λ e => HXY.out e))
     replace BY := hb
     clear hb
     replace KT := Hd (KT.out.trans hk (λ x hx e => by have h := YW.out; have e2 : x = Y := e; omega))
     clear hk hz
     refine ⟨.inl (by rfl), ?_⟩
     iterate 1
      refine wpTre_read (v := ?_) rfl (by rfl) ?_ ?_
      rotate_left
      ·intro W hW
       try (obtain ⟨z1, z2, z3, z4, z5, z6, z7⟩ : _ /\ _ /\ _ /\ _ /\ _ /\ _ /\ _ := hW)
       go_simp
       try simp only [hwrp]
       try rfl
      simp only [Act.put, sa_, sb_, sc_]
     refine wpTre_nil ?_
     exact ⟨(X, Y, #[.int .i64 ((spL m ((A.sl.length : Int) + 1))).lvl, .slice D1 ((spL m ((A.sl.length : Int) + 1))).high.length dj1, .int .i64 ((spL m ((A.sl.length : Int) + 1))).right, .slice D3 ((spL m ((A.sl.length : Int) + 1))).keys.length dj3, .slice D4 ((spL m ((A.sl.length : Int) + 1))).vals.length dj4, .slice D5 ((spL m ((A.sl.length : Int) + 1))).kids.length dj5], #[.int .i64 ((spR m)).lvl, .slice E1 ((spR m)).high.length ej1, .int .i64 ((spR m)).right, .slice E3 ((spR m)).keys.length ej3, .slice E4 ((spR m)).vals.length ej4, .slice E5 ((spR m)).kids.length ej5], .slice KB (spK m).length kbc), by simp only [putsA, Act.put, sa_, sb_, sc_], ⟨_, _, _, _, _, _, _, _, _, _, _, _, rfl, rfl, HL.out.mono (λ x hx hS => ⟨hS.1, hx⟩), HR.out.mono (λ x hx hS => ⟨hS.1, hx⟩)⟩, HKB.out.mono (λ x hx hS => ⟨hS.1, hx⟩), BX.out, BY.out, KT.out, ⟨XW.out, YW.out⟩, HXY.out⟩
    ·go_wp2
     refine tre_at' (λ w28 hw => ?_)
     obtain ⟨X, hN⟩ : ∃ N, w23.heap.size = N := ⟨_, rfl⟩
     have hk : Keeps Nob w23 w28 := by rw [hw]; exact Keeps.alloc _ _ _
     have XW : Hid (wr.heap.size <= X) := by show _ <= _; rw [<- hN]; exact KT.out.size
     have hb := Blk.new w23 35 #[.int .i64 0, .slice none 0 0, .int .i64 0, .slice none 0 0, .slice none 0 0, .slice none 0 0]
     rw [<- hw, hN] at hb
     have BX := Hd hb
     rw [hN]
     have hne : X ≠ Y := λ e => by have h := BY.out.lt; omega
     have HXY := Hd hne
     clear hne
     clear hw hN hb
     replace HC : Hid (_ /\ _ /\ _ /\ _ /\ _ /\ _ /\ _) := ⟨hk.cell HC.out.1 id, hk.cell HC.out.2.1 id, hk.cell HC.out.2.2.1 id, hk.cell HC.out.2.2.2.1 id, hk.cell HC.out.2.2.2.2.1 id, hk.cell HC.out.2.2.2.2.2.1 id, hk.cell HC.out.2.2.2.2.2.2 id⟩
     replace HMD := Hd (HMD.out.keeps hk (λ _ _ _ => id))
     replace BY := Hd (BY.out.keeps hk id)
     replace KT := tq_ KT hk
     clear hk
     refine ⟨.inr HC.out, ?_⟩
     refine wpTre_act rfl ?_
     go_wp2_with (go_at_call 40; refine (splitR HMD.out HSM.out HRM.out).mono ?_; rintro e w29 ⟨d0, d1, d2, d3, d4, d5, e0, e1, e2, e3, e4, e5, kv, rfl, hO, hQ, hkv, hk⟩)
     obtain ⟨D1, dj1, f1⟩ := Own.form hO.1.high
     obtain ⟨D3, dj3, f3⟩ := OTx.form hO.2.keys
     obtain ⟨D4, dj4, f4⟩ := OTx.form hO.2.vals
     obtain ⟨D5, dj5, f5⟩ := Own.form hO.2.kids
     have f0 := hO.1.lvl
     have f2 := hO.1.right
     unfold iV at f0 f2
     subst f0 f1 f2 f3 f4 f5
     obtain ⟨E1, ej1, f1⟩ := Own.form hQ.1.high
     obtain ⟨E3, ej3, f3⟩ := OTx.form hQ.2.keys
     obtain ⟨E4, ej4, f4⟩ := OTx.form hQ.2.vals
     obtain ⟨E5, ej5, f5⟩ := Own.form hQ.2.kids
     have f0 := hQ.1.lvl
     have f2 := hQ.1.right
     unfold iV at f0 f2
     subst f0 f1 f2 f3 f4 f5
     obtain ⟨KB, kbc, hf⟩ := hkv.form
     subst hf
     have hs9 := KT.out.size
     have HL : Hid (ONd w29 (Fresh wr w29) _ _ _ _ _ _ (spL m ((A.sl.length : Int) + 1))) := hO.mono (λ x _ hx => ⟨Nat.le_trans hs9 hx.1, hx.2⟩)
     have HR : Hid (ONd w29 (Fresh wr w29) _ _ _ _ _ _ (spR m)) := hQ.mono (λ x _ hx => ⟨Nat.le_trans hs9 hx.1, hx.2⟩)
     have HKB : Hid (OBy w29 (Fresh wr w29) (.slice KB (spK m).length kbc) (spK m)) := hkv.mono (λ x _ hx => ⟨Nat.le_trans hs9 hx.1, hx.2⟩)
     clear hO hQ hkv hs9
     replace HC : Hid (_ /\ _ /\ _ /\ _ /\ _ /\ _ /\ _) := ⟨hk.cell HC.out.1 id, hk.cell HC.out.2.1 id, hk.cell HC.out.2.2.1 id, hk.cell HC.out.2.2.2.1 id, hk.cell HC.out.2.2.2.2.1 id, hk.cell HC.out.2.2.2.2.2.1 id, hk.cell HC.out.2.2.2.2.2.2 id⟩
     replace HMD := Hd (HMD.out.keeps hk (λ _ _ _ => id))
     replace BY := Hd (BY.out.keeps hk id)
     replace BX := Hd (BX.out.keeps hk id)
     replace KT := tq_ KT hk
     clear hk
     refine ⟨.inr HC.out, ?_⟩
     iterate 4
      refine wpTre_read (v := ?_) rfl (by rfl) ?_ ?_
      rotate_left
      ·intro W hW
       try (obtain ⟨z1, z2, z3, z4, z5, z6, z7⟩ : _ /\ _ /\ _ /\ _ /\ _ /\ _ /\ _ := hW)
       go_simp
       try simp only [hwrp]
       try rfl
      simp only [Act.put, sa_, sb_, sc_]
     refine wpTre_act rfl ?_
     clear HMD
     have qBX0 := BX.out.cell 0
     have qBX1 := BX.out.cell 1
     have qBX2 := BX.out.cell 2
     have qBX3 := BX.out.cell 3
     have qBX4 := BX.out.cell 4
     have qBX5 := BX.out.cell 5
     have gBX0 := BX.out.frozen 0
     have gBX1 := BX.out.frozen 1
     have gBX2 := BX.out.frozen 2
     have gBX3 := BX.out.frozen 3
     have gBX4 := BX.out.frozen 4
     have gBX5 := BX.out.frozen 5
     go_wp2
     clear qBX0 qBX1 qBX2 qBX3 qBX4 qBX5 gBX0 gBX1 gBX2 gBX3 gBX4 gBX5
     refine tre_at' (λ w30 hw => ?_)
     have hk : Keeps (λ x => x = X) w29 w30 := by rw [hw]; exact (((((Keeps.setCell _ (M := λ x => x = X) rfl _).setCell' (λ _ => rfl) _).setCell' (λ _ => rfl) _).setCell' (λ _ => rfl) _).setCell' (λ _ => rfl) _).setCell' (λ _ => rfl) _
     have hb : Hid (Blk w30 X 35 #[.int .i64 ((spL m ((A.sl.length : Int) + 1))).lvl, .slice D1 ((spL m ((A.sl.length : Int) + 1))).high.length dj1, .int .i64 ((spL m ((A.sl.length : Int) + 1))).right, .slice D3 ((spL m ((A.sl.length : Int) + 1))).keys.length dj3, .slice D4 ((spL m ((A.sl.length : Int) + 1))).vals.length dj4, .slice D5 ((spL m ((A.sl.length : Int) + 1))).kids.length dj5]) := by show Blk _ _ _ _; rw [hw]; exact ((((((BX.out.set_ 0 _).set_ 1 _).set_ 2 _).set_ 3 _).set_ 4 _).set_ 5 _)
     have hz : w30.heap.size = w29.heap.size := by rw [hw]; simp
     clear hw
     replace HL := Hd (ONd.keepsB HL.out BX.out ⟨by decide, by decide, by decide⟩ hk)
     replace HR := Hd (ONd.keepsB HR.out BX.out ⟨by decide, by decide, by decide⟩ hk)
     replace HKB := Hd (OBy.keepsB HKB.out BX.out ⟨by decide, by decide, by decide⟩ hk)
     replace BY := Hd (BY.out.keeps hk (λ e => HXY.out e.symm))
     replace BX := hb
     clear hb
     replace KT := Hd (KT.out.trans hk (λ x hx e => by have h := XW.out; have e2 : x = X := e; omega))
     clear hk hz
     refine ⟨.inl (by rfl), ?_⟩
     refine wpTre_act rfl ?_
     have qBY0 := BY.out.cell 0
     have qBY1 := BY.out.cell 1
     have qBY2 := BY.out.cell 2
     have qBY3 := BY.out.cell 3
     have qBY4 := BY.out.cell 4
     have qBY5 := BY.out.cell 5
     have gBY0 := BY.out.frozen 0
     have gBY1 := BY.out.frozen 1
     have gBY2 := BY.out.frozen 2
     have gBY3 := BY.out.frozen 3
     have gBY4 := BY.out.frozen 4
     have gBY5 := BY.out.frozen 5
     go_wp2
     clear qBY0 qBY1 qBY2 qBY3 qBY4 qBY5 gBY0 gBY1 gBY2 gBY3 gBY4 gBY5
     refine tre_at' (λ w31 hw => ?_)
     have hk : Keeps (λ x => x = Y) w30 w31 := by rw [hw]; exact (((((Keeps.setCell _ (M := λ x => x = Y) rfl _).setCell' (λ _ => rfl) _).setCell' (λ _ => rfl) _).setCell' (λ _ => rfl) _).setCell' (λ _ => rfl) _).setCell' (λ _ => rfl) _
     have hb : Hid (Blk w31 Y 35 #[.int .i64 ((spR m)).lvl, .slice E1 ((spR m)).high.length ej1, .int .i64 ((spR m)).right, .slice E3 ((spR m)).keys.length ej3, .slice E4 ((spR m)).vals.length ej4, .slice E5 ((spR m)).kids.length ej5]) := by show Blk _ _ _ _; rw [hw]; exact ((((((BY.out.set_ 0 _).set_ 1 _).set_ 2 _).set_ 3 _).set_ 4 _).set_ 5 _)
     have hz : w31.heap.size = w30.heap.size := by rw [hw]; simp
     clear hw
     replace HL := Hd (ONd.keepsB HL.out BY.out ⟨by decide, by decide, by decide⟩ hk)
     replace HR := Hd (ONd.keepsB HR.out BY.out ⟨by decide, by decide, by decide⟩ hk)
     replace HKB := Hd (OBy.keepsB HKB.out BY.out ⟨by decide, by decide, by decide⟩ hk)
     replace BX := Hd (BX.out.keeps hk (λ e => HXY.out e))
     replace BY := hb
     clear hb
     replace KT := Hd (KT.out.trans hk (λ x hx e => by have h := YW.out; have e2 : x = Y := e; omega))
     clear hk hz
     refine ⟨.inl (by rfl), ?_⟩
     iterate 1
      refine wpTre_read (v := ?_) rfl (by rfl) ?_ ?_
      rotate_left
      ·intro W hW
       try (obtain ⟨z1, z2, z3, z4, z5, z6, z7⟩ : _ /\ _ /\ _ /\ _ /\ _ /\ _ /\ _ := hW)
       go_simp
       try simp only [hwrp]
       try rfl
      simp only [Act.put, sa_, sb_, sc_]
     refine wpTre_nil ?_
     exact ⟨(X, Y, #[.int .i64 ((spL m ((A.sl.length : Int) + 1))).lvl, .slice D1 ((spL m ((A.sl.length : Int) + 1))).high.length dj1, .int .i64 ((spL m ((A.sl.length : Int) + 1))).right, .slice D3 ((spL m ((A.sl.length : Int) + 1))).keys.length dj3, .slice D4 ((spL m ((A.sl.length : Int) + 1))).vals.length dj4, .slice D5 ((spL m ((A.sl.length : Int) + 1))).kids.length dj5], #[.int .i64 ((spR m)).lvl, .slice E1 ((spR m)).high.length ej1, .int .i64 ((spR m)).right, .slice E3 ((spR m)).keys.length ej3, .slice E4 ((spR m)).vals.length ej4, .slice E5 ((spR m)).kids.length ej5], .slice KB (spK m).length kbc), by simp only [putsA, Act.put, sa_, sb_, sc_], ⟨_, _, _, _, _, _, _, _, _, _, _, _, rfl, rfl, HL.out.mono (λ x hx hS => ⟨hS.1, hx⟩), HR.out.mono (λ x hx hS => ⟨hS.1, hx⟩)⟩, HKB.out.mono (λ x hx hS => ⟨hS.1, hx⟩), BX.out, BY.out, KT.out, ⟨XW.out, YW.out⟩, HXY.out⟩
  ·go_wp2
   refine tre_at' (λ w32 hw => ?_)
   obtain ⟨X, hN⟩ : ∃ N, w4.heap.size = N := ⟨_, rfl⟩
   have hk : Keeps Nob w4 w32 := by rw [hw]; exact Keeps.alloc _ _ _
   have XW : Hid (wr.heap.size <= X) := by show _ <= _; rw [<- hN]; exact KT.out.size
   have hb := Blk.new w4 35 #[.int .i64 0, .slice none 0 0, .int .i64 0, .slice none 0 0, .slice none 0 0, .slice none 0 0]
   rw [<- hw, hN] at hb
   have BX := Hd hb
   rw [hN]
   clear hw hN hb
   replace HC : Hid (_ /\ _ /\ _ /\ _ /\ _ /\ _ /\ _) := ⟨hk.cell HC.out.1 id, hk.cell HC.out.2.1 id, hk.cell HC.out.2.2.1 id, hk.cell HC.out.2.2.2.1 id, hk.cell HC.out.2.2.2.2.1 id, hk.cell HC.out.2.2.2.2.2.1 id, hk.cell HC.out.2.2.2.2.2.2 id⟩
   replace HMD := Hd (HMD.out.keeps hk (λ _ _ _ => id))
   replace KT := tq_ KT hk
   clear hk
   refine ⟨.inr HC.out, ?_⟩
   refine wpTre_two rfl rfl ?_ ?_
   ·have FU := (HJ.out.nob (K.out.trans KT.out (λ _ _ h => h))).usedR
    unfold pV iV at FU
    go_wp2_with (go_at_call 16; refine FU.mono ?_; rintro e wk ⟨rfl, rfl⟩)
    clear FU
    refine ⟨.inr HC.out, ?_⟩
    iterate 1
     refine wpTre_read (v := ?_) rfl (by rfl) ?_ ?_
     rotate_left
     ·intro W hW
      try (obtain ⟨z1, z2, z3, z4, z5, z6, z7⟩ : _ /\ _ /\ _ /\ _ /\ _ /\ _ /\ _ := hW)
      go_simp
      try simp only [hwrp]
      try rfl
     simp only [Act.put, sa_, sb_, sc_]
    refine wpTre_two rfl rfl ?_ ?_
    ·go_wp2_with (go_at_call 40; refine (splitR HMD.out HSM.out HRM.out).mono ?_; rintro e w33 ⟨d0, d1, d2, d3, d4, d5, e0, e1, e2, e3, e4, e5, kv, rfl, hO, hQ, hkv, hk⟩)
     obtain ⟨D1, dj1, f1⟩ := Own.form hO.1.high
     obtain ⟨D3, dj3, f3⟩ := OTx.form hO.2.keys
     obtain ⟨D4, dj4, f4⟩ := OTx.form hO.2.vals
     obtain ⟨D5, dj5, f5⟩ := Own.form hO.2.kids
     have f0 := hO.1.lvl
     have f2 := hO.1.right
     unfold iV at f0 f2
     subst f0 f1 f2 f3 f4 f5
     obtain ⟨E1, ej1, f1⟩ := Own.form hQ.1.high
     obtain ⟨E3, ej3, f3⟩ := OTx.form hQ.2.keys
     obtain ⟨E4, ej4, f4⟩ := OTx.form hQ.2.vals
     obtain ⟨E5, ej5, f5⟩ := Own.form hQ.2.kids
     have f0 := hQ.1.lvl
     have f2 := hQ.1.right
     unfold iV at f0 f2
     subst f0 f1 f2 f3 f4 f5
     obtain ⟨KB, kbc, hf⟩ := hkv.form
     subst hf
     have hs9 := KT.out.size
     have HL : Hid (ONd w33 (Fresh wr w33) _ _ _ _ _ _ (spL m ((A.sl.length : Int) + 1))) := hO.mono (λ x _ hx => ⟨Nat.le_trans hs9 hx.1, hx.2⟩)
     have HR : Hid (ONd w33 (Fresh wr w33) _ _ _ _ _ _ (spR m)) := hQ.mono (λ x _ hx => ⟨Nat.le_trans hs9 hx.1, hx.2⟩)
     have HKB : Hid (OBy w33 (Fresh wr w33) (.slice KB (spK m).length kbc) (spK m)) := hkv.mono (λ x _ hx => ⟨Nat.le_trans hs9 hx.1, hx.2⟩)
     clear hO hQ hkv hs9
     replace HC : Hid (_ /\ _ /\ _ /\ _ /\ _ /\ _ /\ _) := ⟨hk.cell HC.out.1 id, hk.cell HC.out.2.1 id, hk.cell HC.out.2.2.1 id, hk.cell HC.out.2.2.2.1 id, hk.cell HC.out.2.2.2.2.1 id, hk.cell HC.out.2.2.2.2.2.1 id, hk.cell HC.out.2.2.2.2.2.2 id⟩
     replace HMD := Hd (HMD.out.keeps hk (λ _ _ _ => id))
     replace BX := Hd (BX.out.keeps hk id)
     replace KT := tq_ KT hk
     clear hk
     refine ⟨.inr HC.out, ?_⟩
     iterate 4
      refine wpTre_read (v := ?_) rfl (by rfl) ?_ ?_
      rotate_left
      ·intro W hW
       try (obtain ⟨z1, z2, z3, z4, z5, z6, z7⟩ : _ /\ _ /\ _ /\ _ /\ _ /\ _ /\ _ := hW)
       go_simp
       try simp only [hwrp]
       try rfl
      simp only [Act.put, sa_, sb_, sc_]
     refine wpTre_act rfl ?_
     go_wp2
     refine tre_at' (λ w34 hw => ?_)
     obtain ⟨Y, hN⟩ : ∃ N, w33.heap.size = N := ⟨_, rfl⟩
     have hk : Keeps Nob w33 w34 := by rw [hw]; exact Keeps.alloc _ _ _
     have YW : Hid (wr.heap.size <= Y) := by show _ <= _; rw [<- hN]; exact KT.out.size
     have hb := Blk.new w33 35 #[.int .i64 0, .slice none 0 0, .int .i64 0, .slice none 0 0, .slice none 0 0, .slice none 0 0]
     rw [<- hw, hN] at hb
     have BY := Hd hb
     rw [hN]
     have hne : X ≠ Y := λ e => by have h := BX.out.lt; omega
     have HXY := Hd hne
     clear hne
     clear hw hN hb
     replace HC : Hid (_ /\ _ /\ _ /\ _ /\ _ /\ _ /\ _) := ⟨hk.cell HC.out.1 id, hk.cell HC.out.2.1 id, hk.cell HC.out.2.2.1 id, hk.cell HC.out.2.2.2.1 id, hk.cell HC.out.2.2.2.2.1 id, hk.cell HC.out.2.2.2.2.2.1 id, hk.cell HC.out.2.2.2.2.2.2 id⟩
     replace HMD := Hd (HMD.out.keeps hk (λ _ _ _ => id))
     replace BX := Hd (BX.out.keeps hk id)
     replace HL := Hd (HL.out.keeps hk (λ _ _ _ => id))
     replace HR := Hd (HR.out.keeps hk (λ _ _ _ => id))
     replace HKB := Hd (HKB.out.keeps hk (λ _ _ _ => id))
     replace KT := tq_ KT hk
     clear hk
     refine ⟨.inr HC.out, ?_⟩
     refine wpTre_act rfl ?_
     clear HMD
     have qBX0 := BX.out.cell 0
     have qBX1 := BX.out.cell 1
     have qBX2 := BX.out.cell 2
     have qBX3 := BX.out.cell 3
     have qBX4 := BX.out.cell 4
     have qBX5 := BX.out.cell 5
     have gBX0 := BX.out.frozen 0
     have gBX1 := BX.out.frozen 1
     have gBX2 := BX.out.frozen 2
     have gBX3 := BX.out.frozen 3
     have gBX4 := BX.out.frozen 4
     have gBX5 := BX.out.frozen 5
     go_wp2
     clear qBX0 qBX1 qBX2 qBX3 qBX4 qBX5 gBX0 gBX1 gBX2 gBX3 gBX4 gBX5
     refine tre_at' (λ w35 hw => ?_)
     have hk : Keeps (λ x => x = X) w34 w35 := by rw [hw]; exact (((((Keeps.setCell _ (M := λ x => x = X) rfl _).setCell' (λ _ => rfl) _).setCell' (λ _ => rfl) _).setCell' (λ _ => rfl) _).setCell' (λ _ => rfl) _).setCell' (λ _ => rfl) _
     have hb : Hid (Blk w35 X 35 #[.int .i64 ((spL m ((A.sl.length : Int) + 1))).lvl, .slice D1 ((spL m ((A.sl.length : Int) + 1))).high.length dj1, .int .i64 ((spL m ((A.sl.length : Int) + 1))).right, .slice D3 ((spL m ((A.sl.length : Int) + 1))).keys.length dj3, .slice D4 ((spL m ((A.sl.length : Int) + 1))).vals.length dj4, .slice D5 ((spL m ((A.sl.length : Int) + 1))).kids.length dj5]) := by show Blk _ _ _ _; rw [hw]; exact ((((((BX.out.set_ 0 _).set_ 1 _).set_ 2 _).set_ 3 _).set_ 4 _).set_ 5 _)
     have hz : w35.heap.size = w34.heap.size := by rw [hw]; simp
     clear hw
     replace HL := Hd (ONd.keepsB HL.out BX.out ⟨by decide, by decide, by decide⟩ hk)
     replace HR := Hd (ONd.keepsB HR.out BX.out ⟨by decide, by decide, by decide⟩ hk)
     replace HKB := Hd (OBy.keepsB HKB.out BX.out ⟨by decide, by decide, by decide⟩ hk)
     replace BY := Hd (BY.out.keeps hk (λ e => HXY.out e.symm))
     replace BX := hb
     clear hb
     replace KT := Hd (KT.out.trans hk (λ x hx e => by have h := XW.out; have e2 : x = X := e; omega))
     clear hk hz
     refine ⟨.inl (by rfl), ?_⟩
     refine wpTre_act rfl ?_
     have qBY0 := BY.out.cell 0
     have qBY1 := BY.out.cell 1
     have qBY2 := BY.out.cell 2
     have qBY3 := BY.out.cell 3
     have qBY4 := BY.out.cell 4
     have qBY5 := BY.out.cell 5
     have gBY0 := BY.out.frozen 0
     have gBY1 := BY.out.frozen 1
     have gBY2 := BY.out.frozen 2
     have gBY3 := BY.out.frozen 3
     have gBY4 := BY.out.frozen 4
     have gBY5 := BY.out.frozen 5
     go_wp2
     clear qBY0 qBY1 qBY2 qBY3 qBY4 qBY5 gBY0 gBY1 gBY2 gBY3 gBY4 gBY5
     refine tre_at' (λ w36 hw => ?_)
     have hk : Keeps (λ x => x = Y) w35 w36 := by rw [hw]; exact (((((Keeps.setCell _ (M := λ x => x = Y) rfl _).setCell' (λ _ => rfl) _).setCell' (λ _ => rfl) _).setCell' (λ _ => rfl) _).setCell' (λ _ => rfl) _).setCell' (λ _ => rfl) _
     have hb : Hid (Blk w36 Y 35 #[.int .i64 ((spR m)).lvl, .slice E1 ((spR m)).high.length ej1, .int .i64 ((spR m)).right, .slice E3 ((spR m)).keys.length ej3, .slice E4 ((spR m)).vals.length ej4, .slice E5 ((spR m)).kids.length ej5]) := by show Blk _ _ _ _; rw [hw]; exact ((((((BY.out.set_ 0 _).set_ 1 _).set_ 2 _).set_ 3 _).set_ 4 _).set_ 5 _)
     have hz : w36.heap.size = w35.heap.size := by rw [hw]; simp
     clear hw
     replace HL := Hd (ONd.keepsB HL.out BY.out ⟨by decide, by decide, by decide⟩ hk)
     replace HR := Hd (ONd.keepsB HR.out BY.out ⟨by decide, by decide, by decide⟩ hk)
     replace HKB := Hd (OBy.keepsB HKB.out BY.out ⟨by decide, by decide, by decide⟩ hk)
     replace BX := Hd (BX.out.keeps hk (λ e => HXY.out e))
     replace BY := hb
     clear hb
     replace KT := Hd (KT.out.trans hk (λ x hx e => by have h := YW.out; have e2 : x = Y := e; omega))
     clear hk hz
     refine ⟨.inl (by rfl), ?_⟩
     iterate 1
      refine wpTre_read (v := ?_) rfl (by rfl) ?_ ?_
      rotate_left
      ·intro W hW
       try (obtain ⟨z1, z2, z3, z4, z5, z6, z7⟩ : _ /\ _ /\ _ /\ _ /\ _ /\ _ /\ _ := hW)
       go_simp
       try simp only [hwrp]
       try rfl
      simp only [Act.put, sa_, sb_, sc_]
     refine wpTre_nil ?_
     exact ⟨(X, Y, #[.int .i64 ((spL m ((A.sl.length : Int) + 1))).lvl, .slice D1 ((spL m ((A.sl.length : Int) + 1))).high.length dj1, .int .i64 ((spL m ((A.sl.length : Int) + 1))).right, .slice D3 ((spL m ((A.sl.length : Int) + 1))).keys.length dj3, .slice D4 ((spL m ((A.sl.length : Int) + 1))).vals.length dj4, .slice D5 ((spL m ((A.sl.length : Int) + 1))).kids.length dj5], #[.int .i64 ((spR m)).lvl, .slice E1 ((spR m)).high.length ej1, .int .i64 ((spR m)).right, .slice E3 ((spR m)).keys.length ej3, .slice E4 ((spR m)).vals.length ej4, .slice E5 ((spR m)).kids.length ej5], .slice KB (spK m).length kbc), by simp only [putsA, Act.put, sa_, sb_, sc_], ⟨_, _, _, _, _, _, _, _, _, _, _, _, rfl, rfl, HL.out.mono (λ x hx hS => ⟨hS.1, hx⟩), HR.out.mono (λ x hx hS => ⟨hS.1, hx⟩)⟩, HKB.out.mono (λ x hx hS => ⟨hS.1, hx⟩), BX.out, BY.out, KT.out, ⟨XW.out, YW.out⟩, HXY.out⟩
    ·go_wp2
     refine tre_at' (λ w37 hw => ?_)
     obtain ⟨Y, hN⟩ : ∃ N, w32.heap.size = N := ⟨_, rfl⟩
     have hk : Keeps Nob w32 w37 := by rw [hw]; exact Keeps.alloc _ _ _
     have YW : Hid (wr.heap.size <= Y) := by show _ <= _; rw [<- hN]; exact KT.out.size
     have hb := Blk.new w32 35 #[.int .i64 0, .slice none 0 0, .int .i64 0, .slice none 0 0, .slice none 0 0, .slice none 0 0]
     rw [<- hw, hN] at hb
     have BY := Hd hb
     rw [hN]
     have hne : X ≠ Y := λ e => by have h := BX.out.lt; omega
     have HXY := Hd hne
     clear hne
     clear hw hN hb
     replace HC : Hid (_ /\ _ /\ _ /\ _ /\ _ /\ _ /\ _) := ⟨hk.cell HC.out.1 id, hk.cell HC.out.2.1 id, hk.cell HC.out.2.2.1 id, hk.cell HC.out.2.2.2.1 id, hk.cell HC.out.2.2.2.2.1 id, hk.cell HC.out.2.2.2.2.2.1 id, hk.cell HC.out.2.2.2.2.2.2 id⟩
     replace HMD := Hd (HMD.out.keeps hk (λ _ _ _ => id))
     replace BX := Hd (BX.out.keeps hk id)
     replace KT := tq_ KT hk
     clear hk
     refine ⟨.inr HC.out, ?_⟩
     refine wpTre_act rfl ?_
     go_wp2_with (go_at_call 40; refine (splitR HMD.out HSM.out HRM.out).mono ?_; rintro e w38 ⟨d0, d1, d2, d3, d4, d5, e0, e1, e2, e3, e4, e5, kv, rfl, hO, hQ, hkv, hk⟩)
     obtain ⟨D1, dj1, f1⟩ := Own.form hO.1.high
     obtain ⟨D3, dj3, f3⟩ := OTx.form hO.2.keys
     obtain ⟨D4, dj4, f4⟩ := OTx.form hO.2.vals
     obtain ⟨D5, dj5, f5⟩ := Own.form hO.2.kids
     have f0 := hO.1.lvl
     have f2 := hO.1.right
     unfold iV at f0 f2
     subst f0 f1 f2 f3 f4 f5
     obtain ⟨E1, ej1, f1⟩ := Own.form hQ.1.high
     obtain ⟨E3, ej3, f3⟩ := OTx.form hQ.2.keys
     obtain ⟨E4, ej4, f4⟩ := OTx.form hQ.2.vals
     obtain ⟨E5, ej5, f5⟩ := Own.form hQ.2.kids
     have f0 := hQ.1.lvl
     have f2 := hQ.1.right
     unfold iV at f0 f2
     subst f0 f1 f2 f3 f4 f5
     obtain ⟨KB, kbc, hf⟩ := hkv.form
     subst hf
     have hs9 := KT.out.size
     have HL : Hid (ONd w38 (Fresh wr w38) _ _ _ _ _ _ (spL m ((A.sl.length : Int) + 1))) := hO.mono (λ x _ hx => ⟨Nat.le_trans hs9 hx.1, hx.2⟩)
     have HR : Hid (ONd w38 (Fresh wr w38) _ _ _ _ _ _ (spR m)) := hQ.mono (λ x _ hx => ⟨Nat.le_trans hs9 hx.1, hx.2⟩)
     have HKB : Hid (OBy w38 (Fresh wr w38) (.slice KB (spK m).length kbc) (spK m)) := hkv.mono (λ x _ hx => ⟨Nat.le_trans hs9 hx.1, hx.2⟩)
     clear hO hQ hkv hs9
     replace HC : Hid (_ /\ _ /\ _ /\ _ /\ _ /\ _ /\ _) := ⟨hk.cell HC.out.1 id, hk.cell HC.out.2.1 id, hk.cell HC.out.2.2.1 id, hk.cell HC.out.2.2.2.1 id, hk.cell HC.out.2.2.2.2.1 id, hk.cell HC.out.2.2.2.2.2.1 id, hk.cell HC.out.2.2.2.2.2.2 id⟩
     replace HMD := Hd (HMD.out.keeps hk (λ _ _ _ => id))
     replace BX := Hd (BX.out.keeps hk id)
     replace BY := Hd (BY.out.keeps hk id)
     replace KT := tq_ KT hk
     clear hk
     refine ⟨.inr HC.out, ?_⟩
     iterate 4
      refine wpTre_read (v := ?_) rfl (by rfl) ?_ ?_
      rotate_left
      ·intro W hW
       try (obtain ⟨z1, z2, z3, z4, z5, z6, z7⟩ : _ /\ _ /\ _ /\ _ /\ _ /\ _ /\ _ := hW)
       go_simp
       try simp only [hwrp]
       try rfl
      simp only [Act.put, sa_, sb_, sc_]
     refine wpTre_act rfl ?_
     clear HMD
     have qBX0 := BX.out.cell 0
     have qBX1 := BX.out.cell 1
     have qBX2 := BX.out.cell 2
     have qBX3 := BX.out.cell 3
     have qBX4 := BX.out.cell 4
     have qBX5 := BX.out.cell 5
     have gBX0 := BX.out.frozen 0
     have gBX1 := BX.out.frozen 1
     have gBX2 := BX.out.frozen 2
     have gBX3 := BX.out.frozen 3
     have gBX4 := BX.out.frozen 4
     have gBX5 := BX.out.frozen 5
     go_wp2
     clear qBX0 qBX1 qBX2 qBX3 qBX4 qBX5 gBX0 gBX1 gBX2 gBX3 gBX4 gBX5
     refine tre_at' (λ w39 hw => ?_)
     have hk : Keeps (λ x => x = X) w38 w39 := by rw [hw]; exact (((((Keeps.setCell _ (M := λ x => x = X) rfl _).setCell' (λ _ => rfl) _).setCell' (λ _ => rfl) _).setCell' (λ _ => rfl) _).setCell' (λ _ => rfl) _).setCell' (λ _ => rfl) _
     have hb : Hid (Blk w39 X 35 #[.int .i64 ((spL m ((A.sl.length : Int) + 1))).lvl, .slice D1 ((spL m ((A.sl.length : Int) + 1))).high.length dj1, .int .i64 ((spL m ((A.sl.length : Int) + 1))).right, .slice D3 ((spL m ((A.sl.length : Int) + 1))).keys.length dj3, .slice D4 ((spL m ((A.sl.length : Int) + 1))).vals.length dj4, .slice D5 ((spL m ((A.sl.length : Int) + 1))).kids.length dj5]) := by show Blk _ _ _ _; rw [hw]; exact ((((((BX.out.set_ 0 _).set_ 1 _).set_ 2 _).set_ 3 _).set_ 4 _).set_ 5 _)
     have hz : w39.heap.size = w38.heap.size := by rw [hw]; simp
     clear hw
     replace HL := Hd (ONd.keepsB HL.out BX.out ⟨by decide, by decide, by decide⟩ hk)
     replace HR := Hd (ONd.keepsB HR.out BX.out ⟨by decide, by decide, by decide⟩ hk)
     replace HKB := Hd (OBy.keepsB HKB.out BX.out ⟨by decide, by decide, by decide⟩ hk)
     replace BY := Hd (BY.out.keeps hk (λ e => HXY.out e.symm))
     replace BX := hb
     clear hb
     replace KT := Hd (KT.out.trans hk (λ x hx e => by have h := XW.out; have e2 : x = X := e; omega))
     clear hk hz
     refine ⟨.inl (by rfl), ?_⟩
     refine wpTre_act rfl ?_
     have qBY0 := BY.out.cell 0
     have qBY1 := BY.out.cell 1
     have qBY2 := BY.out.cell 2
     have qBY3 := BY.out.cell 3
     have qBY4 := BY.out.cell 4
     have qBY5 := BY.out.cell 5
     have gBY0 := BY.out.frozen 0
     have gBY1 := BY.out.frozen 1
     have gBY2 := BY.out.frozen 2
     have gBY3 := BY.out.frozen 3
     have gBY4 := BY.out.frozen 4
     have gBY5 := BY.out.frozen 5
     go_wp2
     clear qBY0 qBY1 qBY2 qBY3 qBY4 qBY5 gBY0 gBY1 gBY2 gBY3 gBY4 gBY5
     refine tre_at' (λ w40 hw => ?_)
     have hk : Keeps (λ x => x = Y) w39 w40 := by rw [hw]; exact (((((Keeps.setCell _ (M := λ x => x = Y) rfl _).setCell' (λ _ => rfl) _).setCell' (λ _ => rfl) _).setCell' (λ _ => rfl) _).setCell' (λ _ => rfl) _).setCell' (λ _ => rfl) _
     have hb : Hid (Blk w40 Y 35 #[.int .i64 ((spR m)).lvl, .slice E1 ((spR m)).high.length ej1, .int .i64 ((spR m)).right, .slice E3 ((spR m)).keys.length ej3, .slice E4 ((spR m)).vals.length ej4, .slice E5 ((spR m)).kids.length ej5]) := by show Blk _ _ _ _; rw [hw]; exact ((((((BY.out.set_ 0 _).set_ 1 _).set_ 2 _).set_ 3 _).set_ 4 _).set_ 5 _)
     have hz : w40.heap.size = w39.heap.size := by rw [hw]; simp
     clear hw
     replace HL := Hd (ONd.keepsB HL.out BY.out ⟨by decide, by decide, by decide⟩ hk)
     replace HR := Hd (ONd.keepsB HR.out BY.out ⟨by decide, by decide, by decide⟩ hk)
     replace HKB := Hd (OBy.keepsB HKB.out BY.out ⟨by decide, by decide, by decide⟩ hk)
     replace BX := Hd (BX.out.keeps hk (λ e => HXY.out e))
     replace BY := hb
     clear hb
     replace KT := Hd (KT.out.trans hk (λ x hx e => by have h := YW.out; have e2 : x = Y := e; omega))
     clear hk hz
     refine ⟨.inl (by rfl), ?_⟩
     iterate 1
      refine wpTre_read (v := ?_) rfl (by rfl) ?_ ?_
      rotate_left
      ·intro W hW
       try (obtain ⟨z1, z2, z3, z4, z5, z6, z7⟩ : _ /\ _ /\ _ /\ _ /\ _ /\ _ /\ _ := hW)
       go_simp
       try simp only [hwrp]
       try rfl
      simp only [Act.put, sa_, sb_, sc_]
     refine wpTre_nil ?_
     exact ⟨(X, Y, #[.int .i64 ((spL m ((A.sl.length : Int) + 1))).lvl, .slice D1 ((spL m ((A.sl.length : Int) + 1))).high.length dj1, .int .i64 ((spL m ((A.sl.length : Int) + 1))).right, .slice D3 ((spL m ((A.sl.length : Int) + 1))).keys.length dj3, .slice D4 ((spL m ((A.sl.length : Int) + 1))).vals.length dj4, .slice D5 ((spL m ((A.sl.length : Int) + 1))).kids.length dj5], #[.int .i64 ((spR m)).lvl, .slice E1 ((spR m)).high.length ej1, .int .i64 ((spR m)).right, .slice E3 ((spR m)).keys.length ej3, .slice E4 ((spR m)).vals.length ej4, .slice E5 ((spR m)).kids.length ej5], .slice KB (spK m).length kbc), by simp only [putsA, Act.put, sa_, sb_, sc_], ⟨_, _, _, _, _, _, _, _, _, _, _, _, rfl, rfl, HL.out.mono (λ x hx hS => ⟨hS.1, hx⟩), HR.out.mono (λ x hx hS => ⟨hS.1, hx⟩)⟩, HKB.out.mono (λ x hx hS => ⟨hS.1, hx⟩), BX.out, BY.out, KT.out, ⟨XW.out, YW.out⟩, HXY.out⟩
   ·go_wp2
    refine tre_at' (λ w41 hw => ?_)
    obtain ⟨Y, hN⟩ : ∃ N, w32.heap.size = N := ⟨_, rfl⟩
    have hk : Keeps Nob w32 w41 := by rw [hw]; exact Keeps.alloc _ _ _
    have YW : Hid (wr.heap.size <= Y) := by show _ <= _; rw [<- hN]; exact KT.out.size
    have hb := Blk.new w32 35 #[.int .i64 0, .slice none 0 0, .int .i64 0, .slice none 0 0, .slice none 0 0, .slice none 0 0]
    rw [<- hw, hN] at hb
    have BY := Hd hb
    rw [hN]
    have hne : X ≠ Y := λ e => by have h := BX.out.lt; omega
    have HXY := Hd hne
    clear hne
    clear hw hN hb
    replace HC : Hid (_ /\ _ /\ _ /\ _ /\ _ /\ _ /\ _) := ⟨hk.cell HC.out.1 id, hk.cell HC.out.2.1 id, hk.cell HC.out.2.2.1 id, hk.cell HC.out.2.2.2.1 id, hk.cell HC.out.2.2.2.2.1 id, hk.cell HC.out.2.2.2.2.2.1 id, hk.cell HC.out.2.2.2.2.2.2 id⟩
    replace HMD := Hd (HMD.out.keeps hk (λ _ _ _ => id))
    replace BX := Hd (BX.out.keeps hk id)
    replace KT := tq_ KT hk
    clear hk
    refine ⟨.inr HC.out, ?_⟩
    refine wpTre_act rfl ?_
    have FU := (HJ.out.nob (K.out.trans KT.out (λ _ _ h => h))).usedR
    unfold pV iV at FU
    go_wp2_with (go_at_call 16; refine FU.mono ?_; rintro e wk ⟨rfl, rfl⟩)
    clear FU
    refine ⟨.inr HC.out, ?_⟩
    iterate 1
     refine wpTre_read (v := ?_) rfl (by rfl) ?_ ?_
     rotate_left
     ·intro W hW
      try (obtain ⟨z1, z2, z3, z4, z5, z6, z7⟩ : _ /\ _ /\ _ /\ _ /\ _ /\ _ /\ _ := hW)
      go_simp
      try simp only [hwrp]
      try rfl
     simp only [Act.put, sa_, sb_, sc_]
    refine wpTre_act rfl ?_
    go_wp2_with (go_at_call 40; refine (splitR HMD.out HSM.out HRM.out).mono ?_; rintro e w42 ⟨d0, d1, d2, d3, d4, d5, e0, e1, e2, e3, e4, e5, kv, rfl, hO, hQ, hkv, hk⟩)
    obtain ⟨D1, dj1, f1⟩ := Own.form hO.1.high
    obtain ⟨D3, dj3, f3⟩ := OTx.form hO.2.keys
    obtain ⟨D4, dj4, f4⟩ := OTx.form hO.2.vals
    obtain ⟨D5, dj5, f5⟩ := Own.form hO.2.kids
    have f0 := hO.1.lvl
    have f2 := hO.1.right
    unfold iV at f0 f2
    subst f0 f1 f2 f3 f4 f5
    obtain ⟨E1, ej1, f1⟩ := Own.form hQ.1.high
    obtain ⟨E3, ej3, f3⟩ := OTx.form hQ.2.keys
    obtain ⟨E4, ej4, f4⟩ := OTx.form hQ.2.vals
    obtain ⟨E5, ej5, f5⟩ := Own.form hQ.2.kids
    have f0 := hQ.1.lvl
    have f2 := hQ.1.right
    unfold iV at f0 f2
    subst f0 f1 f2 f3 f4 f5
    obtain ⟨KB, kbc, hf⟩ := hkv.form
    subst hf
    have hs9 := KT.out.size
    have HL : Hid (ONd w42 (Fresh wr w42) _ _ _ _ _ _ (spL m ((A.sl.length : Int) + 1))) := hO.mono (λ x _ hx => ⟨Nat.le_trans hs9 hx.1, hx.2⟩)
    have HR : Hid (ONd w42 (Fresh wr w42) _ _ _ _ _ _ (spR m)) := hQ.mono (λ x _ hx => ⟨Nat.le_trans hs9 hx.1, hx.2⟩)
    have HKB : Hid (OBy w42 (Fresh wr w42) (.slice KB (spK m).length kbc) (spK m)) := hkv.mono (λ x _ hx => ⟨Nat.le_trans hs9 hx.1, hx.2⟩)
    clear hO hQ hkv hs9
    replace HC : Hid (_ /\ _ /\ _ /\ _ /\ _ /\ _ /\ _) := ⟨hk.cell HC.out.1 id, hk.cell HC.out.2.1 id, hk.cell HC.out.2.2.1 id, hk.cell HC.out.2.2.2.1 id, hk.cell HC.out.2.2.2.2.1 id, hk.cell HC.out.2.2.2.2.2.1 id, hk.cell HC.out.2.2.2.2.2.2 id⟩
    replace HMD := Hd (HMD.out.keeps hk (λ _ _ _ => id))
    replace BX := Hd (BX.out.keeps hk id)
    replace BY := Hd (BY.out.keeps hk id)
    replace KT := tq_ KT hk
    clear hk
    refine ⟨.inr HC.out, ?_⟩
    iterate 4
     refine wpTre_read (v := ?_) rfl (by rfl) ?_ ?_
     rotate_left
     ·intro W hW
      try (obtain ⟨z1, z2, z3, z4, z5, z6, z7⟩ : _ /\ _ /\ _ /\ _ /\ _ /\ _ /\ _ := hW)
      go_simp
      try simp only [hwrp]
      try rfl
     simp only [Act.put, sa_, sb_, sc_]
    refine wpTre_act rfl ?_
    clear HMD
    have qBX0 := BX.out.cell 0
    have qBX1 := BX.out.cell 1
    have qBX2 := BX.out.cell 2
    have qBX3 := BX.out.cell 3
    have qBX4 := BX.out.cell 4
    have qBX5 := BX.out.cell 5
    have gBX0 := BX.out.frozen 0
    have gBX1 := BX.out.frozen 1
    have gBX2 := BX.out.frozen 2
    have gBX3 := BX.out.frozen 3
    have gBX4 := BX.out.frozen 4
    have gBX5 := BX.out.frozen 5
    go_wp2
    clear qBX0 qBX1 qBX2 qBX3 qBX4 qBX5 gBX0 gBX1 gBX2 gBX3 gBX4 gBX5
    refine tre_at' (λ w43 hw => ?_)
    have hk : Keeps (λ x => x = X) w42 w43 := by rw [hw]; exact (((((Keeps.setCell _ (M := λ x => x = X) rfl _).setCell' (λ _ => rfl) _).setCell' (λ _ => rfl) _).setCell' (λ _ => rfl) _).setCell' (λ _ => rfl) _).setCell' (λ _ => rfl) _
    have hb : Hid (Blk w43 X 35 #[.int .i64 ((spL m ((A.sl.length : Int) + 1))).lvl, .slice D1 ((spL m ((A.sl.length : Int) + 1))).high.length dj1, .int .i64 ((spL m ((A.sl.length : Int) + 1))).right, .slice D3 ((spL m ((A.sl.length : Int) + 1))).keys.length dj3, .slice D4 ((spL m ((A.sl.length : Int) + 1))).vals.length dj4, .slice D5 ((spL m ((A.sl.length : Int) + 1))).kids.length dj5]) := by show Blk _ _ _ _; rw [hw]; exact ((((((BX.out.set_ 0 _).set_ 1 _).set_ 2 _).set_ 3 _).set_ 4 _).set_ 5 _)
    have hz : w43.heap.size = w42.heap.size := by rw [hw]; simp
    clear hw
    replace HL := Hd (ONd.keepsB HL.out BX.out ⟨by decide, by decide, by decide⟩ hk)
    replace HR := Hd (ONd.keepsB HR.out BX.out ⟨by decide, by decide, by decide⟩ hk)
    replace HKB := Hd (OBy.keepsB HKB.out BX.out ⟨by decide, by decide, by decide⟩ hk)
    replace BY := Hd (BY.out.keeps hk (λ e => HXY.out e.symm))
    replace BX := hb
    clear hb
    replace KT := Hd (KT.out.trans hk (λ x hx e => by have h := XW.out; have e2 : x = X := e; omega))
    clear hk hz
    refine ⟨.inl (by rfl), ?_⟩
    refine wpTre_act rfl ?_
    have qBY0 := BY.out.cell 0
    have qBY1 := BY.out.cell 1
    have qBY2 := BY.out.cell 2
    have qBY3 := BY.out.cell 3
    have qBY4 := BY.out.cell 4
    have qBY5 := BY.out.cell 5
    have gBY0 := BY.out.frozen 0
    have gBY1 := BY.out.frozen 1
    have gBY2 := BY.out.frozen 2
    have gBY3 := BY.out.frozen 3
    have gBY4 := BY.out.frozen 4
    have gBY5 := BY.out.frozen 5
    go_wp2
    clear qBY0 qBY1 qBY2 qBY3 qBY4 qBY5 gBY0 gBY1 gBY2 gBY3 gBY4 gBY5
    refine tre_at' (λ w44 hw => ?_)
    have hk : Keeps (λ x => x = Y) w43 w44 := by rw [hw]; exact (((((Keeps.setCell _ (M := λ x => x = Y) rfl _).setCell' (λ _ => rfl) _).setCell' (λ _ => rfl) _).setCell' (λ _ => rfl) _).setCell' (λ _ => rfl) _).setCell' (λ _ => rfl) _
    have hb : Hid (Blk w44 Y 35 #[.int .i64 ((spR m)).lvl, .slice E1 ((spR m)).high.length ej1, .int .i64 ((spR m)).right, .slice E3 ((spR m)).keys.length ej3, .slice E4 ((spR m)).vals.length ej4, .slice E5 ((spR m)).kids.length ej5]) := by show Blk _ _ _ _; rw [hw]; exact ((((((BY.out.set_ 0 _).set_ 1 _).set_ 2 _).set_ 3 _).set_ 4 _).set_ 5 _)
    have hz : w44.heap.size = w43.heap.size := by rw [hw]; simp
    clear hw
    replace HL := Hd (ONd.keepsB HL.out BY.out ⟨by decide, by decide, by decide⟩ hk)
    replace HR := Hd (ONd.keepsB HR.out BY.out ⟨by decide, by decide, by decide⟩ hk)
    replace HKB := Hd (OBy.keepsB HKB.out BY.out ⟨by decide, by decide, by decide⟩ hk)
    replace BX := Hd (BX.out.keeps hk (λ e => HXY.out e))
    replace BY := hb
    clear hb
    replace KT := Hd (KT.out.trans hk (λ x hx e => by have h := YW.out; have e2 : x = Y := e; omega))
    clear hk hz
    refine ⟨.inl (by rfl), ?_⟩
    iterate 1
     refine wpTre_read (v := ?_) rfl (by rfl) ?_ ?_
     rotate_left
     ·intro W hW
      try (obtain ⟨z1, z2, z3, z4, z5, z6, z7⟩ : _ /\ _ /\ _ /\ _ /\ _ /\ _ /\ _ := hW)
      go_simp
      try simp only [hwrp]
      try rfl
     simp only [Act.put, sa_, sb_, sc_]
    refine wpTre_nil ?_
    exact ⟨(X, Y, #[.int .i64 ((spL m ((A.sl.length : Int) + 1))).lvl, .slice D1 ((spL m ((A.sl.length : Int) + 1))).high.length dj1, .int .i64 ((spL m ((A.sl.length : Int) + 1))).right, .slice D3 ((spL m ((A.sl.length : Int) + 1))).keys.length dj3, .slice D4 ((spL m ((A.sl.length : Int) + 1))).vals.length dj4, .slice D5 ((spL m ((A.sl.length : Int) + 1))).kids.length dj5], #[.int .i64 ((spR m)).lvl, .slice E1 ((spR m)).high.length ej1, .int .i64 ((spR m)).right, .slice E3 ((spR m)).keys.length ej3, .slice E4 ((spR m)).vals.length ej4, .slice E5 ((spR m)).kids.length ej5], .slice KB (spK m).length kbc), by simp only [putsA, Act.put, sa_, sb_, sc_], ⟨_, _, _, _, _, _, _, _, _, _, _, _, rfl, rfl, HL.out.mono (λ x hx hS => ⟨hS.1, hx⟩), HR.out.mono (λ x hx hS => ⟨hS.1, hx⟩)⟩, HKB.out.mono (λ x hx hS => ⟨hS.1, hx⟩), BX.out, BY.out, KT.out, ⟨XW.out, YW.out⟩, HXY.out⟩
  ·go_wp2
   refine tre_at' (λ w45 hw => ?_)
   obtain ⟨Y, hN⟩ : ∃ N, w4.heap.size = N := ⟨_, rfl⟩
   have hk : Keeps Nob w4 w45 := by rw [hw]; exact Keeps.alloc _ _ _
   have YW : Hid (wr.heap.size <= Y) := by show _ <= _; rw [<- hN]; exact KT.out.size
   have hb := Blk.new w4 35 #[.int .i64 0, .slice none 0 0, .int .i64 0, .slice none 0 0, .slice none 0 0, .slice none 0 0]
   rw [<- hw, hN] at hb
   have BY := Hd hb
   rw [hN]
   clear hw hN hb
   replace HC : Hid (_ /\ _ /\ _ /\ _ /\ _ /\ _ /\ _) := ⟨hk.cell HC.out.1 id, hk.cell HC.out.2.1 id, hk.cell HC.out.2.2.1 id, hk.cell HC.out.2.2.2.1 id, hk.cell HC.out.2.2.2.2.1 id, hk.cell HC.out.2.2.2.2.2.1 id, hk.cell HC.out.2.2.2.2.2.2 id⟩
   replace HMD := Hd (HMD.out.keeps hk (λ _ _ _ => id))
   replace KT := tq_ KT hk
   clear hk
   refine ⟨.inr HC.out, ?_⟩
   refine wpTre_two rfl rfl ?_ ?_
   ·have FU := (HJ.out.nob (K.out.trans KT.out (λ _ _ h => h))).usedR
    unfold pV iV at FU
    go_wp2_with (go_at_call 16; refine FU.mono ?_; rintro e wk ⟨rfl, rfl⟩)
    clear FU
    refine ⟨.inr HC.out, ?_⟩
    iterate 1
     refine wpTre_read (v := ?_) rfl (by rfl) ?_ ?_
     rotate_left
     ·intro W hW
      try (obtain ⟨z1, z2, z3, z4, z5, z6, z7⟩ : _ /\ _ /\ _ /\ _ /\ _ /\ _ /\ _ := hW)
      go_simp
      try simp only [hwrp]
      try rfl
     simp only [Act.put, sa_, sb_, sc_]
    refine wpTre_two rfl rfl ?_ ?_
    ·go_wp2_with (go_at_call 40; refine (splitR HMD.out HSM.out HRM.out).mono ?_; rintro e w46 ⟨d0, d1, d2, d3, d4, d5, e0, e1, e2, e3, e4, e5, kv, rfl, hO, hQ, hkv, hk⟩)
     obtain ⟨D1, dj1, f1⟩ := Own.form hO.1.high
     obtain ⟨D3, dj3, f3⟩ := OTx.form hO.2.keys
     obtain ⟨D4, dj4, f4⟩ := OTx.form hO.2.vals
     obtain ⟨D5, dj5, f5⟩ := Own.form hO.2.kids
     have f0 := hO.1.lvl
     have f2 := hO.1.right
     unfold iV at f0 f2
     subst f0 f1 f2 f3 f4 f5
     obtain ⟨E1, ej1, f1⟩ := Own.form hQ.1.high
     obtain ⟨E3, ej3, f3⟩ := OTx.form hQ.2.keys
     obtain ⟨E4, ej4, f4⟩ := OTx.form hQ.2.vals
     obtain ⟨E5, ej5, f5⟩ := Own.form hQ.2.kids
     have f0 := hQ.1.lvl
     have f2 := hQ.1.right
     unfold iV at f0 f2
     subst f0 f1 f2 f3 f4 f5
     obtain ⟨KB, kbc, hf⟩ := hkv.form
     subst hf
     have hs9 := KT.out.size
     have HL : Hid (ONd w46 (Fresh wr w46) _ _ _ _ _ _ (spL m ((A.sl.length : Int) + 1))) := hO.mono (λ x _ hx => ⟨Nat.le_trans hs9 hx.1, hx.2⟩)
     have HR : Hid (ONd w46 (Fresh wr w46) _ _ _ _ _ _ (spR m)) := hQ.mono (λ x _ hx => ⟨Nat.le_trans hs9 hx.1, hx.2⟩)
     have HKB : Hid (OBy w46 (Fresh wr w46) (.slice KB (spK m).length kbc) (spK m)) := hkv.mono (λ x _ hx => ⟨Nat.le_trans hs9 hx.1, hx.2⟩)
     clear hO hQ hkv hs9
     replace HC : Hid (_ /\ _ /\ _ /\ _ /\ _ /\ _ /\ _) := ⟨hk.cell HC.out.1 id, hk.cell HC.out.2.1 id, hk.cell HC.out.2.2.1 id, hk.cell HC.out.2.2.2.1 id, hk.cell HC.out.2.2.2.2.1 id, hk.cell HC.out.2.2.2.2.2.1 id, hk.cell HC.out.2.2.2.2.2.2 id⟩
     replace HMD := Hd (HMD.out.keeps hk (λ _ _ _ => id))
     replace BY := Hd (BY.out.keeps hk id)
     replace KT := tq_ KT hk
     clear hk
     refine ⟨.inr HC.out, ?_⟩
     iterate 4
      refine wpTre_read (v := ?_) rfl (by rfl) ?_ ?_
      rotate_left
      ·intro W hW
       try (obtain ⟨z1, z2, z3, z4, z5, z6, z7⟩ : _ /\ _ /\ _ /\ _ /\ _ /\ _ /\ _ := hW)
       go_simp
       try simp only [hwrp]
       try rfl
      simp only [Act.put, sa_, sb_, sc_]
     refine wpTre_act rfl ?_
     go_wp2
     refine tre_at' (λ w47 hw => ?_)
     obtain ⟨X, hN⟩ : ∃ N, w46.heap.size = N := ⟨_, rfl⟩
     have hk : Keeps Nob w46 w47 := by rw [hw]; exact Keeps.alloc _ _ _
     have XW : Hid (wr.heap.size <= X) := by show _ <= _; rw [<- hN]; exact KT.out.size
     have hb := Blk.new w46 35 #[.int .i64 0, .slice none 0 0, .int .i64 0, .slice none 0 0, .slice none 0 0, .slice none 0 0]
     rw [<- hw, hN] at hb
     have BX := Hd hb
     rw [hN]
     have hne : X ≠ Y := λ e => by have h := BY.out.lt; omega
     have HXY := Hd hne
     clear hne
     clear hw hN hb
     replace HC : Hid (_ /\ _ /\ _ /\ _ /\ _ /\ _ /\ _) := ⟨hk.cell HC.out.1 id, hk.cell HC.out.2.1 id, hk.cell HC.out.2.2.1 id, hk.cell HC.out.2.2.2.1 id, hk.cell HC.out.2.2.2.2.1 id, hk.cell HC.out.2.2.2.2.2.1 id, hk.cell HC.out.2.2.2.2.2.2 id⟩
     replace HMD := Hd (HMD.out.keeps hk (λ _ _ _ => id))
     replace BY := Hd (BY.out.keeps hk id)
     replace HL := Hd (HL.out.keeps hk (λ _ _ _ => id))
     replace HR := Hd (HR.out.keeps hk (λ _ _ _ => id))
     replace HKB := Hd (HKB.out.keeps hk (λ _ _ _ => id))
     replace KT := tq_ KT hk
     clear hk
     refine ⟨.inr HC.out, ?_⟩
     refine wpTre_act rfl ?_
     clear HMD
     have qBX0 := BX.out.cell 0
     have qBX1 := BX.out.cell 1
     have qBX2 := BX.out.cell 2
     have qBX3 := BX.out.cell 3
     have qBX4 := BX.out.cell 4
     have qBX5 := BX.out.cell 5
     have gBX0 := BX.out.frozen 0
     have gBX1 := BX.out.frozen 1
     have gBX2 := BX.out.frozen 2
     have gBX3 := BX.out.frozen 3
     have gBX4 := BX.out.frozen 4
     have gBX5 := BX.out.frozen 5
     go_wp2
     clear qBX0 qBX1 qBX2 qBX3 qBX4 qBX5 gBX0 gBX1 gBX2 gBX3 gBX4 gBX5
     refine tre_at' (λ w48 hw => ?_)
     have hk : Keeps (λ x => x = X) w47 w48 := by rw [hw]; exact (((((Keeps.setCell _ (M := λ x => x = X) rfl _).setCell' (λ _ => rfl) _).setCell' (λ _ => rfl) _).setCell' (λ _ => rfl) _).setCell' (λ _ => rfl) _).setCell' (λ _ => rfl) _
     have hb : Hid (Blk w48 X 35 #[.int .i64 ((spL m ((A.sl.length : Int) + 1))).lvl, .slice D1 ((spL m ((A.sl.length : Int) + 1))).high.length dj1, .int .i64 ((spL m ((A.sl.length : Int) + 1))).right, .slice D3 ((spL m ((A.sl.length : Int) + 1))).keys.length dj3, .slice D4 ((spL m ((A.sl.length : Int) + 1))).vals.length dj4, .slice D5 ((spL m ((A.sl.length : Int) + 1))).kids.length dj5]) := by show Blk _ _ _ _; rw [hw]; exact ((((((BX.out.set_ 0 _).set_ 1 _).set_ 2 _).set_ 3 _).set_ 4 _).set_ 5 _)
     have hz : w48.heap.size = w47.heap.size := by rw [hw]; simp
     clear hw
     replace HL := Hd (ONd.keepsB HL.out BX.out ⟨by decide, by decide, by decide⟩ hk)
     replace HR := Hd (ONd.keepsB HR.out BX.out ⟨by decide, by decide, by decide⟩ hk)
     replace HKB := Hd (OBy.keepsB HKB.out BX.out ⟨by decide, by decide, by decide⟩ hk)
     replace BY := Hd (BY.out.keeps hk (λ e => HXY.out e.symm))
     replace BX := hb
     clear hb
     replace KT := Hd (KT.out.trans hk (λ x hx e => by have h := XW.out; have e2 : x = X := e; omega))
     clear hk hz
     refine ⟨.inl (by rfl), ?_⟩
     refine wpTre_act rfl ?_
     have qBY0 := BY.out.cell 0
     have qBY1 := BY.out.cell 1
     have qBY2 := BY.out.cell 2
     have qBY3 := BY.out.cell 3
     have qBY4 := BY.out.cell 4
     have qBY5 := BY.out.cell 5
     have gBY0 := BY.out.frozen 0
     have gBY1 := BY.out.frozen 1
     have gBY2 := BY.out.frozen 2
     have gBY3 := BY.out.frozen 3
     have gBY4 := BY.out.frozen 4
     have gBY5 := BY.out.frozen 5
     go_wp2
     clear qBY0 qBY1 qBY2 qBY3 qBY4 qBY5 gBY0 gBY1 gBY2 gBY3 gBY4 gBY5
     refine tre_at' (λ w49 hw => ?_)
     have hk : Keeps (λ x => x = Y) w48 w49 := by rw [hw]; exact (((((Keeps.setCell _ (M := λ x => x = Y) rfl _).setCell' (λ _ => rfl) _).setCell' (λ _ => rfl) _).setCell' (λ _ => rfl) _).setCell' (λ _ => rfl) _).setCell' (λ _ => rfl) _
     have hb : Hid (Blk w49 Y 35 #[.int .i64 ((spR m)).lvl, .slice E1 ((spR m)).high.length ej1, .int .i64 ((spR m)).right, .slice E3 ((spR m)).keys.length ej3, .slice E4 ((spR m)).vals.length ej4, .slice E5 ((spR m)).kids.length ej5]) := by show Blk _ _ _ _; rw [hw]; exact ((((((BY.out.set_ 0 _).set_ 1 _).set_ 2 _).set_ 3 _).set_ 4 _).set_ 5 _)
     have hz : w49.heap.size = w48.heap.size := by rw [hw]; simp
     clear hw
     replace HL := Hd (ONd.keepsB HL.out BY.out ⟨by decide, by decide, by decide⟩ hk)
     replace HR := Hd (ONd.keepsB HR.out BY.out ⟨by decide, by decide, by decide⟩ hk)
     replace HKB := Hd (OBy.keepsB HKB.out BY.out ⟨by decide, by decide, by decide⟩ hk)
     replace BX := Hd (BX.out.keeps hk (λ e => HXY.out e))
     replace BY := hb
     clear hb
     replace KT := Hd (KT.out.trans hk (λ x hx e => by have h := YW.out; have e2 : x = Y := e; omega))
     clear hk hz
     refine ⟨.inl (by rfl), ?_⟩
     iterate 1
      refine wpTre_read (v := ?_) rfl (by rfl) ?_ ?_
      rotate_left
      ·intro W hW
       try (obtain ⟨z1, z2, z3, z4, z5, z6, z7⟩ : _ /\ _ /\ _ /\ _ /\ _ /\ _ /\ _ := hW)
       go_simp
       try simp only [hwrp]
       try rfl
      simp only [Act.put, sa_, sb_, sc_]
     refine wpTre_nil ?_
     exact ⟨(X, Y, #[.int .i64 ((spL m ((A.sl.length : Int) + 1))).lvl, .slice D1 ((spL m ((A.sl.length : Int) + 1))).high.length dj1, .int .i64 ((spL m ((A.sl.length : Int) + 1))).right, .slice D3 ((spL m ((A.sl.length : Int) + 1))).keys.length dj3, .slice D4 ((spL m ((A.sl.length : Int) + 1))).vals.length dj4, .slice D5 ((spL m ((A.sl.length : Int) + 1))).kids.length dj5], #[.int .i64 ((spR m)).lvl, .slice E1 ((spR m)).high.length ej1, .int .i64 ((spR m)).right, .slice E3 ((spR m)).keys.length ej3, .slice E4 ((spR m)).vals.length ej4, .slice E5 ((spR m)).kids.length ej5], .slice KB (spK m).length kbc), by simp only [putsA, Act.put, sa_, sb_, sc_], ⟨_, _, _, _, _, _, _, _, _, _, _, _, rfl, rfl, HL.out.mono (λ x hx hS => ⟨hS.1, hx⟩), HR.out.mono (λ x hx hS => ⟨hS.1, hx⟩)⟩, HKB.out.mono (λ x hx hS => ⟨hS.1, hx⟩), BX.out, BY.out, KT.out, ⟨XW.out, YW.out⟩, HXY.out⟩
    ·go_wp2
     refine tre_at' (λ w50 hw => ?_)
     obtain ⟨X, hN⟩ : ∃ N, w45.heap.size = N := ⟨_, rfl⟩
     have hk : Keeps Nob w45 w50 := by rw [hw]; exact Keeps.alloc _ _ _
     have XW : Hid (wr.heap.size <= X) := by show _ <= _; rw [<- hN]; exact KT.out.size
     have hb := Blk.new w45 35 #[.int .i64 0, .slice none 0 0, .int .i64 0, .slice none 0 0, .slice none 0 0, .slice none 0 0]
     rw [<- hw, hN] at hb
     have BX := Hd hb
     rw [hN]
     have hne : X ≠ Y := λ e => by have h := BY.out.lt; omega
     have HXY := Hd hne
     clear hne
     clear hw hN hb
     replace HC : Hid (_ /\ _ /\ _ /\ _ /\ _ /\ _ /\ _) := ⟨hk.cell HC.out.1 id, hk.cell HC.out.2.1 id, hk.cell HC.out.2.2.1 id, hk.cell HC.out.2.2.2.1 id, hk.cell HC.out.2.2.2.2.1 id, hk.cell HC.out.2.2.2.2.2.1 id, hk.cell HC.out.2.2.2.2.2.2 id⟩
     replace HMD := Hd (HMD.out.keeps hk (λ _ _ _ => id))
     replace BY := Hd (BY.out.keeps hk id)
     replace KT := tq_ KT hk
     clear hk
     refine ⟨.inr HC.out, ?_⟩
     refine wpTre_act rfl ?_
     go_wp2_with (go_at_call 40; refine (splitR HMD.out HSM.out HRM.out).mono ?_; rintro e w51 ⟨d0, d1, d2, d3, d4, d5, e0, e1, e2, e3, e4, e5, kv, rfl, hO, hQ, hkv, hk⟩)
     obtain ⟨D1, dj1, f1⟩ := Own.form hO.1.high
     obtain ⟨D3, dj3, f3⟩ := OTx.form hO.2.keys
     obtain ⟨D4, dj4, f4⟩ := OTx.form hO.2.vals
     obtain ⟨D5, dj5, f5⟩ := Own.form hO.2.kids
     have f0 := hO.1.lvl
     have f2 := hO.1.right
     unfold iV at f0 f2
     subst f0 f1 f2 f3 f4 f5
     obtain ⟨E1, ej1, f1⟩ := Own.form hQ.1.high
     obtain ⟨E3, ej3, f3⟩ := OTx.form hQ.2.keys
     obtain ⟨E4, ej4, f4⟩ := OTx.form hQ.2.vals
     obtain ⟨E5, ej5, f5⟩ := Own.form hQ.2.kids
     have f0 := hQ.1.lvl
     have f2 := hQ.1.right
     unfold iV at f0 f2
     subst f0 f1 f2 f3 f4 f5
     obtain ⟨KB, kbc, hf⟩ := hkv.form
     subst hf
     have hs9 := KT.out.size
     have HL : Hid (ONd w51 (Fresh wr w51) _ _ _ _ _ _ (spL m ((A.sl.length : Int) + 1))) := hO.mono (λ x _ hx => ⟨Nat.le_trans hs9 hx.1, hx.2⟩)
     have HR : Hid (ONd w51 (Fresh wr w51) _ _ _ _ _ _ (spR m)) := hQ.mono (λ x _ hx => ⟨Nat.le_trans hs9 hx.1, hx.2⟩)
     have HKB : Hid (OBy w51 (Fresh wr w51) (.slice KB (spK m).length kbc) (spK m)) := hkv.mono (λ x _ hx => ⟨Nat.le_trans hs9 hx.1, hx.2⟩)
     clear hO hQ hkv hs9
     replace HC : Hid (_ /\ _ /\ _ /\ _ /\ _ /\ _ /\ _) := ⟨hk.cell HC.out.1 id, hk.cell HC.out.2.1 id, hk.cell HC.out.2.2.1 id, hk.cell HC.out.2.2.2.1 id, hk.cell HC.out.2.2.2.2.1 id, hk.cell HC.out.2.2.2.2.2.1 id, hk.cell HC.out.2.2.2.2.2.2 id⟩
     replace HMD := Hd (HMD.out.keeps hk (λ _ _ _ => id))
     replace BY := Hd (BY.out.keeps hk id)
     replace BX := Hd (BX.out.keeps hk id)
     replace KT := tq_ KT hk
     clear hk
     refine ⟨.inr HC.out, ?_⟩
     iterate 4
      refine wpTre_read (v := ?_) rfl (by rfl) ?_ ?_
      rotate_left
      ·intro W hW
       try (obtain ⟨z1, z2, z3, z4, z5, z6, z7⟩ : _ /\ _ /\ _ /\ _ /\ _ /\ _ /\ _ := hW)
       go_simp
       try simp only [hwrp]
       try rfl
      simp only [Act.put, sa_, sb_, sc_]
     refine wpTre_act rfl ?_
     clear HMD
     have qBX0 := BX.out.cell 0
     have qBX1 := BX.out.cell 1
     have qBX2 := BX.out.cell 2
     have qBX3 := BX.out.cell 3
     have qBX4 := BX.out.cell 4
     have qBX5 := BX.out.cell 5
     have gBX0 := BX.out.frozen 0
     have gBX1 := BX.out.frozen 1
     have gBX2 := BX.out.frozen 2
     have gBX3 := BX.out.frozen 3
     have gBX4 := BX.out.frozen 4
     have gBX5 := BX.out.frozen 5
     go_wp2
     clear qBX0 qBX1 qBX2 qBX3 qBX4 qBX5 gBX0 gBX1 gBX2 gBX3 gBX4 gBX5
     refine tre_at' (λ w52 hw => ?_)
     have hk : Keeps (λ x => x = X) w51 w52 := by rw [hw]; exact (((((Keeps.setCell _ (M := λ x => x = X) rfl _).setCell' (λ _ => rfl) _).setCell' (λ _ => rfl) _).setCell' (λ _ => rfl) _).setCell' (λ _ => rfl) _).setCell' (λ _ => rfl) _
     have hb : Hid (Blk w52 X 35 #[.int .i64 ((spL m ((A.sl.length : Int) + 1))).lvl, .slice D1 ((spL m ((A.sl.length : Int) + 1))).high.length dj1, .int .i64 ((spL m ((A.sl.length : Int) + 1))).right, .slice D3 ((spL m ((A.sl.length : Int) + 1))).keys.length dj3, .slice D4 ((spL m ((A.sl.length : Int) + 1))).vals.length dj4, .slice D5 ((spL m ((A.sl.length : Int) + 1))).kids.length dj5]) := by show Blk _ _ _ _; rw [hw]; exact ((((((BX.out.set_ 0 _).set_ 1 _).set_ 2 _).set_ 3 _).set_ 4 _).set_ 5 _)
     have hz : w52.heap.size = w51.heap.size := by rw [hw]; simp
     clear hw
     replace HL := Hd (ONd.keepsB HL.out BX.out ⟨by decide, by decide, by decide⟩ hk)
     replace HR := Hd (ONd.keepsB HR.out BX.out ⟨by decide, by decide, by decide⟩ hk)
     replace HKB := Hd (OBy.keepsB HKB.out BX.out ⟨by decide, by decide, by decide⟩ hk)
     replace BY := Hd (BY.out.keeps hk (λ e => HXY.out e.symm))
     replace BX := hb
     clear hb
     replace KT := Hd (KT.out.trans hk (λ x hx e => by have h := XW.out; have e2 : x = X := e; omega))
     clear hk hz
     refine ⟨.inl (by rfl), ?_⟩
     refine wpTre_act rfl ?_
     have qBY0 := BY.out.cell 0
     have qBY1 := BY.out.cell 1
     have qBY2 := BY.out.cell 2
     have qBY3 := BY.out.cell 3
     have qBY4 := BY.out.cell 4
     have qBY5 := BY.out.cell 5
     have gBY0 := BY.out.frozen 0
     have gBY1 := BY.out.frozen 1
     have gBY2 := BY.out.frozen 2
     have gBY3 := BY.out.frozen 3
     have gBY4 := BY.out.frozen 4
     have gBY5 := BY.out.frozen 5
     go_wp2
     clear qBY0 qBY1 qBY2 qBY3 qBY4 qBY5 gBY0 gBY1 gBY2 gBY3 gBY4 gBY5
     refine tre_at' (λ w53 hw => ?_)
     have hk : Keeps (λ x => x = Y) w52 w53 := by rw [hw]; exact (((((Keeps.setCell _ (M := λ x => x = Y) rfl _).setCell' (λ _ => rfl) _).setCell' (λ _ => rfl) _).setCell' (λ _ => rfl) _).setCell' (λ _ => rfl) _).setCell' (λ _ => rfl) _
     have hb : Hid (Blk w53 Y 35 #[.int .i64 ((spR m)).lvl, .slice E1 ((spR m)).high.length ej1, .int .i64 ((spR m)).right, .slice E3 ((spR m)).keys.length ej3, .slice E4 ((spR m)).vals.length ej4, .slice E5 ((spR m)).kids.length ej5]) := by show Blk _ _ _ _; rw [hw]; exact ((((((BY.out.set_ 0 _).set_ 1 _).set_ 2 _).set_ 3 _).set_ 4 _).set_ 5 _)
     have hz : w53.heap.size = w52.heap.size := by rw [hw]; simp
     clear hw
     replace HL := Hd (ONd.keepsB HL.out BY.out ⟨by decide, by decide, by decide⟩ hk)
     replace HR := Hd (ONd.keepsB HR.out BY.out ⟨by decide, by decide, by decide⟩ hk)
     replace HKB := Hd (OBy.keepsB HKB.out BY.out ⟨by decide, by decide, by decide⟩ hk)
     replace BX := Hd (BX.out.keeps hk (λ e => HXY.out e))
     replace BY := hb
     clear hb
     replace KT := Hd (KT.out.trans hk (λ x hx e => by have h := YW.out; have e2 : x = Y := e; omega))
     clear hk hz
     refine ⟨.inl (by rfl), ?_⟩
     iterate 1
      refine wpTre_read (v := ?_) rfl (by rfl) ?_ ?_
      rotate_left
      ·intro W hW
       try (obtain ⟨z1, z2, z3, z4, z5, z6, z7⟩ : _ /\ _ /\ _ /\ _ /\ _ /\ _ /\ _ := hW)
       go_simp
       try simp only [hwrp]
       try rfl
      simp only [Act.put, sa_, sb_, sc_]
     refine wpTre_nil ?_
     exact ⟨(X, Y, #[.int .i64 ((spL m ((A.sl.length : Int) + 1))).lvl, .slice D1 ((spL m ((A.sl.length : Int) + 1))).high.length dj1, .int .i64 ((spL m ((A.sl.length : Int) + 1))).right, .slice D3 ((spL m ((A.sl.length : Int) + 1))).keys.length dj3, .slice D4 ((spL m ((A.sl.length : Int) + 1))).vals.length dj4, .slice D5 ((spL m ((A.sl.length : Int) + 1))).kids.length dj5], #[.int .i64 ((spR m)).lvl, .slice E1 ((spR m)).high.length ej1, .int .i64 ((spR m)).right, .slice E3 ((spR m)).keys.length ej3, .slice E4 ((spR m)).vals.length ej4, .slice E5 ((spR m)).kids.length ej5], .slice KB (spK m).length kbc), by simp only [putsA, Act.put, sa_, sb_, sc_], ⟨_, _, _, _, _, _, _, _, _, _, _, _, rfl, rfl, HL.out.mono (λ x hx hS => ⟨hS.1, hx⟩), HR.out.mono (λ x hx hS => ⟨hS.1, hx⟩)⟩, HKB.out.mono (λ x hx hS => ⟨hS.1, hx⟩), BX.out, BY.out, KT.out, ⟨XW.out, YW.out⟩, HXY.out⟩
   ·go_wp2
    refine tre_at' (λ w54 hw => ?_)
    obtain ⟨X, hN⟩ : ∃ N, w45.heap.size = N := ⟨_, rfl⟩
    have hk : Keeps Nob w45 w54 := by rw [hw]; exact Keeps.alloc _ _ _
    have XW : Hid (wr.heap.size <= X) := by show _ <= _; rw [<- hN]; exact KT.out.size
    have hb := Blk.new w45 35 #[.int .i64 0, .slice none 0 0, .int .i64 0, .slice none 0 0, .slice none 0 0, .slice none 0 0]
    rw [<- hw, hN] at hb
    have BX := Hd hb
    rw [hN]
    have hne : X ≠ Y := λ e => by have h := BY.out.lt; omega
    have HXY := Hd hne
    clear hne
    clear hw hN hb
    replace HC : Hid (_ /\ _ /\ _ /\ _ /\ _ /\ _ /\ _) := ⟨hk.cell HC.out.1 id, hk.cell HC.out.2.1 id, hk.cell HC.out.2.2.1 id, hk.cell HC.out.2.2.2.1 id, hk.cell HC.out.2.2.2.2.1 id, hk.cell HC.out.2.2.2.2.2.1 id, hk.cell HC.out.2.2.2.2.2.2 id⟩
    replace HMD := Hd (HMD.out.keeps hk (λ _ _ _ => id))
    replace BY := Hd (BY.out.keeps hk id)
    replace KT := tq_ KT hk
    clear hk
    refine ⟨.inr HC.out, ?_⟩
    refine wpTre_act rfl ?_
    have FU := (HJ.out.nob (K.out.trans KT.out (λ _ _ h => h))).usedR
    unfold pV iV at FU
    go_wp2_with (go_at_call 16; refine FU.mono ?_; rintro e wk ⟨rfl, rfl⟩)
    clear FU
    refine ⟨.inr HC.out, ?_⟩
    iterate 1
     refine wpTre_read (v := ?_) rfl (by rfl) ?_ ?_
     rotate_left
     ·intro W hW
      try (obtain ⟨z1, z2, z3, z4, z5, z6, z7⟩ : _ /\ _ /\ _ /\ _ /\ _ /\ _ /\ _ := hW)
      go_simp
      try simp only [hwrp]
      try rfl
     simp only [Act.put, sa_, sb_, sc_]
    refine wpTre_act rfl ?_
    go_wp2_with (go_at_call 40; refine (splitR HMD.out HSM.out HRM.out).mono ?_; rintro e w55 ⟨d0, d1, d2, d3, d4, d5, e0, e1, e2, e3, e4, e5, kv, rfl, hO, hQ, hkv, hk⟩)
    obtain ⟨D1, dj1, f1⟩ := Own.form hO.1.high
    obtain ⟨D3, dj3, f3⟩ := OTx.form hO.2.keys
    obtain ⟨D4, dj4, f4⟩ := OTx.form hO.2.vals
    obtain ⟨D5, dj5, f5⟩ := Own.form hO.2.kids
    have f0 := hO.1.lvl
    have f2 := hO.1.right
    unfold iV at f0 f2
    subst f0 f1 f2 f3 f4 f5
    obtain ⟨E1, ej1, f1⟩ := Own.form hQ.1.high
    obtain ⟨E3, ej3, f3⟩ := OTx.form hQ.2.keys
    obtain ⟨E4, ej4, f4⟩ := OTx.form hQ.2.vals
    obtain ⟨E5, ej5, f5⟩ := Own.form hQ.2.kids
    have f0 := hQ.1.lvl
    have f2 := hQ.1.right
    unfold iV at f0 f2
    subst f0 f1 f2 f3 f4 f5
    obtain ⟨KB, kbc, hf⟩ := hkv.form
    subst hf
    have hs9 := KT.out.size
    have HL : Hid (ONd w55 (Fresh wr w55) _ _ _ _ _ _ (spL m ((A.sl.length : Int) + 1))) := hO.mono (λ x _ hx => ⟨Nat.le_trans hs9 hx.1, hx.2⟩)
    have HR : Hid (ONd w55 (Fresh wr w55) _ _ _ _ _ _ (spR m)) := hQ.mono (λ x _ hx => ⟨Nat.le_trans hs9 hx.1, hx.2⟩)
    have HKB : Hid (OBy w55 (Fresh wr w55) (.slice KB (spK m).length kbc) (spK m)) := hkv.mono (λ x _ hx => ⟨Nat.le_trans hs9 hx.1, hx.2⟩)
    clear hO hQ hkv hs9
    replace HC : Hid (_ /\ _ /\ _ /\ _ /\ _ /\ _ /\ _) := ⟨hk.cell HC.out.1 id, hk.cell HC.out.2.1 id, hk.cell HC.out.2.2.1 id, hk.cell HC.out.2.2.2.1 id, hk.cell HC.out.2.2.2.2.1 id, hk.cell HC.out.2.2.2.2.2.1 id, hk.cell HC.out.2.2.2.2.2.2 id⟩
    replace HMD := Hd (HMD.out.keeps hk (λ _ _ _ => id))
    replace BY := Hd (BY.out.keeps hk id)
    replace BX := Hd (BX.out.keeps hk id)
    replace KT := tq_ KT hk
    clear hk
    refine ⟨.inr HC.out, ?_⟩
    iterate 4
     refine wpTre_read (v := ?_) rfl (by rfl) ?_ ?_
     rotate_left
     ·intro W hW
      try (obtain ⟨z1, z2, z3, z4, z5, z6, z7⟩ : _ /\ _ /\ _ /\ _ /\ _ /\ _ /\ _ := hW)
      go_simp
      try simp only [hwrp]
      try rfl
     simp only [Act.put, sa_, sb_, sc_]
    refine wpTre_act rfl ?_
    clear HMD
    have qBX0 := BX.out.cell 0
    have qBX1 := BX.out.cell 1
    have qBX2 := BX.out.cell 2
    have qBX3 := BX.out.cell 3
    have qBX4 := BX.out.cell 4
    have qBX5 := BX.out.cell 5
    have gBX0 := BX.out.frozen 0
    have gBX1 := BX.out.frozen 1
    have gBX2 := BX.out.frozen 2
    have gBX3 := BX.out.frozen 3
    have gBX4 := BX.out.frozen 4
    have gBX5 := BX.out.frozen 5
    go_wp2
    clear qBX0 qBX1 qBX2 qBX3 qBX4 qBX5 gBX0 gBX1 gBX2 gBX3 gBX4 gBX5
    refine tre_at' (λ w56 hw => ?_)
    have hk : Keeps (λ x => x = X) w55 w56 := by rw [hw]; exact (((((Keeps.setCell _ (M := λ x => x = X) rfl _).setCell' (λ _ => rfl) _).setCell' (λ _ => rfl) _).setCell' (λ _ => rfl) _).setCell' (λ _ => rfl) _).setCell' (λ _ => rfl) _
    have hb : Hid (Blk w56 X 35 #[.int .i64 ((spL m ((A.sl.length : Int) + 1))).lvl, .slice D1 ((spL m ((A.sl.length : Int) + 1))).high.length dj1, .int .i64 ((spL m ((A.sl.length : Int) + 1))).right, .slice D3 ((spL m ((A.sl.length : Int) + 1))).keys.length dj3, .slice D4 ((spL m ((A.sl.length : Int) + 1))).vals.length dj4, .slice D5 ((spL m ((A.sl.length : Int) + 1))).kids.length dj5]) := by show Blk _ _ _ _; rw [hw]; exact ((((((BX.out.set_ 0 _).set_ 1 _).set_ 2 _).set_ 3 _).set_ 4 _).set_ 5 _)
    have hz : w56.heap.size = w55.heap.size := by rw [hw]; simp
    clear hw
    replace HL := Hd (ONd.keepsB HL.out BX.out ⟨by decide, by decide, by decide⟩ hk)
    replace HR := Hd (ONd.keepsB HR.out BX.out ⟨by decide, by decide, by decide⟩ hk)
    replace HKB := Hd (OBy.keepsB HKB.out BX.out ⟨by decide, by decide, by decide⟩ hk)
    replace BY := Hd (BY.out.keeps hk (λ e => HXY.out e.symm))
    replace BX := hb
    clear hb
    replace KT := Hd (KT.out.trans hk (λ x hx e => by have h := XW.out; have e2 : x = X := e; omega))
    clear hk hz
    refine ⟨.inl (by rfl), ?_⟩
    refine wpTre_act rfl ?_
    have qBY0 := BY.out.cell 0
    have qBY1 := BY.out.cell 1
    have qBY2 := BY.out.cell 2
    have qBY3 := BY.out.cell 3
    have qBY4 := BY.out.cell 4
    have qBY5 := BY.out.cell 5
    have gBY0 := BY.out.frozen 0
    have gBY1 := BY.out.frozen 1
    have gBY2 := BY.out.frozen 2
    have gBY3 := BY.out.frozen 3
    have gBY4 := BY.out.frozen 4
    have gBY5 := BY.out.frozen 5
    go_wp2
    clear qBY0 qBY1 qBY2 qBY3 qBY4 qBY5 gBY0 gBY1 gBY2 gBY3 gBY4 gBY5
    refine tre_at' (λ w57 hw => ?_)
    have hk : Keeps (λ x => x = Y) w56 w57 := by rw [hw]; exact (((((Keeps.setCell _ (M := λ x => x = Y) rfl _).setCell' (λ _ => rfl) _).setCell' (λ _ => rfl) _).setCell' (λ _ => rfl) _).setCell' (λ _ => rfl) _).setCell' (λ _ => rfl) _
    have hb : Hid (Blk w57 Y 35 #[.int .i64 ((spR m)).lvl, .slice E1 ((spR m)).high.length ej1, .int .i64 ((spR m)).right, .slice E3 ((spR m)).keys.length ej3, .slice E4 ((spR m)).vals.length ej4, .slice E5 ((spR m)).kids.length ej5]) := by show Blk _ _ _ _; rw [hw]; exact ((((((BY.out.set_ 0 _).set_ 1 _).set_ 2 _).set_ 3 _).set_ 4 _).set_ 5 _)
    have hz : w57.heap.size = w56.heap.size := by rw [hw]; simp
    clear hw
    replace HL := Hd (ONd.keepsB HL.out BY.out ⟨by decide, by decide, by decide⟩ hk)
    replace HR := Hd (ONd.keepsB HR.out BY.out ⟨by decide, by decide, by decide⟩ hk)
    replace HKB := Hd (OBy.keepsB HKB.out BY.out ⟨by decide, by decide, by decide⟩ hk)
    replace BX := Hd (BX.out.keeps hk (λ e => HXY.out e))
    replace BY := hb
    clear hb
    replace KT := Hd (KT.out.trans hk (λ x hx e => by have h := YW.out; have e2 : x = Y := e; omega))
    clear hk hz
    refine ⟨.inl (by rfl), ?_⟩
    iterate 1
     refine wpTre_read (v := ?_) rfl (by rfl) ?_ ?_
     rotate_left
     ·intro W hW
      try (obtain ⟨z1, z2, z3, z4, z5, z6, z7⟩ : _ /\ _ /\ _ /\ _ /\ _ /\ _ /\ _ := hW)
      go_simp
      try simp only [hwrp]
      try rfl
     simp only [Act.put, sa_, sb_, sc_]
    refine wpTre_nil ?_
    exact ⟨(X, Y, #[.int .i64 ((spL m ((A.sl.length : Int) + 1))).lvl, .slice D1 ((spL m ((A.sl.length : Int) + 1))).high.length dj1, .int .i64 ((spL m ((A.sl.length : Int) + 1))).right, .slice D3 ((spL m ((A.sl.length : Int) + 1))).keys.length dj3, .slice D4 ((spL m ((A.sl.length : Int) + 1))).vals.length dj4, .slice D5 ((spL m ((A.sl.length : Int) + 1))).kids.length dj5], #[.int .i64 ((spR m)).lvl, .slice E1 ((spR m)).high.length ej1, .int .i64 ((spR m)).right, .slice E3 ((spR m)).keys.length ej3, .slice E4 ((spR m)).vals.length ej4, .slice E5 ((spR m)).kids.length ej5], .slice KB (spK m).length kbc), by simp only [putsA, Act.put, sa_, sb_, sc_], ⟨_, _, _, _, _, _, _, _, _, _, _, _, rfl, rfl, HL.out.mono (λ x hx hS => ⟨hS.1, hx⟩), HR.out.mono (λ x hx hS => ⟨hS.1, hx⟩)⟩, HKB.out.mono (λ x hx hS => ⟨hS.1, hx⟩), BX.out, BY.out, KT.out, ⟨XW.out, YW.out⟩, HXY.out⟩
 rintro ⟨X, Y, LA, RA, kv⟩ v9 ⟨⟨d0, d1, d2, d3, d4, d5, e0, e1, e2, e3, e4, e5, hla, hra, hO, hQ⟩, hkv, hbx, hby, hk, ⟨hX, hY⟩, hne⟩
 simp only at hla hra hkv hbx hby hX hY hne
 subst hla hra
 obtain ⟨D1, dj1, f1⟩ := Own.form hO.1.high
 obtain ⟨D3, dj3, f3⟩ := OTx.form hO.2.keys
 obtain ⟨D4, dj4, f4⟩ := OTx.form hO.2.vals
 obtain ⟨D5, dj5, f5⟩ := Own.form hO.2.kids
 have f0 := hO.1.lvl
 have f2 := hO.1.right
 unfold iV at f0 f2
 subst f0 f1 f2 f3 f4 f5
 obtain ⟨E1, ej1, f1⟩ := Own.form hQ.1.high
 obtain ⟨E3, ej3, f3⟩ := OTx.form hQ.2.keys
 obtain ⟨E4, ej4, f4⟩ := OTx.form hQ.2.vals
 obtain ⟨E5, ej5, f5⟩ := Own.form hQ.2.kids
 have f0 := hQ.1.lvl
 have f2 := hQ.1.right
 unfold iV at f0 f2
 subst f0 f1 f2 f3 f4 f5
 obtain ⟨KB, kbc, hf⟩ := hkv.form
 subst hf
 have HL := Hd hO
 have HR := Hd hQ
 have BX := Hd hbx
 have BY := Hd hby
 have HXY : Hid (wr.heap.size <= X /\ wr.heap.size <= Y /\ X ≠ Y) := ⟨hX, hY, hne⟩
 have HWRS : Hid (w.heap.size <= wr.heap.size) := K.out.size
 replace HKEY := Hd (HKEY.out.keeps hk (λ _ _ _ => id))
 replace HVAL := Hd (HVAL.out.keeps hk (λ _ _ _ => id))
 replace HND := Hd (HND.out.keeps hk (λ _ _ _ => id))
 replace HP := Hd (HP.out.keeps hk id)
 replace HMD := Hd (HMD.out.keeps hk (λ _ _ _ => id))
 replace HN := Hd (HN.out.keeps hk id)
 have KV := Hd hk
 replace K := tq_ K hk
 clear hk hO hQ hkv hbx hby hX hY hne
 simp only [putsA, Act.put, sa_, sb_, sc_]
 skip
 have HAF : Hid (∀ x, Fresh wr v9 x -> Fresh w v9 x) := λ x hx => ⟨Nat.le_trans HWRS.out hx.1, hx.2⟩
 rcases Nat.eq_zero_or_pos (spK m).length with hz | hz
 ·have hkz : (((spK m).length : Int) == 0) = true := by rw [hz]; rfl
  have HZK := Hd hz
  clear hz
  go_wp2
  go_ret
  refine ⟨rfl, ?_, K.out.mono (λ _ _ h => h.elim)⟩
  rw [show turnM A _ = A from by unfold turnM; rw [if_neg (show ¬ (3 : Int) = 0 by decide), if_neg (show ¬ (3 : Int) = 1 by decide), if_neg (show ¬ (3 : Int) = 2 by decide), if_pos rfl, if_pos (by rw [HAT.out.2]; exact .inl HZK.out)]]
  exact HJ.out.nob K.out
 have hkz : (((spK m).length : Int) == 0) = false := by rw [beq_eq_false_iff_ne]; omega
 have HZK : Hid (¬ (spK m).length = 0) := by show ¬ _; omega
 clear hz
 have hnd := HJ.out
 have hbn : A.sl.length <= A.nodes := by obtain ⟨_, ⟨_, _, _, _, ⟨_, _, hX⟩, _⟩, _⟩ := hnd; exact hX.bound.1
 clear hnd
 have FL := (HJ.out.nob K.out).leftR
 unfold pV iV at FL
 have cb : v9.cell? ⟨b, 1, none⟩ = some (.pointer (some ⟨q, 0, none⟩)) := (HJ.out.nob K.out).blk.cell 1
 by_cases hfull : A.sl.length = A.nodes
 ·have hll0 : (((A.nodes : Int) - (A.sl.length : Int)) == 0) = true := by rw [<- hfull]; simp
  have HFU := Hd hfull
  clear hfull hbn
  go_wp2_with (go_at_call 41; refine FL.mono ?_; rintro e w10 ⟨rfl, _, hk⟩)
  replace K := tq_ K hk
  go_ret
  refine ⟨rfl, ?_, K.out.mono (λ _ _ h => h.elim)⟩
  rw [show turnM A _ = A from by unfold turnM; rw [if_neg (show ¬ (3 : Int) = 0 by decide), if_neg (show ¬ (3 : Int) = 1 by decide), if_neg (show ¬ (3 : Int) = 2 by decide), if_pos rfl, if_pos (by rw [HAT.out.2]; exact .inr HFU.out)]]
  exact HJ.out.nob K.out
 have hll0 : (((A.nodes : Int) - (A.sl.length : Int)) == 0) = false := by rw [beq_eq_false_iff_ne]; omega
 have HFU : Hid (A.sl.length < A.nodes) := by show _ < _; omega
 clear hfull hbn
 go_wp2_with (first | (go_at_call 41; refine FL.mono ?_; rintro e v10 ⟨rfl, _, hk⟩) | fail)
 clear cb hkz hll0
 replace BX := Hd (BX.out.keeps hk id)
 replace BY := Hd (BY.out.keeps hk id)
 replace HL := Hd (HL.out.keeps hk (λ _ _ _ => id))
 replace HR := Hd (HR.out.keeps hk (λ _ _ _ => id))
 have hs910 := hk.size
 replace K := tq_ K hk
 replace HAF : Hid (∀ x, Fresh wr v9 x -> Fresh w v10 x) := λ x hx => ⟨(HAF.out x hx).1, Nat.lt_of_lt_of_le (HAF.out x hx).2 hs910⟩
 clear hk hs910 FL
 have HPS : Hid (Fresh w v10 X /\ Fresh w v10 Y) := ⟨⟨Nat.le_trans HWRS.out HXY.out.1, BX.out.lt⟩, ⟨Nat.le_trans HWRS.out HXY.out.2.1, BY.out.lt⟩⟩
 refine wp_region_treV (X := Unit) (λ _ => [(some 105, .pointer (some ⟨b, 0, none⟩)), (some 106, .pointer (some ⟨b, 0, none⟩)), (some 107, .pointer (some ⟨b, 0, none⟩)), (some 108, .pointer (some ⟨b, 1, none⟩)), (some 109, .pointer (some ⟨q, 0, none⟩)), (some 110, .int .i64 A.sl.length), (some 111, .agg #[.int .i64 ((spR m)).lvl, .slice E1 ((spR m)).high.length ej1, .int .i64 ((spR m)).right, .slice E3 ((spR m)).keys.length ej3, .slice E4 ((spR m)).vals.length ej4, .slice E5 ((spR m)).kids.length ej5]), (some 112, .agg #[.int .i64 7, .int .i64 A.sl.length, .int .i64 0, .int .u64 0, .bool false, .int .i64 ((spR m)).lvl, .slice E1 ((spR m)).high.length ej1, .int .i64 ((spR m)).right, .slice E3 ((spR m)).keys.length ej3, .slice E4 ((spR m)).vals.length ej4, .slice E5 ((spR m)).kids.length ej5]), (some 113, .bool true), (some 13, .bool true)]) (λ _ w' => ∃ G1, (∀ x, G1 x -> G x /\ ¬ Fresh w v10 x) /\ J w' G1 b p q (step A ⟨7, A.sl.length, 0, 0, false, spR m⟩) (step A ⟨7, A.sl.length, 0, 0, false, spR m⟩) /\ Keeps G1 v10 w') (Wlk.reads [0, 1, 2, 3] (.two 4 (.two 5 (.act 6 (Wlk.reads [7] (.act 8 (Wlk.reads [9] (.nil))))) 6 (.act 5 (Wlk.reads [7] (.act 8 (Wlk.reads [9] (.nil)))))) 6 (.act 4 (.act 5 (Wlk.reads [7] (.act 8 (Wlk.reads [9] (.nil)))))))) 8 (λ _ => True) (by kernel_rfl) (by kernel_rfl) (of_decide_eq_true (by kernel_rfl)) (by kernel_rfl) (λ _ _ d _ _ h => by cases d <;> exact h) trivial ?_ ?_
 ·refine tre_at (λ w21 hw => ?_)
  have hk : Keeps Nob v10 w21 := by rw [hw]; exact Keeps.drew _ _
  clear hw
  have KQ := Hd hk
  have HZZ : Hid (v10.heap.size <= w21.heap.size) := hk.size
  replace BX := Hd (BX.out.keeps hk id)
  replace BY := Hd (BY.out.keeps hk id)
  replace HL := Hd (HL.out.keeps hk (λ _ _ _ => id))
  replace HR := Hd (HR.out.keeps hk (λ _ _ _ => id))
  replace K := tq_ K hk
  clear hk
  unfold Wlk.reads
  iterate 4
   refine wpTre_read (v := ?_) rfl (by rfl) ?_ ?_
   rotate_left
   ·intro W hW
    go_simp
    try rfl
   simp only [Act.put, sa_, sb_, sc_]
  refine wpTre_two rfl rfl ?_ ?_
  ·have cb : w21.cell? ⟨b, 1, none⟩ = some (.pointer (some ⟨q, 0, none⟩)) := (HJ.out.nob K.out).blk.cell 1
   go_wp2
   clear cb
   refine ⟨.inr trivial, ?_⟩
   refine wpTre_two rfl rfl ?_ ?_
   ·have FU := (HJ.out.nob K.out).usedR
    unfold pV iV at FU
    go_wp2_with (go_at_call 16; refine FU.mono ?_; rintro e wk ⟨rfl, rfl⟩)
    clear FU
    refine ⟨.inr trivial, ?_⟩
    refine wpTre_act rfl ?_
    have qBY0 := BY.out.cell 0
    have qBY1 := BY.out.cell 1
    have qBY2 := BY.out.cell 2
    have qBY3 := BY.out.cell 3
    have qBY4 := BY.out.cell 4
    have qBY5 := BY.out.cell 5
    go_wp2
    clear qBY0 qBY1 qBY2 qBY3 qBY4 qBY5
    refine ⟨.inr trivial, ?_⟩
    iterate 1
     refine wpTre_read (v := ?_) rfl (by rfl) ?_ ?_
     rotate_left
     ·intro W hW
      go_simp
      try rfl
     simp only [Act.put, sa_, sb_, sc_]
    refine wpTre_act rfl ?_
    have hop : IsOp w21 (Fresh w v10) #[.int .i64 7, .int .i64 A.sl.length, .int .i64 0, .int .u64 0, .bool false, .int .i64 ((spR m)).lvl, .slice E1 ((spR m)).high.length ej1, .int .i64 ((spR m)).right, .slice E3 ((spR m)).keys.length ej3, .slice E4 ((spR m)).vals.length ej4, .slice E5 ((spR m)).kids.length ej5] ⟨7, A.sl.length, 0, 0, false, spR m⟩ := ⟨⟨_, _, _, _, _, _, rfl, HR.out.r.mono (λ x _ h => HAF.out x h)⟩, (by show I64 7; unfold I64; omega), (by show I64 (A.sl.length : Int); unfold I64; omega), (by show I64 0; unfold I64; omega), (by show U64 0; unfold U64; omega), spR_sm (HSM.out.mono (Nat.zero_le _)) (by decide)⟩
    have FW := rawJ (HJ.out.shr K.out (λ _ _ _ h => h)) hop (λ x hx hg => hg.2 ⟨hx.1, Nat.lt_of_lt_of_le hx.2 HZZ.out⟩)
    unfold pV at FW
    go_wp2_with (go_at_call 37; refine FW.mono ?_; rintro e w22 ⟨rfl, hj, hk9⟩)
    have HG1 : Hid (∃ G1, (∀ x, G1 x -> G x /\ ¬ Fresh w v10 x) /\ J w22 G1 b p q (step A ⟨7, A.sl.length, 0, 0, false, spR m⟩) (step A ⟨7, A.sl.length, 0, 0, false, spR m⟩) /\ Keeps G1 v10 w22) := ⟨_, λ x hg => ⟨hg.1, λ hf => hg.2 ⟨hf.1, Nat.lt_of_lt_of_le hf.2 HZZ.out⟩⟩, hj, (KQ.out.mono (λ _ _ h => h.elim)).trans hk9 (λ _ _ h => h)⟩
    clear hop hj hk9 FW
    refine ⟨.inl (by rfl), ?_⟩
    iterate 1
     refine wpTre_read (v := ?_) rfl (by rfl) ?_ ?_
     rotate_left
     ·intro W hW
      go_simp
      try rfl
     simp only [Act.put, sa_, sb_, sc_]
    refine wpTre_nil ?_
    exact ⟨(), by simp only [putsA, Act.put, sa_, sb_, sc_], HG1.out⟩
   ·have qBY0 := BY.out.cell 0
    have qBY1 := BY.out.cell 1
    have qBY2 := BY.out.cell 2
    have qBY3 := BY.out.cell 3
    have qBY4 := BY.out.cell 4
    have qBY5 := BY.out.cell 5
    go_wp2
    clear qBY0 qBY1 qBY2 qBY3 qBY4 qBY5
    refine ⟨.inr trivial, ?_⟩
    refine wpTre_act rfl ?_
    have FU := (HJ.out.nob K.out).usedR
    unfold pV iV at FU
    go_wp2_with (go_at_call 16; refine FU.mono ?_; rintro e wk ⟨rfl, rfl⟩)
    clear FU
    refine ⟨.inr trivial, ?_⟩
    iterate 1
     refine wpTre_read (v := ?_) rfl (by rfl) ?_ ?_
     rotate_left
     ·intro W hW
      go_simp
      try rfl
     simp only [Act.put, sa_, sb_, sc_]
    refine wpTre_act rfl ?_
    have hop : IsOp w21 (Fresh w v10) #[.int .i64 7, .int .i64 A.sl.length, .int .i64 0, .int .u64 0, .bool false, .int .i64 ((spR m)).lvl, .slice E1 ((spR m)).high.length ej1, .int .i64 ((spR m)).right, .slice E3 ((spR m)).keys.length ej3, .slice E4 ((spR m)).vals.length ej4, .slice E5 ((spR m)).kids.length ej5] ⟨7, A.sl.length, 0, 0, false, spR m⟩ := ⟨⟨_, _, _, _, _, _, rfl, HR.out.r.mono (λ x _ h => HAF.out x h)⟩, (by show I64 7; unfold I64; omega), (by show I64 (A.sl.length : Int); unfold I64; omega), (by show I64 0; unfold I64; omega), (by show U64 0; unfold U64; omega), spR_sm (HSM.out.mono (Nat.zero_le _)) (by decide)⟩
    have FW := rawJ (HJ.out.shr K.out (λ _ _ _ h => h)) hop (λ x hx hg => hg.2 ⟨hx.1, Nat.lt_of_lt_of_le hx.2 HZZ.out⟩)
    unfold pV at FW
    go_wp2_with (go_at_call 37; refine FW.mono ?_; rintro e w23 ⟨rfl, hj, hk9⟩)
    have HG1 : Hid (∃ G1, (∀ x, G1 x -> G x /\ ¬ Fresh w v10 x) /\ J w23 G1 b p q (step A ⟨7, A.sl.length, 0, 0, false, spR m⟩) (step A ⟨7, A.sl.length, 0, 0, false, spR m⟩) /\ Keeps G1 v10 w23) := ⟨_, λ x hg => ⟨hg.1, λ hf => hg.2 ⟨hf.1, Nat.lt_of_lt_of_le hf.2 HZZ.out⟩⟩, hj, (KQ.out.mono (λ _ _ h => h.elim)).trans hk9 (λ _ _ h => h)⟩
    clear hop hj hk9 FW
    refine ⟨.inl (by rfl), ?_⟩
    iterate 1
     refine wpTre_read (v := ?_) rfl (by rfl) ?_ ?_
     rotate_left
     ·intro W hW
      go_simp
      try rfl
     simp only [Act.put, sa_, sb_, sc_]
    refine wpTre_nil ?_
    exact ⟨(), by simp only [putsA, Act.put, sa_, sb_, sc_], HG1.out⟩
  ·have qBY0 := BY.out.cell 0
   have qBY1 := BY.out.cell 1
   have qBY2 := BY.out.cell 2
   have qBY3 := BY.out.cell 3
   have qBY4 := BY.out.cell 4
   have qBY5 := BY.out.cell 5
   go_wp2
   clear qBY0 qBY1 qBY2 qBY3 qBY4 qBY5
   refine ⟨.inr trivial, ?_⟩
   refine wpTre_act rfl ?_
   have cb : w21.cell? ⟨b, 1, none⟩ = some (.pointer (some ⟨q, 0, none⟩)) := (HJ.out.nob K.out).blk.cell 1
   go_wp2
   clear cb
   refine ⟨.inr trivial, ?_⟩
   refine wpTre_act rfl ?_
   have FU := (HJ.out.nob K.out).usedR
   unfold pV iV at FU
   go_wp2_with (go_at_call 16; refine FU.mono ?_; rintro e wk ⟨rfl, rfl⟩)
   clear FU
   refine ⟨.inr trivial, ?_⟩
   iterate 1
    refine wpTre_read (v := ?_) rfl (by rfl) ?_ ?_
    rotate_left
    ·intro W hW
     go_simp
     try rfl
    simp only [Act.put, sa_, sb_, sc_]
   refine wpTre_act rfl ?_
   have hop : IsOp w21 (Fresh w v10) #[.int .i64 7, .int .i64 A.sl.length, .int .i64 0, .int .u64 0, .bool false, .int .i64 ((spR m)).lvl, .slice E1 ((spR m)).high.length ej1, .int .i64 ((spR m)).right, .slice E3 ((spR m)).keys.length ej3, .slice E4 ((spR m)).vals.length ej4, .slice E5 ((spR m)).kids.length ej5] ⟨7, A.sl.length, 0, 0, false, spR m⟩ := ⟨⟨_, _, _, _, _, _, rfl, HR.out.r.mono (λ x _ h => HAF.out x h)⟩, (by show I64 7; unfold I64; omega), (by show I64 (A.sl.length : Int); unfold I64; omega), (by show I64 0; unfold I64; omega), (by show U64 0; unfold U64; omega), spR_sm (HSM.out.mono (Nat.zero_le _)) (by decide)⟩
   have FW := rawJ (HJ.out.shr K.out (λ _ _ _ h => h)) hop (λ x hx hg => hg.2 ⟨hx.1, Nat.lt_of_lt_of_le hx.2 HZZ.out⟩)
   unfold pV at FW
   go_wp2_with (go_at_call 37; refine FW.mono ?_; rintro e w24 ⟨rfl, hj, hk9⟩)
   have HG1 : Hid (∃ G1, (∀ x, G1 x -> G x /\ ¬ Fresh w v10 x) /\ J w24 G1 b p q (step A ⟨7, A.sl.length, 0, 0, false, spR m⟩) (step A ⟨7, A.sl.length, 0, 0, false, spR m⟩) /\ Keeps G1 v10 w24) := ⟨_, λ x hg => ⟨hg.1, λ hf => hg.2 ⟨hf.1, Nat.lt_of_lt_of_le hf.2 HZZ.out⟩⟩, hj, (KQ.out.mono (λ _ _ h => h.elim)).trans hk9 (λ _ _ h => h)⟩
   clear hop hj hk9 FW
   refine ⟨.inl (by rfl), ?_⟩
   iterate 1
    refine wpTre_read (v := ?_) rfl (by rfl) ?_ ?_
    rotate_left
    ·intro W hW
     go_simp
     try rfl
    simp only [Act.put, sa_, sb_, sc_]
   refine wpTre_nil ?_
   exact ⟨(), by simp only [putsA, Act.put, sa_, sb_, sc_], HG1.out⟩
 rintro ⟨⟩ v12 ⟨G1, hg1, hj, hk⟩
 have HG1 := Hd hg1
 have HJ1 := Hd hj
 simp only [putsA, Act.put, sa_, sb_, sc_]
 have BX1 := Hd (BX.out.keeps hk (λ h => (hg1 _ h).2 HPS.out.1))
 have HL1 := Hd (HL.out.keeps hk (λ x _ hx h => (hg1 _ h).2 (HAF.out x hx)))
 have KG : Hid (Keeps G w v12) := (K.out.mono (λ _ _ h => h.elim)).trans hk (λ x _ h => (hg1 x h).1)
 clear hg1 hj hk
 have qBX10 := BX1.out.cell 0
 have qBX11 := BX1.out.cell 1
 have qBX12 := BX1.out.cell 2
 have qBX13 := BX1.out.cell 3
 have qBX14 := BX1.out.cell 4
 have qBX15 := BX1.out.cell 5
 go_wp2_with fail
 clear qBX10 qBX11 qBX12 qBX13 qBX14 qBX15
 have hop : IsOp v12 (Fresh w v10) #[.int .i64 7, .int .i64 i, .int .i64 0, .int .u64 0, .bool false, .int .i64 ((spL m ((A.sl.length : Int) + 1))).lvl, .slice D1 ((spL m ((A.sl.length : Int) + 1))).high.length dj1, .int .i64 ((spL m ((A.sl.length : Int) + 1))).right, .slice D3 ((spL m ((A.sl.length : Int) + 1))).keys.length dj3, .slice D4 ((spL m ((A.sl.length : Int) + 1))).vals.length dj4, .slice D5 ((spL m ((A.sl.length : Int) + 1))).kids.length dj5] ⟨7, (i : Int), 0, 0, false, (spL m ((A.sl.length : Int) + 1))⟩ := ⟨⟨_, _, _, _, _, _, rfl, HL1.out.r.mono (λ x _ h => HAF.out x h)⟩, (by show I64 7; unfold I64; omega), (by show I64 (i : Int); unfold I64; omega), (by show I64 0; unfold I64; omega), (by show U64 0; unfold U64; omega), spL_sm (HSM.out.mono (Nat.zero_le _)) (by decide)⟩
 refine (rawJ HJ1.out hop (λ x hx hg => (HG1.out x hg).2 hx)).mono ?_
 rintro e v13 ⟨rfl, hj, hk9⟩
 have HJ9 := Hd hj
 have K9 := Hd hk9
 clear hop hj hk9
 go_wp2
 go_ret
 refine ⟨rfl, ?_, KG.out.trans K9.out (λ x _ h => (HG1.out x h).1)⟩
 rw [show turnM A _ = step (step A ⟨7, A.sl.length, 0, 0, false, spR m⟩) ⟨7, (i : Int), 0, 0, false, (spL m ((A.sl.length : Int) + 1))⟩ from by unfold turnM; rw [if_neg (show ¬ (3 : Int) = 0 by decide), if_neg (show ¬ (3 : Int) = 1 by decide), if_neg (show ¬ (3 : Int) = 2 by decide), if_pos rfl, if_neg (by rw [HAT.out.2]; intro h; rcases h with h | h; exact HZK.out h; exact absurd HFU.out (by omega)), HAT.out.1, HAT.out.2]]
 exact HJ9.out.weaken (λ x h => (HG1.out x h).1)
end
end Go.Proofs.YtbhohohgojcapaaGreat
