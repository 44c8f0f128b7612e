import Derived.Test.YtbhohohgojcapaaGreatPkE1
import Derived.Test.YtbhohohgojcapaaGreatPkD1
import Derived.BigQuiet
set_option maxHeartbeats 64000000
namespace Go.Proofs.YtbhohohgojcapaaGreat
open Go.RowKit
theorem Tryz.inf_level : (Tryz.prog.info? 105).map (λ i => (i.zero, i.size, i.bytes)) = some (some (.agg #[.slice none 0 0, .slice none 0 0]), 2, 48) := by kernel_rfl
section
variable {w : World} {M D : Nat -> Prop} {q : Nat} {L : Value} {xs : List Value} {A : Ar} {a0 a1 a2 a3 a4 : Int}
theorem Fam.ar (h : DocW w M D q L xs A) : Fam w Nob [arOb M D q L xs A] :=
 Fam.nil.snoc h (λ x hx => hx.elim (h.mlt x) (h.dlt x)) (λ _ _ h => h) (λ x h => h.elim) (λ j u hj => by simp at hj)
set_option maxRecDepth 100000 in
theorem levelsR {R : List Ch × Rp} (h0 : DocW w M D q L xs A) (hsm : ∀ s ∈ A.sl, NdSm 0 s.nd) (hR : levelsM A a0 a1 a2 a3 a4 = R) :
  Calls Tryz.prog 43 #[pV q, .agg #[.int .i64 a0, .int .i64 a1, .int .i64 a2, .int .i64 a3, .int .i64 a4]] w λ e w' => ∃ v, e = .returned (.tuple #[v, .agg (rpV R.2)]) /\ LvsAt w' (Fresh w w') D v R.1 /\ Keeps Nob w w' := by
 have H0 := Hd h0
 have HSM := Hd hsm
 have HR := Hd hR
 have hbd := h0.bound
 clear h0 hsm hR
 have FT := λ wx (h : DocW wx M D q L xs A) => thereR (ix := A.root) h
 unfold pV iV at FT
 unfold pV
 go_enter Tryz.func43, Tryz.ntmps43
 go_wp2_with fail
 refine calls_at (λ w1 hw => ?_)
 obtain ⟨P3, hP⟩ : ∃ N, w.heap.size = N := ⟨_, rfl⟩
 rw [hP]
 have HP := Hd hP
 have K : Hid (Keeps Nob w w1) := by show Keeps _ _ _; rw [hw]; exact (Keeps.alloc _ _ _).alloc' _
 have HF : Hid (Fam w1 Nob [arOb M D q L xs A, muBlk P3 49 #[.int .i64 a0, .int .i64 a1, .int .i64 a2, .int .i64 a3, .int .i64 a4], muBlk (P3 + 1) 42 #[.bool false, .int .i64 0, .int .i64 0, .int .i64 0, .int .i64 0, .int .i64 0]]) := by
  show Fam _ _ _
  rw [hw, <- hP]
  exact ((Fam.ar H0.out).alloc' (t := 49) (cs := #[.int .i64 a0, .int .i64 a1, .int .i64 a2, .int .i64 a3, .int .i64 a4]) rfl).alloc' (g := w.heap.size + 1) (t := 42) (cs := #[.bool false, .int .i64 0, .int .i64 0, .int .i64 0, .int .i64 0, .int .i64 0]) (by simp)
 clear hw hP H0
 refine (confR a0 a1 a2 a3 a4 _).mono ?_
 rintro e w2 ⟨rfl, hk⟩
 replace HF : Hid (Fam w2 Nob [arOb M D q L xs A, muBlk P3 49 #[.int .i64 a0, .int .i64 a1, .int .i64 a2, .int .i64 a3, .int .i64 a4], muBlk (P3 + 1) 42 #[.bool false, .int .i64 0, .int .i64 0, .int .i64 0, .int .i64 0, .int .i64 0]]) := Hd (HF.out.nob0 hk)
 replace K := tq_ K hk
 clear hk
 rcases hcf : confOk a0 a1 a2 a3 a4 with _ | _
 ·have hce : confE a0 a1 a2 a3 a4 = 1 := by unfold confE; rw [hcf]; rfl
  rw [hce]
  clear hce
  obtain rfl : R = ([], .wrong 0 1) := by have h := HR.out; unfold levelsM at h; rw [hcf, if_pos rfl] at h; exact h.symm
  go_wp2_with (first | (go_at_call 50; refine (FT _ (HF.out.ok 0 _ rfl)).mono ?_; rintro e w' ⟨rfl, rfl⟩) | (go_at_call 94; refine (wrongR 0 1 _).mono ?_; rintro e v1 ⟨rfl, hk⟩; replace HF := Hd (HF.out.nob0 hk); replace K := tq_ K hk; have q0 := (HF.out.ok 2 _ rfl : Blk v1 (P3 + 1) 42 _).cell 0; have f0 := (HF.out.ok 2 _ rfl : Blk v1 (P3 + 1) 42 _).frozen 0; have q1 := (HF.out.ok 2 _ rfl : Blk v1 (P3 + 1) 42 _).cell 1; have f1 := (HF.out.ok 2 _ rfl : Blk v1 (P3 + 1) 42 _).frozen 1; have q2 := (HF.out.ok 2 _ rfl : Blk v1 (P3 + 1) 42 _).cell 2; have f2 := (HF.out.ok 2 _ rfl : Blk v1 (P3 + 1) 42 _).frozen 2; have q3 := (HF.out.ok 2 _ rfl : Blk v1 (P3 + 1) 42 _).cell 3; have f3 := (HF.out.ok 2 _ rfl : Blk v1 (P3 + 1) 42 _).frozen 3; have q4 := (HF.out.ok 2 _ rfl : Blk v1 (P3 + 1) 42 _).cell 4; have f4 := (HF.out.ok 2 _ rfl : Blk v1 (P3 + 1) 42 _).frozen 4; have q5 := (HF.out.ok 2 _ rfl : Blk v1 (P3 + 1) 42 _).cell 5; have f5 := (HF.out.ok 2 _ rfl : Blk v1 (P3 + 1) 42 _).frozen 5))
  clear q0 f0 q1 f1 q2 f2 q3 f3 q4 f4 q5 f5
  refine post_at (λ v3 hw => ?_)
  have hk' : Keeps (λ x => x = P3 + 1) v1 v3 := by rw [hw]; exact (((((Keeps.setCell _ (M := λ x => x = P3 + 1) rfl _).setCell' (λ _ => rfl) _).setCell' (λ _ => rfl) _).setCell' (λ _ => rfl) _).setCell' (λ _ => rfl) _).setCell' (λ _ => rfl) _
  have hb : Blk v3 (P3 + 1) 42 #[.bool false, .int .i64 0, .int .i64 1, .int .i64 0, .int .i64 0, .int .i64 0] := by rw [hw]; exact ((((((HF.out.ok 2 _ rfl : Blk v1 (P3 + 1) 42 _).set_ 0 _).set_ 1 _).set_ 2 _).set_ 3 _).set_ 4 _).set_ 5 _
  replace K := Hd (K.out.trans hk' (λ x hx e => by have h := HP.out; have e2 : x = P3 + 1 := e; omega))
  have r0 := hb.cell 0
  have r1 := hb.cell 1
  have r2 := hb.cell 2
  have r3 := hb.cell 3
  have r4 := hb.cell 4
  have r5 := hb.cell 5
  refine bodyPost_ret (v := .tuple #[.slice none 0 0, .agg #[.bool false, .int .i64 0, .int .i64 1, .int .i64 0, .int .i64 0, .int .i64 0]]) (by simp [results, Tryz.results43, go_sem, r0, r1, r2, r3, r4, r5]) rfl ⟨_, rfl, ⟨[], rfl, Own.nil _ _ _ _, λ d hd => by simp at hd⟩, K.out⟩
 have hce : confE a0 a1 a2 a3 a4 = 0 := by unfold confE; rw [hcf]; rfl
 rw [hce]
 have HCF := Hd hcf
 clear hce hcf
 go_wp2_with fail
 refine (heldsR (HF.out.ok 0 _ rfl)).mono ?_
 rintro e w3 ⟨v, rfl, hO, hk⟩
 replace HF : Hid (Fam w3 Nob [arOb M D q L xs A, muBlk P3 49 #[.int .i64 a0, .int .i64 a1, .int .i64 a2, .int .i64 a3, .int .i64 a4], muBlk (P3 + 1) 42 #[.bool false, .int .i64 0, .int .i64 0, .int .i64 0, .int .i64 0, .int .i64 0]]) := Hd (HF.out.nob0 hk)
 replace K := tq_ K hk
 clear hk
 obtain ⟨hA, hc, ev⟩ := hO.form
 subst ev
 rcases hh : heldFrom 1 A.sl with _ | ⟨hd, tl⟩
 rotate_left
 ·rw [hh] at hO
  obtain ⟨g, o, eA, c0⟩ := hO.at2 (j := 0) (y := .int .i64 hd) (by simp) rfl
  subst eA
  have l0 : g < w3.heap.size := World.block_lt_of_cell? _ _ c0
  rw [Nat.add_zero] at c0
  simp only [List.length_cons]
  clear hO
  obtain rfl : R = ([], .wrong hd 102) := by have h := HR.out; unfold levelsM at h; rw [HCF.out, hh, if_neg (by decide)] at h; exact h.symm
  go_wp2_with (first | (go_at_call 50; refine (FT _ (HF.out.ok 0 _ rfl)).mono ?_; rintro e w' ⟨rfl, rfl⟩) | (go_at_call 94; refine (wrongR hd 102 _).mono ?_; rintro e v1 ⟨rfl, hk⟩; replace HF := Hd (HF.out.nob0 hk); replace K := tq_ K hk; have q0 := (HF.out.ok 2 _ rfl : Blk v1 (P3 + 1) 42 _).cell 0; have f0 := (HF.out.ok 2 _ rfl : Blk v1 (P3 + 1) 42 _).frozen 0; have q1 := (HF.out.ok 2 _ rfl : Blk v1 (P3 + 1) 42 _).cell 1; have f1 := (HF.out.ok 2 _ rfl : Blk v1 (P3 + 1) 42 _).frozen 1; have q2 := (HF.out.ok 2 _ rfl : Blk v1 (P3 + 1) 42 _).cell 2; have f2 := (HF.out.ok 2 _ rfl : Blk v1 (P3 + 1) 42 _).frozen 2; have q3 := (HF.out.ok 2 _ rfl : Blk v1 (P3 + 1) 42 _).cell 3; have f3 := (HF.out.ok 2 _ rfl : Blk v1 (P3 + 1) 42 _).frozen 3; have q4 := (HF.out.ok 2 _ rfl : Blk v1 (P3 + 1) 42 _).cell 4; have f4 := (HF.out.ok 2 _ rfl : Blk v1 (P3 + 1) 42 _).frozen 4; have q5 := (HF.out.ok 2 _ rfl : Blk v1 (P3 + 1) 42 _).cell 5; have f5 := (HF.out.ok 2 _ rfl : Blk v1 (P3 + 1) 42 _).frozen 5))
  clear q0 f0 q1 f1 q2 f2 q3 f3 q4 f4 q5 f5
  refine post_at (λ v3 hw => ?_)
  have hk' : Keeps (λ x => x = P3 + 1) v1 v3 := by rw [hw]; exact (((((Keeps.setCell _ (M := λ x => x = P3 + 1) rfl _).setCell' (λ _ => rfl) _).setCell' (λ _ => rfl) _).setCell' (λ _ => rfl) _).setCell' (λ _ => rfl) _).setCell' (λ _ => rfl) _
  have hb : Blk v3 (P3 + 1) 42 #[.bool false, .int .i64 hd, .int .i64 102, .int .i64 0, .int .i64 0, .int .i64 0] := by rw [hw]; exact ((((((HF.out.ok 2 _ rfl : Blk v1 (P3 + 1) 42 _).set_ 0 _).set_ 1 _).set_ 2 _).set_ 3 _).set_ 4 _).set_ 5 _
  replace K := Hd (K.out.trans hk' (λ x hx e => by have h := HP.out; have e2 : x = P3 + 1 := e; omega))
  have r0 := hb.cell 0
  have r1 := hb.cell 1
  have r2 := hb.cell 2
  have r3 := hb.cell 3
  have r4 := hb.cell 4
  have r5 := hb.cell 5
  refine bodyPost_ret (v := .tuple #[.slice none 0 0, .agg #[.bool false, .int .i64 hd, .int .i64 102, .int .i64 0, .int .i64 0, .int .i64 0]]) (by simp [results, Tryz.results43, go_sem, r0, r1, r2, r3, r4, r5]) rfl ⟨_, rfl, ⟨[], rfl, Own.nil _ _ _ _, λ d hd => by simp at hd⟩, K.out⟩
 have HH := Hd hh
 clear hh hO
 have HAR := Hd (HF.out.ok 0 _ rfl)
 have cr : w3.cell? ⟨q, 2, none⟩ = some (.int .i64 A.root) := (HF.out.ok 0 _ rfl : DocW w3 M D q L xs A).blk.cell 2
 simp only [List.length_nil]
 rcases hg : A.get A.root with _ | s
 ·rw [hg] at FT
  obtain rfl : R = ([], .wrong A.root 101) := by have h := HR.out; unfold levelsM at h; rw [HCF.out, HH.out, hg, if_neg (by decide)] at h; exact h.symm
  go_wp2_with (first | (go_at_call 50; refine (FT _ (HF.out.ok 0 _ rfl)).mono ?_; rintro e w' ⟨rfl, rfl⟩) | (go_at_call 94; refine (wrongR A.root 101 _).mono ?_; rintro e v1 ⟨rfl, hk⟩; replace HF := Hd (HF.out.nob0 hk); replace K := tq_ K hk; have q0 := (HF.out.ok 2 _ rfl : Blk v1 (P3 + 1) 42 _).cell 0; have f0 := (HF.out.ok 2 _ rfl : Blk v1 (P3 + 1) 42 _).frozen 0; have q1 := (HF.out.ok 2 _ rfl : Blk v1 (P3 + 1) 42 _).cell 1; have f1 := (HF.out.ok 2 _ rfl : Blk v1 (P3 + 1) 42 _).frozen 1; have q2 := (HF.out.ok 2 _ rfl : Blk v1 (P3 + 1) 42 _).cell 2; have f2 := (HF.out.ok 2 _ rfl : Blk v1 (P3 + 1) 42 _).frozen 2; have q3 := (HF.out.ok 2 _ rfl : Blk v1 (P3 + 1) 42 _).cell 3; have f3 := (HF.out.ok 2 _ rfl : Blk v1 (P3 + 1) 42 _).frozen 3; have q4 := (HF.out.ok 2 _ rfl : Blk v1 (P3 + 1) 42 _).cell 4; have f4 := (HF.out.ok 2 _ rfl : Blk v1 (P3 + 1) 42 _).frozen 4; have q5 := (HF.out.ok 2 _ rfl : Blk v1 (P3 + 1) 42 _).cell 5; have f5 := (HF.out.ok 2 _ rfl : Blk v1 (P3 + 1) 42 _).frozen 5))
  clear q0 f0 q1 f1 q2 f2 q3 f3 q4 f4 q5 f5
  refine post_at (λ v3 hw => ?_)
  have hk' : Keeps (λ x => x = P3 + 1) v1 v3 := by rw [hw]; exact (((((Keeps.setCell _ (M := λ x => x = P3 + 1) rfl _).setCell' (λ _ => rfl) _).setCell' (λ _ => rfl) _).setCell' (λ _ => rfl) _).setCell' (λ _ => rfl) _).setCell' (λ _ => rfl) _
  have hb : Blk v3 (P3 + 1) 42 #[.bool false, .int .i64 A.root, .int .i64 101, .int .i64 0, .int .i64 0, .int .i64 0] := by rw [hw]; exact ((((((HF.out.ok 2 _ rfl : Blk v1 (P3 + 1) 42 _).set_ 0 _).set_ 1 _).set_ 2 _).set_ 3 _).set_ 4 _).set_ 5 _
  replace K := Hd (K.out.trans hk' (λ x hx e => by have h := HP.out; have e2 : x = P3 + 1 := e; omega))
  have r0 := hb.cell 0
  have r1 := hb.cell 1
  have r2 := hb.cell 2
  have r3 := hb.cell 3
  have r4 := hb.cell 4
  have r5 := hb.cell 5
  refine bodyPost_ret (v := .tuple #[.slice none 0 0, .agg #[.bool false, .int .i64 A.root, .int .i64 101, .int .i64 0, .int .i64 0, .int .i64 0]]) (by simp [results, Tryz.results43, go_sem, r0, r1, r2, r3, r4, r5]) rfl ⟨_, rfl, ⟨[], rfl, Own.nil _ _ _ _, λ d hd => by simp at hd⟩, K.out⟩
 rw [hg] at FT
 obtain ⟨i, g, o, cc, hid, hi, hl6, hL, X1, k1, X3, k3, X4, k4, X5, k5, n0, n1, n2, n3, n4, n5, hnd⟩ := DocW.mono_ HAR.out hg
 have ca : w3.cell? ⟨q, 1, none⟩ = some (.slice (some ⟨g, o, none⟩) A.sl.length cc) := by have h := HAR.out.blk.cell 1; rw [hL] at h; exact h
 have hwr : IntKind.i64.wrap (A.root - 1) = (i : Int) := by rw [IntKind.wrap_i64]; omega
 have hpos : 0 <= (i : Int) /\ (i : Int) < (A.sl.length : Int) := by omega
 have hri : A.root = (i : Int) + 1 := hid
 have h1r : 1 <= A.root := by omega
 have h2r : A.root <= A.sl.length := by omega
 have h3r : (A.root - 1).toNat = i := by omega
 have HR2 : Hid (levelsFrom A (chkM a0 a1 a2 a3 a4) (s.nd.lvl.toNat + 1) s.nd.lvl A.root [] [] = R) := by
  have h := HR.out; unfold levelsM at h; rw [HCF.out, HH.out, hg, if_neg (by decide)] at h; exact h
 clear hL hnd n1 n2 n3 n4 n5 hid hri HR HH HAR
 go_wp2_with (go_at_call 50; refine (FT _ (HF.out.ok 0 _ rfl)).mono ?_; rintro e w' ⟨rfl, rfl⟩)
 go_quiet (fail)
 go_wp2
 clear ca cr n0 FT hwr hpos h1r h2r h3r
 refine code_at (λ w4 hw => ?_)
 have hk : Keeps Nob w3 w4 := by rw [hw]; exact Keeps.drewN _ _ _
 replace HF : Hid (Fam w4 Nob [arOb M D q L xs A, muBlk P3 49 #[.int .i64 a0, .int .i64 a1, .int .i64 a2, .int .i64 a3, .int .i64 a4], muBlk (P3 + 1) 42 #[.bool false, .int .i64 0, .int .i64 0, .int .i64 0, .int .i64 0, .int .i64 0]]) := Hd (HF.out.nob0 hk)
 replace K := tq_ K hk
 clear hk
 clear hw
 have HF0 : Hid (Fam w4 Nob (arOb M D q L xs A :: rowOb 3 1 (.slice none 0 0) 0 [] :: rowOb 105 2 (.slice none 0 0) 0 [] :: muBlk P3 49 #[.int .i64 a0, .int .i64 a1, .int .i64 a2, .int .i64 a3, .int .i64 a4] :: muBlk (P3 + 1) 42 #[.bool false, .int .i64 0, .int .i64 0, .int .i64 0, .int .i64 0, .int .i64 0] :: noOb :: noOb :: [])) := by
  have h1 := (HF.out.nilRow 3 1).nilRow 105 2
  have h2 := h1.addNo.addNo
  refine h2.pick (λ k => [0, 3, 4, 1, 2, 5, 6].getD k 9) (λ k u hk => ?_) (λ k k' hk hk' e => ?_)
  ·match k, hk with
   | 0, hk => exact hk
   | 1, hk => exact hk
   | 2, hk => exact hk
   | 3, hk => exact hk
   | 4, hk => exact hk
   | 5, hk => exact hk
   | 6, hk => exact hk
   | k + 7, hk => simp at hk
  ·have h7 : ∀ k, k < 7 -> ∀ k', k' < 7 -> [0, 3, 4, 1, 2, 5, 6].getD k 9 = [0, 3, 4, 1, 2, 5, 6].getD k' 9 -> k = k' := by decide
   exact h7 k (by simpa using hk) k' (by simpa using hk') e
 go_loopw [9, 10, 11, 12] (λ outv metv firstv levelv wr => ∃ (met : List Int) (lds : List Ld) (first level : Int) (o5 o6 : Ob), firstv = .int .i64 first /\ levelv = .int .i64 level /\ MetA A met /\ levelsFrom A (chkM a0 a1 a2 a3 a4) (level.toNat + 1) level first met (lds.map (·.c)) = R /\ (∀ d ∈ lds, ∀ e ∈ d.c, ∃ s, A.get e.1 = some s /\ s.nd.kids.length <= s.nd.keys.length + 1) /\ lds.length <= met.length /\ Fam wr Nob (arOb M D q L xs A :: rowOb 3 1 metv met.length (met.map iV) :: rowOb 105 2 outv lds.length (ldCells lds) :: muBlk P3 49 #[.int .i64 a0, .int .i64 a1, .int .i64 a2, .int .i64 a3, .int .i64 a4] :: muBlk (P3 + 1) 42 #[.bool false, .int .i64 0, .int .i64 0, .int .i64 0, .int .i64 0, .int .i64 0] :: o5 :: o6 :: lds.map (ldOb D)) /\ (∀ x, metv.ownBlock = some x \/ outv.ownBlock = some x -> P3 <= x) /\ (∀ d ∈ lds, ∀ x, d.F x -> P3 <= x) /\ Keeps Nob w wr) (λ _ _ _ l _ => (intOf l).toNat)
 case atStart => exact ⟨[], [], A.root, s.nd.lvl, noOb, noOb, rfl, rfl, ⟨List.nodup_nil, λ x hx => by simp at hx⟩, HR2.out, λ d hd => by simp at hd, Nat.le_refl _, HF0.out, λ x hx => (by rcases hx with hx | hx <;> cases hx), λ d hd => by simp at hd, K.out⟩
 clear HF0 HF K HR2
 obtain ⟨met, lds, first, level, o5, o6, rfl, rfl, hmet, hR, hok, hlm, hF, hown, hdF, hk⟩ := hrel
 have HF := Hd hF
 have HR := Hd hR
 have HM := Hd hmet
 have HOK := Hd hok
 have HOWN := Hd hown
 have HDF := Hd hdF
 have K := Hd hk
 obtain ⟨mtA, mtc, em⟩ := (hF.ok 1 _ rfl : Own wr _ _ 1 _ _ _).form
 obtain ⟨otA, otc, eo⟩ := (hF.ok 2 _ rfl : Own wr _ _ 2 _ _ _).form
 subst em eo
 have hml := hmet.len
 clear hmet hR hok hF hown hdF hk
 have c0 := (HF.out.ok 3 _ rfl : Blk wr P3 _ _).cell 0
 have c1 := (HF.out.ok 3 _ rfl : Blk wr P3 _ _).cell 1
 have c2 := (HF.out.ok 3 _ rfl : Blk wr P3 _ _).cell 2
 have c3 := (HF.out.ok 3 _ rfl : Blk wr P3 _ _).cell 3
 have c4 := (HF.out.ok 3 _ rfl : Blk wr P3 _ _).cell 4
 have lc := (HF.out.ok 3 _ rfl : Blk wr P3 _ _).lt
 go_wp2_with fail
 clear c0 c1 c2 c3 c4 lc
 obtain ⟨C, hC⟩ : ∃ C, chainM A (chkM a0 a1 a2 a3 a4) level (A.sl.length + 1 - met.length) first [] met [] = C := ⟨_, rfl⟩
 refine (chainR (HF.out.two (i := 0) (j := 1) rfl rfl (by decide)) HSM.out HM.out hC).mono ?_
 rintro e w1 ⟨mv', Lv, Lw, rfl, hO, F, hP, hF, hk⟩
 obtain ⟨ch, met2, rp⟩ := C
 simp only at hO hP
 have HC := Hd hC
 obtain ⟨mA2, mc2, em⟩ := hO.form
 obtain ⟨cA, cc1, e1, _, _⟩ := (hP.1 : Ints w1 F Lv (ch.map Prod.fst)).form
 obtain ⟨cB, cc2, e2, _, _⟩ := Txts.form hP.2
 rw [List.length_map] at e1 e2
 subst em e1 e2
 have HO2 : Hid (∀ x, (Value.slice mA2 met2.length mc2).ownBlock = some x \/ (Value.slice otA lds.length otc).ownBlock = some x -> P3 <= x) := λ x hx => by
  rcases hx with hx | hx
  ·rcases (hO.blk hx).1 with h | h
   ·exact HOWN.out x (.inl h)
   ·have h1 := h.1; have h2 := K.out.size; have h3 := HP.out; omega
  ·exact HOWN.out x (.inr hx)
 have HDF2 : Hid (∀ d ∈ lds ++ [⟨F, .slice cA ch.length cc1, .slice cB ch.length cc2, ch⟩], ∀ x, d.F x -> P3 <= x) := λ d hd x hx => by
  rcases List.mem_append.1 hd with h | h
  ·exact HDF.out d h x hx
  ·simp at h; subst h
   have h1 := (hF x hx).1.1; have h2 := K.out.size; have h3 := HP.out; omega
 replace K := Hd (K.out.trans hk (λ x hx e => by have h := HOWN.out x (.inl e); have h3 := HP.out; omega))
 replace HF : Hid (Fam w1 Nob (arOb M D q L xs A :: rowOb 3 1 (.slice mA2 met2.length mc2) met2.length (met2.map iV) :: rowOb 105 2 (.slice otA lds.length otc) lds.length (ldCells lds) :: muBlk P3 49 #[.int .i64 a0, .int .i64 a1, .int .i64 a2, .int .i64 a3, .int .i64 a4] :: muBlk (P3 + 1) 42 #[.bool false, .int .i64 0, .int .i64 0, .int .i64 0, .int .i64 0, .int .i64 0] :: o5 :: o6 :: (lds ++ [(⟨F, .slice cA ch.length cc1, .slice cB ch.length cc2, ch⟩ : Ld)]).map (ldOb D))) := by
  have h := HF.out.chn rfl rfl hk hO hF hP
  show Fam _ _ _
  rw [List.map_append]
  exact h
 obtain ⟨d, hd⟩ : ∃ d : Ld, (⟨F, .slice cA ch.length cc1, .slice cB ch.length cc2, ch⟩ : Ld) = d := ⟨_, rfl⟩
 have hdv : d.Lv = .slice cA ch.length cc1 := by rw [<- hd]
 have hdw : d.Lw = .slice cB ch.length cc2 := by rw [<- hd]
 have hdc : d.c = ch := by rw [<- hd]
 rw [hd] at HF HDF2
 have HDV := Hd hdv
 have HDW := Hd hdw
 have HDC := Hd hdc
 clear hO hP hF hk hC HOWN HDF hd hdv hdw hdc
 obtain ⟨N13, hN⟩ : ∃ N, w1.heap.size = N := ⟨_, rfl⟩
 obtain ⟨snd, rn, re, rl, rns, rents⟩ := rp
 unfold rpV
 have HFU : Hid (∀ U, U = ((w1.alloc (.cells #[.slice cA ch.length cc1, .slice cB ch.length cc2] 105)).alloc (.cells #[.bool snd, .int .i64 rn, .int .i64 re, .int .i64 rl, .int .i64 rns, .int .i64 rents] 42)) -> Fam U Nob (arOb M D q L xs A :: rowOb 3 1 (.slice mA2 met2.length mc2) met2.length (met2.map iV) :: rowOb 105 2 (.slice otA lds.length otc) lds.length (ldCells lds) :: muBlk P3 49 #[.int .i64 a0, .int .i64 a1, .int .i64 a2, .int .i64 a3, .int .i64 a4] :: muBlk (P3 + 1) 42 #[.bool false, .int .i64 0, .int .i64 0, .int .i64 0, .int .i64 0, .int .i64 0] :: muBlk N13 105 #[.slice cA ch.length cc1, .slice cB ch.length cc2] :: muBlk (N13 + 1) 42 #[.bool snd, .int .i64 rn, .int .i64 re, .int .i64 rl, .int .i64 rns, .int .i64 rents] :: (lds ++ [d]).map (ldOb D)) /\ Keeps Nob w1 U) := λ U hU => by
  have h1 := HF.out.allocAt (i := 5) rfl (Keeps.alloc Nob _ (.cells #[.slice cA ch.length cc1, .slice cB ch.length cc2] 105)) (Blk.new _ _ _) (Nat.le_refl _)
  have h2 := h1.allocAt (i := 6) rfl (Keeps.alloc Nob _ (.cells #[.bool snd, .int .i64 rn, .int .i64 re, .int .i64 rl, .int .i64 rns, .int .i64 rents] 42)) (g := w1.heap.size + 1) (Blk.new' (by simp) _ _) (by simp)
  rw [hN] at h2
  rw [hU]
  exact ⟨h2, (Keeps.alloc _ _ _).alloc' _⟩
 have HR3 : Hid ((if snd = false then ([], (⟨snd, rn, re, rl, rns, rents⟩ : Rp)) else if (kidsLast A (lds.map (·.c)) ch).sound = false then ([], kidsLast A (lds.map (·.c)) ch) else if level = 0 then (lds.map (·.c) ++ [ch], Rp.ok) else levelsFrom A (chkM a0 a1 a2 a3 a4) level.toNat (level - 1) (firstKid A ch) met2 (lds.map (·.c) ++ [ch])) = R) := by
  have h := HR.out
  unfold levelsFrom at h
  simp only at h
  rw [HC.out] at h
  exact h
 have HN := Hd hN
 have HSZ : Hid (w.heap.size <= w1.heap.size) := K.out.size
 clear HF HR hN
 rcases snd with _ | _
 ·as_aux_lemma =>
  go_wp2
  refine code_at (λ vo hw => ?_)
  rw [HN.out]
  obtain ⟨hf, hk⟩ := HFU.out vo hw
  have HF := Hd hf
  replace K := tq_ K hk
  clear hf hk hw HFU
  obtain rfl : R = ([], ⟨false, rn, re, rl, rns, rents⟩) := by have h := HR3.out; first | rw [if_pos rfl] at h | rw [if_pos trivial] at h; exact h.symm
  refine rC_ [0, 1, 2] 2 (λ W => W.cell? ⟨N13 + 1, 0, none⟩ = some (.bool false) /\ W.cell? ⟨N13 + 1, 1, none⟩ = some (.int .i64 rn) /\ W.cell? ⟨N13 + 1, 2, none⟩ = some (.int .i64 re) /\ W.cell? ⟨N13 + 1, 3, none⟩ = some (.int .i64 rl) /\ W.cell? ⟨N13 + 1, 4, none⟩ = some (.int .i64 rns) /\ W.cell? ⟨N13 + 1, 5, none⟩ = some (.int .i64 rents)) ⟨(HF.out.ok 6 _ rfl : Blk vo (N13 + 1) _ _).cell 0, (HF.out.ok 6 _ rfl : Blk vo (N13 + 1) _ _).cell 1, (HF.out.ok 6 _ rfl : Blk vo (N13 + 1) _ _).cell 2, (HF.out.ok 6 _ rfl : Blk vo (N13 + 1) _ _).cell 3, (HF.out.ok 6 _ rfl : Blk vo (N13 + 1) _ _).cell 4, (HF.out.ok 6 _ rfl : Blk vo (N13 + 1) _ _).cell 5⟩ ?_
  refine canon_at (λ v7 hw => ?_)
  have hk : Keeps Nob vo v7 := by rw [hw]; exact Keeps.drew _ _
  clear hw
  replace HF : Hid (Fam v7 Nob (arOb M D q L xs A :: rowOb 3 1 (.slice mA2 met2.length mc2) met2.length (met2.map iV) :: rowOb 105 2 (.slice otA lds.length otc) lds.length (ldCells lds) :: muBlk P3 49 #[.int .i64 a0, .int .i64 a1, .int .i64 a2, .int .i64 a3, .int .i64 a4] :: muBlk (P3 + 1) 42 #[.bool false, .int .i64 0, .int .i64 0, .int .i64 0, .int .i64 0, .int .i64 0] :: muBlk N13 105 #[.slice cA ch.length cc1, .slice cB ch.length cc2] :: muBlk (N13 + 1) 42 #[.bool false, .int .i64 rn, .int .i64 re, .int .i64 rl, .int .i64 rns, .int .i64 rents] :: (lds ++ [d]).map (ldOb D))) := Hd (HF.out.nob0 hk)
  replace K := tq_ K hk
  clear hk
  iterate 2
   refine cR_ (v := ?_) rfl ?_ ?_
   rotate_left
   ·intro W hW
    try (obtain ⟨g1, g2, g3, g4, g5, g6⟩ : _ /\ _ /\ _ /\ _ /\ _ /\ _ := hW)
    go_simp
    try rfl
   simp only [Act.put, sa_, sb_, sc_]
  refine cA_ rfl ?_
  have q0 := (HF.out.ok 4 _ rfl : Blk v7 (P3 + 1) _ _).cell 0
  have f0 := (HF.out.ok 4 _ rfl : Blk v7 (P3 + 1) _ _).frozen 0
  have q1 := (HF.out.ok 4 _ rfl : Blk v7 (P3 + 1) _ _).cell 1
  have f1 := (HF.out.ok 4 _ rfl : Blk v7 (P3 + 1) _ _).frozen 1
  have q2 := (HF.out.ok 4 _ rfl : Blk v7 (P3 + 1) _ _).cell 2
  have f2 := (HF.out.ok 4 _ rfl : Blk v7 (P3 + 1) _ _).frozen 2
  have q3 := (HF.out.ok 4 _ rfl : Blk v7 (P3 + 1) _ _).cell 3
  have f3 := (HF.out.ok 4 _ rfl : Blk v7 (P3 + 1) _ _).frozen 3
  have q4 := (HF.out.ok 4 _ rfl : Blk v7 (P3 + 1) _ _).cell 4
  have f4 := (HF.out.ok 4 _ rfl : Blk v7 (P3 + 1) _ _).frozen 4
  have q5 := (HF.out.ok 4 _ rfl : Blk v7 (P3 + 1) _ _).cell 5
  have f5 := (HF.out.ok 4 _ rfl : Blk v7 (P3 + 1) _ _).frozen 5
  go_wp2
  clear q0 f0 q1 f1 q2 f2 q3 f3 q4 f4 q5 f5
  refine canon_at' (λ v3 hw => ?_)
  have hk' : Keeps (λ x => x = P3 + 1) v7 v3 := by rw [hw]; exact (((((Keeps.setCell _ (M := λ x => x = P3 + 1) rfl _).setCell' (λ _ => rfl) _).setCell' (λ _ => rfl) _).setCell' (λ _ => rfl) _).setCell' (λ _ => rfl) _).setCell' (λ _ => rfl) _
  have hb : Blk v3 (P3 + 1) 42 #[.bool false, .int .i64 rn, .int .i64 re, .int .i64 rl, .int .i64 rns, .int .i64 rents] := by rw [hw]; exact ((((((HF.out.ok 4 _ rfl : Blk v7 (P3 + 1) _ _).set_ 0 _).set_ 1 _).set_ 2 _).set_ 3 _).set_ 4 _).set_ 5 _
  replace K := Hd (K.out.trans hk' (λ x hx e => by have h := HP.out; have e2 : x = P3 + 1 := e; omega))
  clear hw hk'
  refine ⟨.inl (by rfl), ?_⟩
  refine wpCanon_nil ?_
  go_wp2
  have r0 := hb.cell 0
  have r1 := hb.cell 1
  have r2 := hb.cell 2
  have r3 := hb.cell 3
  have r4 := hb.cell 4
  have r5 := hb.cell 5
  refine bodyPost_ret (v := .tuple #[.slice none 0 0, .agg #[.bool false, .int .i64 rn, .int .i64 re, .int .i64 rl, .int .i64 rns, .int .i64 rents]]) (by simp [results, Tryz.results43, go_sem, r0, r1, r2, r3, r4, r5]) rfl ⟨_, rfl, ⟨[], rfl, Own.nil _ _ _ _, λ d hd => by simp at hd⟩, K.out⟩
 obtain ⟨hch, hmt, hmet2⟩ : Chn A (chkM a0 a1 a2 a3 a4) level first [] ch /\ met2 = met ++ ch.map Prod.fst /\ MetA A met2 := by
  have hmet := HM.out
  obtain ⟨r, g1, g2, g3, g4⟩ := chainM_chn (chk := chkM a0 a1 a2 a3 a4) (level := level) (A.sl.length + 1 - met.length) first [] met [] hmet (by have := hmet.len; omega) (by rw [HC.out])
  rw [HC.out, List.nil_append] at g1
  rw [HC.out] at g2
  simp only at g1 g2
  subst g1
  exact ⟨g3, g2, by rw [g2]; exact g4⟩
 have HCH := Hd hch
 have HMAY : Hid (∀ n, chkM a0 a1 a2 a3 a4 n = 0 -> May n a0 a1 a2) := λ n hn => (may_iff HCF.out).1 hn
 have HMT := Hd hmt
 have HMET := Hd hmet2
 clear hch hmt hmet2
 replace HR3 : Hid ((if (kidsLast A (lds.map (·.c)) ch).sound = false then ([], kidsLast A (lds.map (·.c)) ch) else if level = 0 then (lds.map (·.c) ++ [ch], Rp.ok) else levelsFrom A (chkM a0 a1 a2 a3 a4) level.toNat (level - 1) (firstKid A ch) met2 (lds.map (·.c) ++ [ch])) = R) := by
  have h := HR3.out; rw [if_neg (by decide)] at h; exact h
 by_cases hz : lds.length = 0
 ·as_aux_lemma =>
  have hz0 : (lds.length : Int) <= 0 := by omega
  have hle : lds = [] := List.length_eq_zero_iff.1 hz
  have HR6 : Hid ((if level = 0 then (lds.map (·.c) ++ [ch], Rp.ok) else levelsFrom A (chkM a0 a1 a2 a3 a4) level.toNat (level - 1) (firstKid A ch) met2 (lds.map (·.c) ++ [ch])) = R) := by
   have h := HR3.out
   rw [if_neg (by rw [hle]; intro h; cases h)] at h
   exact h
  obtain ⟨hf, hk⟩ := HFU.out _ rfl
  have HF := Hd hf
  replace K := tq_ K hk
  clear hf hk HFU HR3 hle hz
  obtain ⟨j0, hi0, hz0, hz1, hz2⟩ := info_parts Tryz.inf_level
  go_wp2_with (at_builtin; refine wpList_app rfl (.tmp 95) (.tmp 97) 101 rfl Tryz.underlying101 hi0 hz0 hz1 hz2 rfl (by decide) (v := .slice otA lds.length otc) (n := lds.length) (m := 1) (S := λ x => (Value.slice otA lds.length otc).ownBlock = some x) (T := λ _ => True) (xs := ldCells lds) (news := [.slice cA ch.length cc1, .slice cB ch.length cc2]) rfl ?c1 (y := .slice (some ⟨w1.heap.size + 1 + 1, 0, none⟩) 1 1) rfl ?c2 ?c3 ?c4 ?c5 ?c6)
  case c1 => exact (HF.out.nob0 (Keeps.alloc Nob _ _)).ok 2 _ rfl
  case c2 => exact (SlG.lit _ _ [.slice cA ch.length cc1, .slice cB ch.length cc2] 2 1 _ (by simp) rfl (by decide)).mono (λ _ _ _ => trivial)
  case c3 => intro u hu; simp only [List.mem_cons, List.not_mem_nil, or_false] at hu; rcases hu with h | h <;> subst h <;> rfl
  case c4 => unfold maxLen; omega
  case c5 => omega
  case c6 =>
  intro v' b1 ho hk6 _
  rw [HN.out]
  obtain ⟨oA2, oc2, ev⟩ := ho.form
  subst ev
  have HO3 : Hid (∀ x, (Value.slice mA2 met2.length mc2).ownBlock = some x \/ (Value.slice oA2 (lds.length + 1) oc2).ownBlock = some x -> P3 <= x) := λ x hx => by
   rcases hx with hx | hx
   ·exact HO2.out x (.inl hx)
   ·rcases (ho.blk hx).1 with h | h
    ·exact HO2.out x (.inr h)
    ·have h1 := h.1; have h2 := K.out.size; have h3 := HP.out; first | omega | (simp at h1; omega) | (simp at h2; omega) | (simp at h1 h2; omega)
  replace K := Hd ((K.out.alloc' _).trans hk6 (λ x hx e => absurd hx (by have := HP.out; have := HO2.out x (.inr e); omega)))
  replace HF : Hid (Fam b1 Nob (arOb M D q L xs A :: rowOb 3 1 (.slice mA2 met2.length mc2) met2.length (met2.map iV) :: rowOb 105 2 (.slice oA2 (lds.length + 1) oc2) (lds ++ [d]).length (ldCells (lds ++ [d])) :: muBlk P3 49 #[.int .i64 a0, .int .i64 a1, .int .i64 a2, .int .i64 a3, .int .i64 a4] :: muBlk (P3 + 1) 42 #[.bool false, .int .i64 0, .int .i64 0, .int .i64 0, .int .i64 0, .int .i64 0] :: muBlk N13 105 #[.slice cA ch.length cc1, .slice cB ch.length cc2] :: muBlk (N13 + 1) 42 #[.bool true, .int .i64 rn, .int .i64 re, .int .i64 rl, .int .i64 rns, .int .i64 rents] :: (lds ++ [d]).map (ldOb D))) := by
   have h := (HF.out.nob0 (Keeps.alloc Nob _ _)).app0 (i := 2) rfl hk6 (ho.mono (λ b _ hb => hb.imp (λ h => h) (λ h => ⟨by simpa using h.1, h.2⟩)))
   show Fam _ _ _
   rw [ldCells_snoc, HDV.out, HDW.out, List.length_append]
   exact h
  clear ho hk6 hi0 hz0 hz1 hz2 HO2
  have HR4 : Hid ((if level = 0 then ((lds ++ [d]).map (·.c), Rp.ok) else levelsFrom A (chkM a0 a1 a2 a3 a4) level.toNat (level - 1) (firstKid A ch) met2 ((lds ++ [d]).map (·.c))) = R) := by
   show _ = _
   rw [List.map_append, List.map_singleton, HDC.out]
   exact HR6.out
  by_cases hl : level = 0
  ·as_aux_lemma =>
   have hr : R = ((lds ++ [d]).map (·.c), Rp.ok) := by have h := HR4.out; rw [if_pos hl] at h; exact h.symm
   subst hl hr
   have q0 := (HF.out.ok 4 _ rfl : Blk b1 (P3 + 1) _ _).cell 0
   have f0 := (HF.out.ok 4 _ rfl : Blk b1 (P3 + 1) _ _).frozen 0
   have q1 := (HF.out.ok 4 _ rfl : Blk b1 (P3 + 1) _ _).cell 1
   have f1 := (HF.out.ok 4 _ rfl : Blk b1 (P3 + 1) _ _).frozen 1
   have q2 := (HF.out.ok 4 _ rfl : Blk b1 (P3 + 1) _ _).cell 2
   have f2 := (HF.out.ok 4 _ rfl : Blk b1 (P3 + 1) _ _).frozen 2
   have q3 := (HF.out.ok 4 _ rfl : Blk b1 (P3 + 1) _ _).cell 3
   have f3 := (HF.out.ok 4 _ rfl : Blk b1 (P3 + 1) _ _).frozen 3
   have q4 := (HF.out.ok 4 _ rfl : Blk b1 (P3 + 1) _ _).cell 4
   have f4 := (HF.out.ok 4 _ rfl : Blk b1 (P3 + 1) _ _).frozen 4
   have q5 := (HF.out.ok 4 _ rfl : Blk b1 (P3 + 1) _ _).cell 5
   have f5 := (HF.out.ok 4 _ rfl : Blk b1 (P3 + 1) _ _).frozen 5
   go_wp2
   clear q0 f0 q1 f1 q2 f2 q3 f3 q4 f4 q5 f5
   refine post_at (λ v3 hw => ?_)
   have hk' : Keeps (λ x => x = P3 + 1) b1 v3 := by rw [hw]; exact (((((Keeps.setCell _ (M := λ x => x = P3 + 1) rfl _).setCell' (λ _ => rfl) _).setCell' (λ _ => rfl) _).setCell' (λ _ => rfl) _).setCell' (λ _ => rfl) _).setCell' (λ _ => rfl) _
   have hb : Blk v3 (P3 + 1) 42 #[.bool true, .int .i64 0, .int .i64 0, .int .i64 0, .int .i64 0, .int .i64 0] := by rw [hw]; exact ((((((HF.out.ok 4 _ rfl : Blk b1 (P3 + 1) _ _).set_ 0 _).set_ 1 _).set_ 2 _).set_ 3 _).set_ 4 _).set_ 5 _
   have HG := HF.out.setBlk (i := 4) rfl hk' hb
   replace K := Hd (K.out.trans hk' (λ x hx e => by have h := HP.out; have e2 : x = P3 + 1 := e; omega))
   have hown : Own v3 (Fresh w v3) 105 2 (.slice oA2 (lds.length + 1) oc2) (lds ++ [d]).length (ldCells (lds ++ [d])) := Own.mono (HG.ok 2 _ rfl : Own v3 _ _ 2 _ _ _) (λ x hx e => ⟨by have := HO3.out x (.inr e); have h := HP.out; omega, hx⟩)
   have hall : ∀ e ∈ lds ++ [d], (ldOb D e).P v3 /\ ∀ x, e.F x -> Fresh w v3 x := λ e he => by
    obtain ⟨k, hk⟩ := List.mem_iff_getElem?.1 he
    have hk2 : (((lds ++ [d]).map (ldOb D)))[k]? = some (ldOb D e) := by rw [List.getElem?_map, hk]; rfl
    exact ⟨HG.ok (k + 7) _ hk2, λ x hx => ⟨by have := HDF2.out e he x hx; have h := HP.out; omega, HG.old (k + 7) _ hk2 x (.inl hx)⟩⟩
   clear hw hk' HG
   have r0 := hb.cell 0
   have r1 := hb.cell 1
   have r2 := hb.cell 2
   have r3 := hb.cell 3
   have r4 := hb.cell 4
   have r5 := hb.cell 5
   have hlv : LvsAt v3 (Fresh w v3) D (.slice oA2 (lds.length + 1) oc2) ((lds ++ [d]).map (·.c)) := ⟨lds ++ [d], rfl, hown, hall⟩
   refine bodyPost_ret (v := .tuple #[.slice oA2 (lds.length + 1) oc2, .agg #[.bool true, .int .i64 0, .int .i64 0, .int .i64 0, .int .i64 0, .int .i64 0]]) (by simp [results, Tryz.results43, go_sem, r0, r1, r2, r3, r4, r5]) rfl ⟨_, rfl, by first | exact hlv | simpa using hlv, K.out⟩
  obtain ⟨s1, r1, ech, hs1, hl1, hc1, _, _⟩ := HCH.out.at_
  have hm1 := HMAY.out _ hc1
  obtain ⟨_, _, _, hkl, _⟩ := hm1.inner (by omega)
  have hlv0 := hm1.lvl
  obtain ⟨kid, hkid⟩ : ∃ y, s1.nd.kids[0]? = some y := ⟨_, List.getElem?_eq_getElem (by omega)⟩
  have hfk : firstKid A ch = kid := by rw [ech]; show (opNd A first).kids.getD 0 0 = kid; rw [show opNd A first = s1.nd by unfold opNd; rw [hs1], List.getD_eq_getElem?_getD, hkid]; rfl
  have HR5 : Hid (levelsFrom A (chkM a0 a1 a2 a3 a4) ((level - 1).toNat + 1) (level - 1) kid met2 ((lds ++ [d]).map (·.c)) = R) := by
   have h := HR4.out; rw [if_neg hl, hfk] at h; rw [show (level - 1).toNat + 1 = level.toNat by omega]; exact h
  obtain ⟨i, g, o, cc, hid, hi, hl6, hL, X1, k1, X3, k3, X4, k4, X5, k5, n0, n1, n2, n3, n4, n5, hnd⟩ := DocW.mono_ (HF.out.ok 0 _ rfl : DocW b1 M D q L xs A) hs1
  have ca : b1.cell? ⟨q, 1, none⟩ = some (.slice (some ⟨g, o, none⟩) A.sl.length cc) := by have h := (HF.out.ok 0 _ rfl : DocW b1 M D q L xs A).blk.cell 1; rw [hL] at h; exact h
  obtain ⟨ka, ea, _, hca⟩ := SlR.cells (hnd.2.kids : Ints _ _ _ _) (i := 0) (by rw [List.length_map]; omega)
  subst ea
  have a5 : b1.cell? ka = some (.int .i64 kid) := by have h := hca 0 _ (by rw [List.getElem?_map, hkid]; rfl); have e : ka.add 0 = ka := rfl; rw [e] at h; exact h
  have hdp : (lvOb d.F D (.slice cA ch.length cc1) (.slice cB ch.length cc2) ch).P b1 := by
   have h := HF.out.ok (lds.length + 7) (ldOb D d) (show ((lds ++ [d]).map (ldOb D))[lds.length]? = _ by rw [List.getElem?_map, List.getElem?_append_right (Nat.le_refl _), Nat.sub_self]; rfl)
   unfold ldOb at h
   rw [HDV.out, HDW.out, HDC.out] at h
   exact h
  have hcl : 0 < ch.length := by rw [ech]; simp
  obtain ⟨la, el, _, hcl2⟩ := SlR.cells hdp.1 (i := 0) (by rw [List.length_map, List.length_map]; exact hcl)
  subst el
  have a1 : b1.cell? la = some (.int .i64 first) := by have h := hcl2 0 (.int .i64 first) (by rw [ech]; rfl); have e : la.add 0 = la := rfl; rw [e] at h; exact h
  have b0 := (HF.out.ok 5 _ rfl : Blk b1 N13 _ _).cell 0
  have hwr : IntKind.i64.wrap (first - 1) = (i : Int) := by rw [IntKind.wrap_i64]; omega
  have hpos : 0 <= (i : Int) /\ (i : Int) < (A.sl.length : Int) := by omega
  have hkz : (0 : Int) < s1.nd.kids.length := by omega
  have hlm2 : lds.length + 1 <= met2.length := by rw [HMT.out, List.length_append, List.length_map]; omega
  have hfi : first = (i : Int) + 1 := hid
  have h1r : 1 <= first := by omega
  have h2r : first <= A.sl.length := by omega
  have h3r : (first - 1).toNat = i := by omega
  have h4r : first - 1 = (i : Int) := by omega
  have hne : (level == 0) = false := by simpa using hl
  have HLV : Hid (0 < level /\ level <= 32) := ⟨by omega, by omega⟩
  have hlv1 : 0 < level := HLV.out.1
  have hlv2 : level <= 32 := HLV.out.2
  clear hL hnd n0 n1 n2 n3 n4 hid hca hcl2 ech hs1 hl1 hc1 hm1 hkid hfk hdp hfi hlv0 hl HR4
  go_wp2
  go_quiet (fail)
  go_wp2
  go_roundw
  case rel => exact ⟨met2, lds ++ [d], kid, level - 1, _, _, rfl, by go_num, HMET.out, HR5.out, λ e he => (List.mem_append.1 he).elim (HOK.out e) (λ h => by simp at h; subst h; rw [HDC.out]; exact HCH.out.nodes HMAY.out), by rw [List.length_append]; exact hlm2, HF.out.nob0 (Keeps.drewN Nob _ _), HO3.out, HDF2.out, K.out.drewN' _⟩
  case measure => have h := HLV.out; simp [intOf]; omega
 ·as_aux_lemma =>
  have hz0 : (0 : Int) < (lds.length : Int) := by omega
  obtain ⟨n1, hn1⟩ : ∃ n1, n1 + 1 = lds.length := ⟨lds.length - 1, by omega⟩
  obtain ⟨dl, hdl⟩ : ∃ y, lds[n1]? = some y := ⟨_, List.getElem?_eq_getElem (by omega)⟩
  have hlast : (lds.map (·.c)).getLast? = some dl.c := by
   rw [List.getLast?_eq_getElem?, List.length_map, List.getElem?_map, show lds.length - 1 = n1 by omega, hdl]; rfl
  have hkl : kidsLast A (lds.map (·.c)) ch = kidsM A ch dl.c := by unfold kidsLast; rw [hlast]
  rw [hkl] at HR3
  have HDL := Hd hdl
  have hdlm : dl ∈ lds := List.mem_of_getElem? hdl
  have hwr : IntKind.i64.wrap ((lds.length : Int) - 1) = (n1 : Int) := by rw [IntKind.wrap_i64]; omega
  have hpos : 0 <= (n1 : Int) /\ (n1 : Int) < (lds.length : Int) := by omega
  obtain ⟨kr, hkr⟩ : ∃ kr, kidsM A ch dl.c = kr := ⟨_, rfl⟩
  rw [hkr] at HR3
  have HKR := Hd hkr
  clear hlast hkl hdl hkr hn1
  go_wp2
  refine code_at (λ vo hw => ?_)
  rw [HN.out]
  obtain ⟨hf, hk⟩ := HFU.out vo hw
  have HF := Hd hf
  replace K := tq_ K hk
  clear hf hk hw HFU
  have e0 := ldCells_at HDL.out
  have HCC : Hid (∃ g9 o9, otA = some ⟨g9, o9, none⟩ /\ ∀ W, Fam W Nob (arOb M D q L xs A :: rowOb 3 1 (.slice mA2 met2.length mc2) met2.length (met2.map iV) :: rowOb 105 2 (.slice otA lds.length otc) lds.length (ldCells lds) :: muBlk P3 49 #[.int .i64 a0, .int .i64 a1, .int .i64 a2, .int .i64 a3, .int .i64 a4] :: muBlk (P3 + 1) 42 #[.bool false, .int .i64 0, .int .i64 0, .int .i64 0, .int .i64 0, .int .i64 0] :: muBlk N13 105 #[.slice cA ch.length cc1, .slice cB ch.length cc2] :: muBlk (N13 + 1) 42 #[.bool true, .int .i64 rn, .int .i64 re, .int .i64 rl, .int .i64 rns, .int .i64 rents] :: (lds ++ [d]).map (ldOb D)) -> W.cell? ⟨g9, o9 + n1 * 2, none⟩ = some dl.Lv /\ W.cell? ⟨g9, o9 + n1 * 2 + 1, none⟩ = some dl.Lw /\ W.cell? ⟨N13, 0, none⟩ = some (.slice cA ch.length cc1) /\ W.cell? ⟨N13, 1, none⟩ = some (.slice cB ch.length cc2)) := by
   obtain ⟨g9, o9, eo, h1⟩ := Own.at2 (HF.out.ok 2 _ rfl : Own vo _ _ 2 _ _ _) (by omega) e0.1
   refine ⟨g9, o9, eo, λ W hW => ?_⟩
   obtain ⟨g8, o8, eo8, h2⟩ := Own.at2 (hW.ok 2 _ rfl : Own W _ _ 2 _ _ _) (by omega) e0.1
   obtain ⟨g7, o7, eo7, h3⟩ := Own.at2 (hW.ok 2 _ rfl : Own W _ _ 2 _ _ _) (by omega) e0.2
   rw [eo] at eo7 eo8
   cases eo7
   cases eo8
   exact ⟨h2, by rw [Nat.add_assoc]; exact h3, (hW.ok 5 _ rfl : Blk W N13 _ _).cell 0, (hW.ok 5 _ rfl : Blk W N13 _ _).cell 1⟩
  obtain ⟨g9, o9, eo, hcc⟩ := HCC.out
  subst eo
  have HC9 := Hd hcc
  clear hcc HCC e0
  have hcv := HC9.out _ HF.out
  refine rC_ [0, 1, 2, 3, 4, 5, 6, 7, 8, 9] 9 (λ W => W.cell? ⟨g9, o9 + n1 * 2, none⟩ = some dl.Lv /\ W.cell? ⟨g9, o9 + n1 * 2 + 1, none⟩ = some dl.Lw /\ W.cell? ⟨N13, 0, none⟩ = some (.slice cA ch.length cc1) /\ W.cell? ⟨N13, 1, none⟩ = some (.slice cB ch.length cc2)) hcv ?_
  refine canon_at (λ v0 hw => ?_)
  have hk : Keeps Nob vo v0 := by rw [hw]; exact Keeps.drew _ _
  clear hw hcv
  replace HF : Hid (Fam v0 Nob (arOb M D q L xs A :: rowOb 3 1 (.slice mA2 met2.length mc2) met2.length (met2.map iV) :: rowOb 105 2 (.slice (some ⟨g9, o9, none⟩) lds.length otc) lds.length (ldCells lds) :: muBlk P3 49 #[.int .i64 a0, .int .i64 a1, .int .i64 a2, .int .i64 a3, .int .i64 a4] :: muBlk (P3 + 1) 42 #[.bool false, .int .i64 0, .int .i64 0, .int .i64 0, .int .i64 0, .int .i64 0] :: muBlk N13 105 #[.slice cA ch.length cc1, .slice cB ch.length cc2] :: muBlk (N13 + 1) 42 #[.bool true, .int .i64 rn, .int .i64 re, .int .i64 rl, .int .i64 rns, .int .i64 rents] :: (lds ++ [d]).map (ldOb D))) := Hd (HF.out.nob0 hk)
  replace K := tq_ K hk
  clear hk
  iterate 8
   refine cR_ (v := ?_) rfl ?_ ?_
   rotate_left
   ·intro W hW
    try (obtain ⟨g1, g2, g3, g4⟩ : _ /\ _ /\ _ /\ _ := hW)
    go_simp
    try simp only [hwr, if_pos hpos, Int.toNat_natCast]
    try rfl
   simp only [Act.put, sa_, sb_, sc_]
  have hdp : (lvOb d.F D (.slice cA ch.length cc1) (.slice cB ch.length cc2) ch).P v0 := by
   have h := HF.out.ok (lds.length + 7) (ldOb D d) (show ((lds ++ [d]).map (ldOb D))[lds.length]? = _ by rw [List.getElem?_map, List.getElem?_append_right (Nat.le_refl _), Nat.sub_self]; rfl)
   unfold ldOb at h
   rw [HDV.out, HDW.out, HDC.out] at h
   exact h
  have hdq : (lvOb dl.F D dl.Lv dl.Lw dl.c).P v0 := HF.out.ok (n1 + 7) (ldOb D dl) (show ((lds ++ [d]).map (ldOb D))[n1]? = _ by rw [List.getElem?_map, List.getElem?_append_left (List.getElem?_eq_some_iff.1 HDL.out).1, HDL.out]; rfl)
  have FK := Hd (kidsLR (HF.out.ok 0 _ rfl) hdq hdp (HOK.out dl hdlm) HKR.out)
  clear hdp hdq hdlm
  refine cA_ rfl ?_
  go_wp2_with (go_at_call 96; refine FK.out.mono ?_; rintro e v1 ⟨rfl, hk⟩)
  replace HF : Hid (Fam v1 Nob (arOb M D q L xs A :: rowOb 3 1 (.slice mA2 met2.length mc2) met2.length (met2.map iV) :: rowOb 105 2 (.slice (some ⟨g9, o9, none⟩) lds.length otc) lds.length (ldCells lds) :: muBlk P3 49 #[.int .i64 a0, .int .i64 a1, .int .i64 a2, .int .i64 a3, .int .i64 a4] :: muBlk (P3 + 1) 42 #[.bool false, .int .i64 0, .int .i64 0, .int .i64 0, .int .i64 0, .int .i64 0] :: muBlk N13 105 #[.slice cA ch.length cc1, .slice cB ch.length cc2] :: muBlk (N13 + 1) 42 #[.bool true, .int .i64 rn, .int .i64 re, .int .i64 rl, .int .i64 rns, .int .i64 rents] :: (lds ++ [d]).map (ldOb D))) := Hd (HF.out.nob0 hk)
  replace K := tq_ K hk
  clear hk
  refine ⟨.inr (HC9.out _ HF.out), ?_⟩
  obtain ⟨snd, rn, re, rl, rns, rents⟩ := kr
  unfold rpV
  refine cA_ rfl ?_
  have q0 := (HF.out.ok 6 _ rfl : Blk v1 (N13 + 1) _ _).cell 0
  have f0 := (HF.out.ok 6 _ rfl : Blk v1 (N13 + 1) _ _).frozen 0
  have q1 := (HF.out.ok 6 _ rfl : Blk v1 (N13 + 1) _ _).cell 1
  have f1 := (HF.out.ok 6 _ rfl : Blk v1 (N13 + 1) _ _).frozen 1
  have q2 := (HF.out.ok 6 _ rfl : Blk v1 (N13 + 1) _ _).cell 2
  have f2 := (HF.out.ok 6 _ rfl : Blk v1 (N13 + 1) _ _).frozen 2
  have q3 := (HF.out.ok 6 _ rfl : Blk v1 (N13 + 1) _ _).cell 3
  have f3 := (HF.out.ok 6 _ rfl : Blk v1 (N13 + 1) _ _).frozen 3
  have q4 := (HF.out.ok 6 _ rfl : Blk v1 (N13 + 1) _ _).cell 4
  have f4 := (HF.out.ok 6 _ rfl : Blk v1 (N13 + 1) _ _).frozen 4
  have q5 := (HF.out.ok 6 _ rfl : Blk v1 (N13 + 1) _ _).cell 5
  have f5 := (HF.out.ok 6 _ rfl : Blk v1 (N13 + 1) _ _).frozen 5
  go_wp2
  clear q0 f0 q1 f1 q2 f2 q3 f3 q4 f4 q5 f5
  refine canon_at' (λ v2 hw => ?_)
  have hk' : Keeps (λ x => x = N13 + 1) v1 v2 := by rw [hw]; exact (((((Keeps.setCell _ (M := λ x => x = N13 + 1) rfl _).setCell' (λ _ => rfl) _).setCell' (λ _ => rfl) _).setCell' (λ _ => rfl) _).setCell' (λ _ => rfl) _).setCell' (λ _ => rfl) _
  replace HF : Hid (Fam v2 Nob (arOb M D q L xs A :: rowOb 3 1 (.slice mA2 met2.length mc2) met2.length (met2.map iV) :: rowOb 105 2 (.slice (some ⟨g9, o9, none⟩) lds.length otc) lds.length (ldCells lds) :: muBlk P3 49 #[.int .i64 a0, .int .i64 a1, .int .i64 a2, .int .i64 a3, .int .i64 a4] :: muBlk (P3 + 1) 42 #[.bool false, .int .i64 0, .int .i64 0, .int .i64 0, .int .i64 0, .int .i64 0] :: muBlk N13 105 #[.slice cA ch.length cc1, .slice cB ch.length cc2] :: muBlk (N13 + 1) 42 #[.bool snd, .int .i64 rn, .int .i64 re, .int .i64 rl, .int .i64 rns, .int .i64 rents] :: (lds ++ [d]).map (ldOb D))) := Hd (HF.out.setBlk (i := 6) rfl hk' (by rw [hw]; exact ((((((HF.out.ok 6 _ rfl : Blk v1 (N13 + 1) _ _).set_ 0 _).set_ 1 _).set_ 2 _).set_ 3 _).set_ 4 _).set_ 5 _))
  replace K := Hd (K.out.trans hk' (λ x hx e => by have h := HP.out; have e2 : x = N13 + 1 := e; have h2 := HN.out; have h3 := HSZ.out; omega))
  clear hw hk' FK HC9 HKR
  refine ⟨.inl (by rfl), ?_⟩
  refine wpCanon_nil ?_
  have b0 := (HF.out.ok 6 _ rfl : Blk v2 (N13 + 1) _ _).cell 0
  have lb0 := (HF.out.ok 6 _ rfl : Blk v2 (N13 + 1) _ _).lt
  rcases snd with _ | _
  ·go_wp2
   clear b0 lb0
   obtain rfl : R = ([], ⟨false, rn, re, rl, rns, rents⟩) := by have h := HR3.out; first | rw [if_pos rfl] at h | rw [if_pos trivial] at h; exact h.symm
   refine rC_ [0, 1, 2] 2 (λ W => W.cell? ⟨N13 + 1, 0, none⟩ = some (.bool false) /\ W.cell? ⟨N13 + 1, 1, none⟩ = some (.int .i64 rn) /\ W.cell? ⟨N13 + 1, 2, none⟩ = some (.int .i64 re) /\ W.cell? ⟨N13 + 1, 3, none⟩ = some (.int .i64 rl) /\ W.cell? ⟨N13 + 1, 4, none⟩ = some (.int .i64 rns) /\ W.cell? ⟨N13 + 1, 5, none⟩ = some (.int .i64 rents)) ⟨(HF.out.ok 6 _ rfl : Blk v2 (N13 + 1) _ _).cell 0, (HF.out.ok 6 _ rfl : Blk v2 (N13 + 1) _ _).cell 1, (HF.out.ok 6 _ rfl : Blk v2 (N13 + 1) _ _).cell 2, (HF.out.ok 6 _ rfl : Blk v2 (N13 + 1) _ _).cell 3, (HF.out.ok 6 _ rfl : Blk v2 (N13 + 1) _ _).cell 4, (HF.out.ok 6 _ rfl : Blk v2 (N13 + 1) _ _).cell 5⟩ ?_
   refine canon_at (λ v7 hw => ?_)
   have hk : Keeps Nob v2 v7 := by rw [hw]; exact Keeps.drew _ _
   clear hw
   replace HF : Hid (Fam v7 Nob (arOb M D q L xs A :: rowOb 3 1 (.slice mA2 met2.length mc2) met2.length (met2.map iV) :: rowOb 105 2 (.slice (some ⟨g9, o9, none⟩) lds.length otc) lds.length (ldCells lds) :: muBlk P3 49 #[.int .i64 a0, .int .i64 a1, .int .i64 a2, .int .i64 a3, .int .i64 a4] :: muBlk (P3 + 1) 42 #[.bool false, .int .i64 0, .int .i64 0, .int .i64 0, .int .i64 0, .int .i64 0] :: muBlk N13 105 #[.slice cA ch.length cc1, .slice cB ch.length cc2] :: muBlk (N13 + 1) 42 #[.bool false, .int .i64 rn, .int .i64 re, .int .i64 rl, .int .i64 rns, .int .i64 rents] :: (lds ++ [d]).map (ldOb D))) := Hd (HF.out.nob0 hk)
   replace K := tq_ K hk
   clear hk
   iterate 2
    refine cR_ (v := ?_) rfl ?_ ?_
    rotate_left
    ·intro W hW
     try (obtain ⟨g1, g2, g3, g4, g5, g6⟩ : _ /\ _ /\ _ /\ _ /\ _ /\ _ := hW)
     go_simp
     try rfl
    simp only [Act.put, sa_, sb_, sc_]
   refine cA_ rfl ?_
   have q0 := (HF.out.ok 4 _ rfl : Blk v7 (P3 + 1) _ _).cell 0
   have f0 := (HF.out.ok 4 _ rfl : Blk v7 (P3 + 1) _ _).frozen 0
   have q1 := (HF.out.ok 4 _ rfl : Blk v7 (P3 + 1) _ _).cell 1
   have f1 := (HF.out.ok 4 _ rfl : Blk v7 (P3 + 1) _ _).frozen 1
   have q2 := (HF.out.ok 4 _ rfl : Blk v7 (P3 + 1) _ _).cell 2
   have f2 := (HF.out.ok 4 _ rfl : Blk v7 (P3 + 1) _ _).frozen 2
   have q3 := (HF.out.ok 4 _ rfl : Blk v7 (P3 + 1) _ _).cell 3
   have f3 := (HF.out.ok 4 _ rfl : Blk v7 (P3 + 1) _ _).frozen 3
   have q4 := (HF.out.ok 4 _ rfl : Blk v7 (P3 + 1) _ _).cell 4
   have f4 := (HF.out.ok 4 _ rfl : Blk v7 (P3 + 1) _ _).frozen 4
   have q5 := (HF.out.ok 4 _ rfl : Blk v7 (P3 + 1) _ _).cell 5
   have f5 := (HF.out.ok 4 _ rfl : Blk v7 (P3 + 1) _ _).frozen 5
   go_wp2
   clear q0 f0 q1 f1 q2 f2 q3 f3 q4 f4 q5 f5
   refine canon_at' (λ v3 hw => ?_)
   have hk' : Keeps (λ x => x = P3 + 1) v7 v3 := by rw [hw]; exact (((((Keeps.setCell _ (M := λ x => x = P3 + 1) rfl _).setCell' (λ _ => rfl) _).setCell' (λ _ => rfl) _).setCell' (λ _ => rfl) _).setCell' (λ _ => rfl) _).setCell' (λ _ => rfl) _
   have hb : Blk v3 (P3 + 1) 42 #[.bool false, .int .i64 rn, .int .i64 re, .int .i64 rl, .int .i64 rns, .int .i64 rents] := by rw [hw]; exact ((((((HF.out.ok 4 _ rfl : Blk v7 (P3 + 1) _ _).set_ 0 _).set_ 1 _).set_ 2 _).set_ 3 _).set_ 4 _).set_ 5 _
   replace K := Hd (K.out.trans hk' (λ x hx e => by have h := HP.out; have e2 : x = P3 + 1 := e; omega))
   clear hw hk'
   refine ⟨.inl (by rfl), ?_⟩
   refine wpCanon_nil ?_
   go_wp2
   have r0 := hb.cell 0
   have r1 := hb.cell 1
   have r2 := hb.cell 2
   have r3 := hb.cell 3
   have r4 := hb.cell 4
   have r5 := hb.cell 5
   refine bodyPost_ret (v := .tuple #[.slice none 0 0, .agg #[.bool false, .int .i64 rn, .int .i64 re, .int .i64 rl, .int .i64 rns, .int .i64 rents]]) (by simp [results, Tryz.results43, go_sem, r0, r1, r2, r3, r4, r5]) rfl ⟨_, rfl, ⟨[], rfl, Own.nil _ _ _ _, λ d hd => by simp at hd⟩, K.out⟩
  have HR6 : Hid ((if level = 0 then (lds.map (·.c) ++ [ch], Rp.ok) else levelsFrom A (chkM a0 a1 a2 a3 a4) level.toNat (level - 1) (firstKid A ch) met2 (lds.map (·.c) ++ [ch])) = R) := by
   have h := HR3.out
   first | rw [if_neg (by decide)] at h | rw [if_neg (λ h => h.elim)] at h
   exact h
  have HO2' : Hid (∀ x, (Value.slice mA2 met2.length mc2).ownBlock = some x \/ (Value.slice (some ⟨g9, o9, none⟩) lds.length otc).ownBlock = some x -> P3 <= x) := HO2
  clear HR3 hwr hpos
  have d0 := (HF.out.ok 5 _ rfl : Blk v2 N13 _ _).cell 0
  have d1 := (HF.out.ok 5 _ rfl : Blk v2 N13 _ _).cell 1
  have ld0 := (HF.out.ok 5 _ rfl : Blk v2 N13 _ _).lt
  obtain ⟨j0, hi0, hz0, hz1, hz2⟩ := info_parts Tryz.inf_level
  go_wp2_with (at_builtin; refine wpList_app rfl (.tmp 95) (.tmp 97) 101 rfl Tryz.underlying101 hi0 hz0 hz1 hz2 rfl (by decide) (v := .slice (some ⟨g9, o9, none⟩) lds.length otc) (n := lds.length) (m := 1) (S := λ x => (Value.slice (some ⟨g9, o9, none⟩) lds.length otc).ownBlock = some x) (T := λ _ => True) (xs := ldCells lds) (news := [.slice cA ch.length cc1, .slice cB ch.length cc2]) rfl ?c1 (y := .slice (some ⟨v2.heap.size, 0, none⟩) 1 1) rfl ?c2 ?c3 ?c4 ?c5 ?c6)
  case c1 => exact (HF.out.nob0 (Keeps.alloc Nob _ _)).ok 2 _ rfl
  case c2 => exact (SlG.lit _ _ [.slice cA ch.length cc1, .slice cB ch.length cc2] 2 1 _ (by simp) rfl (by decide)).mono (λ _ _ _ => trivial)
  case c3 => intro u hu; simp only [List.mem_cons, List.not_mem_nil, or_false] at hu; rcases hu with h | h <;> subst h <;> rfl
  case c4 => unfold maxLen; omega
  case c5 => omega
  case c6 =>
  intro v' b1 ho hk6 _
  clear d0 d1 ld0 b0 lb0
  obtain ⟨oA2, oc2, ev⟩ := ho.form
  subst ev
  have HO3 : Hid (∀ x, (Value.slice mA2 met2.length mc2).ownBlock = some x \/ (Value.slice oA2 (lds.length + 1) oc2).ownBlock = some x -> P3 <= x) := λ x hx => by
   rcases hx with hx | hx
   ·exact HO2.out x (.inl hx)
   ·rcases (ho.blk hx).1 with h | h
    ·exact HO2.out x (.inr h)
    ·have h1 := h.1; have h2 := K.out.size; have h3 := HP.out; first | omega | (simp at h1; omega) | (simp at h2; omega) | (simp at h1 h2; omega)
  replace K := Hd ((K.out.alloc' _).trans hk6 (λ x hx e => absurd hx (by have := HP.out; have := HO2.out x (.inr e); omega)))
  replace HF : Hid (Fam b1 Nob (arOb M D q L xs A :: rowOb 3 1 (.slice mA2 met2.length mc2) met2.length (met2.map iV) :: rowOb 105 2 (.slice oA2 (lds.length + 1) oc2) (lds ++ [d]).length (ldCells (lds ++ [d])) :: muBlk P3 49 #[.int .i64 a0, .int .i64 a1, .int .i64 a2, .int .i64 a3, .int .i64 a4] :: muBlk (P3 + 1) 42 #[.bool false, .int .i64 0, .int .i64 0, .int .i64 0, .int .i64 0, .int .i64 0] :: muBlk N13 105 #[.slice cA ch.length cc1, .slice cB ch.length cc2] :: muBlk (N13 + 1) 42 #[.bool true, .int .i64 rn, .int .i64 re, .int .i64 rl, .int .i64 rns, .int .i64 rents] :: (lds ++ [d]).map (ldOb D))) := by
   have h := (HF.out.nob0 (Keeps.alloc Nob _ _)).app0 (i := 2) rfl hk6 (ho.mono (λ b _ hb => hb.imp (λ h => h) (λ h => ⟨by simpa using h.1, h.2⟩)))
   show Fam _ _ _
   rw [ldCells_snoc, HDV.out, HDW.out, List.length_append]
   exact h
  clear ho hk6 hi0 hz0 hz1 hz2 HO2
  have HR4 : Hid ((if level = 0 then ((lds ++ [d]).map (·.c), Rp.ok) else levelsFrom A (chkM a0 a1 a2 a3 a4) level.toNat (level - 1) (firstKid A ch) met2 ((lds ++ [d]).map (·.c))) = R) := by
   show _ = _
   rw [List.map_append, List.map_singleton, HDC.out]
   exact HR6.out
  by_cases hl : level = 0
  ·as_aux_lemma =>
   have hr : R = ((lds ++ [d]).map (·.c), Rp.ok) := by have h := HR4.out; rw [if_pos hl] at h; exact h.symm
   subst hl hr
   have q0 := (HF.out.ok 4 _ rfl : Blk b1 (P3 + 1) _ _).cell 0
   have f0 := (HF.out.ok 4 _ rfl : Blk b1 (P3 + 1) _ _).frozen 0
   have q1 := (HF.out.ok 4 _ rfl : Blk b1 (P3 + 1) _ _).cell 1
   have f1 := (HF.out.ok 4 _ rfl : Blk b1 (P3 + 1) _ _).frozen 1
   have q2 := (HF.out.ok 4 _ rfl : Blk b1 (P3 + 1) _ _).cell 2
   have f2 := (HF.out.ok 4 _ rfl : Blk b1 (P3 + 1) _ _).frozen 2
   have q3 := (HF.out.ok 4 _ rfl : Blk b1 (P3 + 1) _ _).cell 3
   have f3 := (HF.out.ok 4 _ rfl : Blk b1 (P3 + 1) _ _).frozen 3
   have q4 := (HF.out.ok 4 _ rfl : Blk b1 (P3 + 1) _ _).cell 4
   have f4 := (HF.out.ok 4 _ rfl : Blk b1 (P3 + 1) _ _).frozen 4
   have q5 := (HF.out.ok 4 _ rfl : Blk b1 (P3 + 1) _ _).cell 5
   have f5 := (HF.out.ok 4 _ rfl : Blk b1 (P3 + 1) _ _).frozen 5
   go_wp2
   clear q0 f0 q1 f1 q2 f2 q3 f3 q4 f4 q5 f5
   refine post_at (λ v3 hw => ?_)
   have hk' : Keeps (λ x => x = P3 + 1) b1 v3 := by rw [hw]; exact (((((Keeps.setCell _ (M := λ x => x = P3 + 1) rfl _).setCell' (λ _ => rfl) _).setCell' (λ _ => rfl) _).setCell' (λ _ => rfl) _).setCell' (λ _ => rfl) _).setCell' (λ _ => rfl) _
   have hb : Blk v3 (P3 + 1) 42 #[.bool true, .int .i64 0, .int .i64 0, .int .i64 0, .int .i64 0, .int .i64 0] := by rw [hw]; exact ((((((HF.out.ok 4 _ rfl : Blk b1 (P3 + 1) _ _).set_ 0 _).set_ 1 _).set_ 2 _).set_ 3 _).set_ 4 _).set_ 5 _
   have HG := HF.out.setBlk (i := 4) rfl hk' hb
   replace K := Hd (K.out.trans hk' (λ x hx e => by have h := HP.out; have e2 : x = P3 + 1 := e; omega))
   have hown : Own v3 (Fresh w v3) 105 2 (.slice oA2 (lds.length + 1) oc2) (lds ++ [d]).length (ldCells (lds ++ [d])) := Own.mono (HG.ok 2 _ rfl : Own v3 _ _ 2 _ _ _) (λ x hx e => ⟨by have := HO3.out x (.inr e); have h := HP.out; omega, hx⟩)
   have hall : ∀ e ∈ lds ++ [d], (ldOb D e).P v3 /\ ∀ x, e.F x -> Fresh w v3 x := λ e he => by
    obtain ⟨k, hk⟩ := List.mem_iff_getElem?.1 he
    have hk2 : (((lds ++ [d]).map (ldOb D)))[k]? = some (ldOb D e) := by rw [List.getElem?_map, hk]; rfl
    exact ⟨HG.ok (k + 7) _ hk2, λ x hx => ⟨by have := HDF2.out e he x hx; have h := HP.out; omega, HG.old (k + 7) _ hk2 x (.inl hx)⟩⟩
   clear hw hk' HG
   have r0 := hb.cell 0
   have r1 := hb.cell 1
   have r2 := hb.cell 2
   have r3 := hb.cell 3
   have r4 := hb.cell 4
   have r5 := hb.cell 5
   have hlv : LvsAt v3 (Fresh w v3) D (.slice oA2 (lds.length + 1) oc2) ((lds ++ [d]).map (·.c)) := ⟨lds ++ [d], rfl, hown, hall⟩
   refine bodyPost_ret (v := .tuple #[.slice oA2 (lds.length + 1) oc2, .agg #[.bool true, .int .i64 0, .int .i64 0, .int .i64 0, .int .i64 0, .int .i64 0]]) (by simp [results, Tryz.results43, go_sem, r0, r1, r2, r3, r4, r5]) rfl ⟨_, rfl, by first | exact hlv | simpa using hlv, K.out⟩
  obtain ⟨s1, r1, ech, hs1, hl1, hc1, _, _⟩ := HCH.out.at_
  have hm1 := HMAY.out _ hc1
  obtain ⟨_, _, _, hkl, _⟩ := hm1.inner (by omega)
  have hlv0 := hm1.lvl
  obtain ⟨kid, hkid⟩ : ∃ y, s1.nd.kids[0]? = some y := ⟨_, List.getElem?_eq_getElem (by omega)⟩
  have hfk : firstKid A ch = kid := by rw [ech]; show (opNd A first).kids.getD 0 0 = kid; rw [show opNd A first = s1.nd by unfold opNd; rw [hs1], List.getD_eq_getElem?_getD, hkid]; rfl
  have HR5 : Hid (levelsFrom A (chkM a0 a1 a2 a3 a4) ((level - 1).toNat + 1) (level - 1) kid met2 ((lds ++ [d]).map (·.c)) = R) := by
   have h := HR4.out; rw [if_neg hl, hfk] at h; rw [show (level - 1).toNat + 1 = level.toNat by omega]; exact h
  obtain ⟨i, g, o, cc, hid, hi, hl6, hL, X1, k1, X3, k3, X4, k4, X5, k5, n0, n1, n2, n3, n4, n5, hnd⟩ := DocW.mono_ (HF.out.ok 0 _ rfl : DocW b1 M D q L xs A) hs1
  have ca : b1.cell? ⟨q, 1, none⟩ = some (.slice (some ⟨g, o, none⟩) A.sl.length cc) := by have h := (HF.out.ok 0 _ rfl : DocW b1 M D q L xs A).blk.cell 1; rw [hL] at h; exact h
  obtain ⟨ka, ea, _, hca⟩ := SlR.cells (hnd.2.kids : Ints _ _ _ _) (i := 0) (by rw [List.length_map]; omega)
  subst ea
  have a5 : b1.cell? ka = some (.int .i64 kid) := by have h := hca 0 _ (by rw [List.getElem?_map, hkid]; rfl); have e : ka.add 0 = ka := rfl; rw [e] at h; exact h
  have hdp : (lvOb d.F D (.slice cA ch.length cc1) (.slice cB ch.length cc2) ch).P b1 := by
   have h := HF.out.ok (lds.length + 7) (ldOb D d) (show ((lds ++ [d]).map (ldOb D))[lds.length]? = _ by rw [List.getElem?_map, List.getElem?_append_right (Nat.le_refl _), Nat.sub_self]; rfl)
   unfold ldOb at h
   rw [HDV.out, HDW.out, HDC.out] at h
   exact h
  have hcl : 0 < ch.length := by rw [ech]; simp
  obtain ⟨la, el, _, hcl2⟩ := SlR.cells hdp.1 (i := 0) (by rw [List.length_map, List.length_map]; exact hcl)
  subst el
  have a1 : b1.cell? la = some (.int .i64 first) := by have h := hcl2 0 (.int .i64 first) (by rw [ech]; rfl); have e : la.add 0 = la := rfl; rw [e] at h; exact h
  have b0 := (HF.out.ok 5 _ rfl : Blk b1 N13 _ _).cell 0
  have hwr : IntKind.i64.wrap (first - 1) = (i : Int) := by rw [IntKind.wrap_i64]; omega
  have hpos : 0 <= (i : Int) /\ (i : Int) < (A.sl.length : Int) := by omega
  have hkz : (0 : Int) < s1.nd.kids.length := by omega
  have hlm2 : lds.length + 1 <= met2.length := by rw [HMT.out, List.length_append, List.length_map]; omega
  have hfi : first = (i : Int) + 1 := hid
  have h1r : 1 <= first := by omega
  have h2r : first <= A.sl.length := by omega
  have h3r : (first - 1).toNat = i := by omega
  have h4r : first - 1 = (i : Int) := by omega
  have hne : (level == 0) = false := by simpa using hl
  have HLV : Hid (0 < level /\ level <= 32) := ⟨by omega, by omega⟩
  have hlv1 : 0 < level := HLV.out.1
  have hlv2 : level <= 32 := HLV.out.2
  clear hL hnd n0 n1 n2 n3 n4 hid hca hcl2 ech hs1 hl1 hc1 hm1 hkid hfk hdp hfi hlv0 hl HR4
  go_wp2
  go_quiet (fail)
  go_wp2
  go_roundw
  case rel => exact ⟨met2, lds ++ [d], kid, level - 1, _, _, rfl, by go_num, HMET.out, HR5.out, λ e he => (List.mem_append.1 he).elim (HOK.out e) (λ h => by simp at h; subst h; rw [HDC.out]; exact HCH.out.nodes HMAY.out), by rw [List.length_append]; exact hlm2, HF.out.nob0 (Keeps.drewN Nob _ _), HO3.out, HDF2.out, K.out.drewN' _⟩
  case measure => have h := HLV.out; simp [intOf]; omega
end
end Go.Proofs.YtbhohohgojcapaaGreat
