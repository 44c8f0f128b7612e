import Derived.Test.YtbhohohgojcapaaGreatPkA6
set_option maxHeartbeats 64000000
namespace Go.Proofs.YtbhohohgojcapaaGreat
open Go.RowKit
section
variable {w : World} {G : Nat -> Prop} {b p q : Nat} {A B : Ar} {ix : Int}
theorem J.drewJ (h : J w G b p q A B) : J w.drew G b p q A B /\ Keeps G w w.drew := ⟨h.nob (Keeps.drew _ _), Keeps.drew _ _⟩
set_option maxRecDepth 100000 in
theorem layJ {S : Nat -> Prop} {c0 c1 c2 c3 c4 c5 : Value} {n : Nd} (h : J w G b p q A A) (hu : ∀ s ∈ A.sl, U64 s.word) (hn : IsNd w S c0 c1 c2 c3 c4 c5 n) (hz : NdSm 0 n) (hS : ∀ x, S x -> ¬ G x) :
  Calls Tryz.prog 87 #[pV b, iV ix, .agg #[c0, c1, c2, c3, c4, c5]] w λ e w' => e = .returned (.bool true) /\ J w' G b p q (opLay A ix n) (opLay A ix n) /\ Keeps G w w' := by
 obtain ⟨X1, k1, e1, _, _⟩ := hn.1.high.form
 obtain ⟨X3, k3, e3, _, _⟩ := hn.2.keys.form
 obtain ⟨X4, k4, e4, _, _⟩ := hn.2.vals.form
 obtain ⟨X5, k5, e5, _, _⟩ := hn.2.kids.form
 have e0 := hn.1.lvl
 have e2 := hn.1.right
 unfold iV at e0 e2
 subst e0 e1 e2 e3 e4 e5
 have HH := Hd h
 have HN0 := Hd hn
 have HZ : Hid (NdSm 0 n) := hz
 have HS := hS
 have HW := hu
 clear h hn hz hS hu
 unfold opLay
 by_cases hlt : (A.sl.length : Int) < ix
 ·rw [if_pos hlt]
  have HA := λ wx G' (hj : J wx G' b p q A A) => hj.allocX
  have HB := λ wx G' A' (hj : J wx G' b p q A' A) => hj.allocR
  generalize opAlloc A = r at *
  obtain ⟨ra, re, A1⟩ := r
  by_cases hre : re = 0
  ·simp only [if_pos hre]
   subst hre
   unfold opLay3
   unfold pV iV at *
   go_enter Tryz.func87, Tryz.ntmps87
   have rb := HH.out.blk.lt
   have r0 := HH.out.blk.cell 0
   have r1 := HH.out.blk.cell 1
   unfold pV at r0 r1
   go_wp2_with fail
   clear r0 r1
   refine calls_at (λ wa hw => ?_)
   obtain ⟨N, hN⟩ : ∃ N, w.heap.size = N := ⟨_, rfl⟩
   have hka : Keeps Nob w wa := by rw [hw]; exact Keeps.alloc _ _ _
   have BX : Hid (Blk wa N 35 #[.int .i64 n.lvl, .slice X1 n.high.length k1, .int .i64 n.right, .slice X3 n.keys.length k3, .slice X4 n.vals.length k4, .slice X5 n.kids.length k5]) := by rw [hw, <- hN]; exact Blk.new _ _ _
   have hsz : wa.heap.size = N + 1 := by rw [hw, <- hN]; simp
   rw [hN]
   have HJ : Hid (J wa (λ x => G x /\ x ≠ N) b p q A A) := HH.out.enter hka (λ x hx hg => ⟨hg, by omega⟩) (λ x hx => ⟨HH.out.new x (by omega), by omega⟩)
   have HN := Hd (HN0.out.keeps hka (λ _ _ _ => id))
   have K : Hid (Keeps G w wa) := hka.mono (λ _ _ h => h.elim)
   clear hw hka hsz hN HH HN0 rb
   refine HJ.out.usedR.mono ?_
   rintro e w' ⟨rfl, rfl⟩
   unfold iV
   have r0 := HJ.out.blk.cell 0
   unfold pV at r0
   go_wp2_with fail
   clear r0
   refine (HA _ _ HJ.out).mono ?_
   rintro e wk ⟨rfl, hj, hk⟩
   replace BX := Hd (BX.out.keeps hk (λ h => h.2 rfl)); replace HN := Hd (HN.out.keeps hk (λ x _ hs hg => HS x hs hg.1)); replace K := Hd (K.out.trans hk (λ _ _ h => h.1)); replace HJ := Hd hj; clear hj hk
   have r1 := HJ.out.blk.cell 1
   unfold pV at r1
   go_wp2_with fail
   clear r1
   refine (HB _ _ _ HJ.out).mono ?_
   rintro e wk ⟨rfl, hj, hk⟩
   replace BX := Hd (BX.out.keeps hk (λ h => h.2 rfl)); replace HN := Hd (HN.out.keeps hk (λ x _ hs hg => HS x hs hg.1)); replace K := Hd (K.out.trans hk (λ _ _ h => h.1)); replace HJ := Hd hj; clear hj hk
   clear HA HB
   have r0 := HJ.out.blk.cell 0
   have r1 := HJ.out.blk.cell 1
   unfold pV at r0 r1
   go_wp2_with fail
   clear r0 r1
   refine rC_ [0, 1, 2, 3, 4, 5, 6, 7, 8] 9 (λ W => W.cell? ⟨b, 0, none⟩ = some (.pointer (some ⟨p, 0, none⟩)) /\ W.cell? ⟨N, 0, none⟩ = some (.int .i64 n.lvl) /\ W.cell? ⟨N, 1, none⟩ = some (.slice X1 n.high.length k1) /\ W.cell? ⟨N, 2, none⟩ = some (.int .i64 n.right)) ?_ ?_
   ·exact ⟨HJ.out.blk.cell 0, BX.out.cell 0, BX.out.cell 1, BX.out.cell 2⟩
   iterate 7
    refine cR_ (v := ?_) rfl ?_ ?_
    rotate_left
    ·intro W hW
     try (obtain ⟨h1, h2, h3, h4⟩ : _ /\ _ /\ _ /\ _ := hW)
     go_simp
     try rfl
    simp only [Act.put, sa_, sb_, sc_]
   obtain ⟨hj, hk⟩ := HJ.out.drewJ
   replace BX := Hd (BX.out.keeps hk (λ h => h.2 rfl)); replace HN := Hd (HN.out.keeps hk (λ x _ hs hg => HS x hs hg.1)); replace K := Hd (K.out.trans hk (λ _ _ h => h.1)); replace HJ := Hd hj; clear hj hk
   refine cA_ rfl ?_
   go_wp2_with (go_at_call 82; refine (HJ.out.setHeadX (ix := ix) HN.out.1 HZ.out).mono ?_; rintro e wk ⟨rfl, hj, hk⟩; replace BX := Hd (BX.out.keeps hk (λ h => h.2 rfl)); replace HN := Hd (HN.out.keeps hk (λ x _ hs hg => HS x hs hg.1)); replace K := Hd (K.out.trans hk (λ _ _ h => h.1)); replace HJ := Hd hj; clear hj hk)
   refine ⟨.inr ⟨HJ.out.blk.cell 0, BX.out.cell 0, BX.out.cell 1, BX.out.cell 2⟩, ?_⟩
   refine cR_ (v := ?_) rfl ?_ ?_
   rotate_left
   ·intro W hW
    go_simp
    try rfl
   simp only [Act.put, sa_, sb_, sc_]
   refine wpCanon_nil ?_
   have r0 := HJ.out.blk.cell 0
   have r1 := HJ.out.blk.cell 1
   unfold pV at r0 r1
   go_wp2_with fail
   clear r0 r1
   refine rC_ [0, 1, 2, 3, 4, 5, 6, 7, 8] 9 (λ W => W.cell? ⟨b, 1, none⟩ = some (.pointer (some ⟨q, 0, none⟩)) /\ W.cell? ⟨N, 0, none⟩ = some (.int .i64 n.lvl) /\ W.cell? ⟨N, 1, none⟩ = some (.slice X1 n.high.length k1) /\ W.cell? ⟨N, 2, none⟩ = some (.int .i64 n.right)) ?_ ?_
   ·exact ⟨HJ.out.blk.cell 1, BX.out.cell 0, BX.out.cell 1, BX.out.cell 2⟩
   iterate 7
    refine cR_ (v := ?_) rfl ?_ ?_
    rotate_left
    ·intro W hW
     try (obtain ⟨h1, h2, h3, h4⟩ : _ /\ _ /\ _ /\ _ := hW)
     go_simp
     try rfl
    simp only [Act.put, sa_, sb_, sc_]
   obtain ⟨hj, hk⟩ := HJ.out.drewJ
   replace BX := Hd (BX.out.keeps hk (λ h => h.2 rfl)); replace HN := Hd (HN.out.keeps hk (λ x _ hs hg => HS x hs hg.1)); replace K := Hd (K.out.trans hk (λ _ _ h => h.1)); replace HJ := Hd hj; clear hj hk
   refine cA_ rfl ?_
   go_wp2_with (go_at_call 83; refine (HJ.out.setHeadR (ix := ix) HN.out.1 HZ.out).mono ?_; rintro e wk ⟨rfl, hj, hk⟩; replace BX := Hd (BX.out.keeps hk (λ h => h.2 rfl)); replace HN := Hd (HN.out.keeps hk (λ x _ hs hg => HS x hs hg.1)); replace K := Hd (K.out.trans hk (λ _ _ h => h.1)); replace HJ := Hd hj; clear hj hk)
   refine ⟨.inr ⟨HJ.out.blk.cell 1, BX.out.cell 0, BX.out.cell 1, BX.out.cell 2⟩, ?_⟩
   refine cR_ (v := ?_) rfl ?_ ?_
   rotate_left
   ·intro W hW
    go_simp
    try rfl
   simp only [Act.put, sa_, sb_, sc_]
   refine wpCanon_nil ?_
   have r0 := HJ.out.blk.cell 0
   have r1 := HJ.out.blk.cell 1
   unfold pV at r0 r1
   go_wp2_with fail
   clear r0 r1
   refine rC_ [0, 1, 2, 3, 4, 5, 6, 7, 8] 9 (λ W => W.cell? ⟨b, 0, none⟩ = some (.pointer (some ⟨p, 0, none⟩)) /\ W.cell? ⟨N, 3, none⟩ = some (.slice X3 n.keys.length k3) /\ W.cell? ⟨N, 4, none⟩ = some (.slice X4 n.vals.length k4) /\ W.cell? ⟨N, 5, none⟩ = some (.slice X5 n.kids.length k5)) ?_ ?_
   ·exact ⟨HJ.out.blk.cell 0, BX.out.cell 3, BX.out.cell 4, BX.out.cell 5⟩
   iterate 7
    refine cR_ (v := ?_) rfl ?_ ?_
    rotate_left
    ·intro W hW
     try (obtain ⟨h1, h2, h3, h4⟩ : _ /\ _ /\ _ /\ _ := hW)
     go_simp
     try rfl
    simp only [Act.put, sa_, sb_, sc_]
   obtain ⟨hj, hk⟩ := HJ.out.drewJ
   replace BX := Hd (BX.out.keeps hk (λ h => h.2 rfl)); replace HN := Hd (HN.out.keeps hk (λ x _ hs hg => HS x hs hg.1)); replace K := Hd (K.out.trans hk (λ _ _ h => h.1)); replace HJ := Hd hj; clear hj hk
   refine cA_ rfl ?_
   go_wp2_with (go_at_call 32; refine (HJ.out.setBodyX (ix := ix) HN.out.2 HZ.out).mono ?_; rintro e wk ⟨rfl, hj, hk⟩; replace BX := Hd (BX.out.keeps hk (λ h => h.2 rfl)); replace HN := Hd (HN.out.keeps hk (λ x _ hs hg => HS x hs hg.1)); replace K := Hd (K.out.trans hk (λ _ _ h => h.1)); replace HJ := Hd hj; clear hj hk)
   refine ⟨.inr ⟨HJ.out.blk.cell 0, BX.out.cell 3, BX.out.cell 4, BX.out.cell 5⟩, ?_⟩
   refine cR_ (v := ?_) rfl ?_ ?_
   rotate_left
   ·intro W hW
    go_simp
    try rfl
   simp only [Act.put, sa_, sb_, sc_]
   refine wpCanon_nil ?_
   have r0 := HJ.out.blk.cell 0
   have r1 := HJ.out.blk.cell 1
   unfold pV at r0 r1
   go_wp2_with fail
   clear r0 r1
   refine rC_ [0, 1, 2, 3, 4, 5, 6, 7, 8] 9 (λ W => W.cell? ⟨b, 1, none⟩ = some (.pointer (some ⟨q, 0, none⟩)) /\ W.cell? ⟨N, 3, none⟩ = some (.slice X3 n.keys.length k3) /\ W.cell? ⟨N, 4, none⟩ = some (.slice X4 n.vals.length k4) /\ W.cell? ⟨N, 5, none⟩ = some (.slice X5 n.kids.length k5)) ?_ ?_
   ·exact ⟨HJ.out.blk.cell 1, BX.out.cell 3, BX.out.cell 4, BX.out.cell 5⟩
   iterate 7
    refine cR_ (v := ?_) rfl ?_ ?_
    rotate_left
    ·intro W hW
     try (obtain ⟨h1, h2, h3, h4⟩ : _ /\ _ /\ _ /\ _ := hW)
     go_simp
     try rfl
    simp only [Act.put, sa_, sb_, sc_]
   obtain ⟨hj, hk⟩ := HJ.out.drewJ
   replace BX := Hd (BX.out.keeps hk (λ h => h.2 rfl)); replace HN := Hd (HN.out.keeps hk (λ x _ hs hg => HS x hs hg.1)); replace K := Hd (K.out.trans hk (λ _ _ h => h.1)); replace HJ := Hd hj; clear hj hk
   refine cA_ rfl ?_
   go_wp2_with (go_at_call 84; refine (HJ.out.setBodyR (ix := ix) HN.out.2 HZ.out).mono ?_; rintro e wk ⟨rfl, hj, hk⟩; replace BX := Hd (BX.out.keeps hk (λ h => h.2 rfl)); replace HN := Hd (HN.out.keeps hk (λ x _ hs hg => HS x hs hg.1)); replace K := Hd (K.out.trans hk (λ _ _ h => h.1)); replace HJ := Hd hj; clear hj hk)
   refine ⟨.inr ⟨HJ.out.blk.cell 1, BX.out.cell 3, BX.out.cell 4, BX.out.cell 5⟩, ?_⟩
   refine cR_ (v := ?_) rfl ?_ ?_
   rotate_left
   ·intro W hW
    go_simp
    try rfl
   simp only [Act.put, sa_, sb_, sc_]
   refine wpCanon_nil ?_
   have r0 := HJ.out.blk.cell 0
   have r1 := HJ.out.blk.cell 1
   unfold pV at r0 r1
   go_wp2_with fail
   clear r0 r1
   refine (HJ.out.unlockX (ix := ix) (c := true)).mono ?_
   rintro e wk ⟨rfl, hj, hk⟩
   replace BX := Hd (BX.out.keeps hk (λ h => h.2 rfl)); replace HN := Hd (HN.out.keeps hk (λ x _ hs hg => HS x hs hg.1)); replace K := Hd (K.out.trans hk (λ _ _ h => h.1)); replace HJ := Hd hj; clear hj hk
   have r1 := HJ.out.blk.cell 1
   unfold pV at r1
   go_wp2_with fail
   clear r1
   refine (HJ.out.unlockR (ix := ix) (c := true)).mono ?_
   rintro e wk ⟨rfl, hj, hk⟩
   replace BX := Hd (BX.out.keeps hk (λ h => h.2 rfl)); replace HN := Hd (HN.out.keeps hk (λ x _ hs hg => HS x hs hg.1)); replace K := Hd (K.out.trans hk (λ _ _ h => h.1)); replace HJ := Hd hj; clear hj hk
   unfold iV
   go_wp2
   go_ret
   exact ⟨by simp, HJ.out.weaken (λ _ h => h.1), K.out⟩
  ·simp only [if_neg hre]
   unfold pV iV at *
   go_enter Tryz.func87, Tryz.ntmps87
   have rb := HH.out.blk.lt
   have r0 := HH.out.blk.cell 0
   have r1 := HH.out.blk.cell 1
   unfold pV at r0 r1
   go_wp2_with fail
   clear r0 r1
   refine calls_at (λ wa hw => ?_)
   obtain ⟨N, hN⟩ : ∃ N, w.heap.size = N := ⟨_, rfl⟩
   have hka : Keeps Nob w wa := by rw [hw]; exact Keeps.alloc _ _ _
   have BX : Hid (Blk wa N 35 #[.int .i64 n.lvl, .slice X1 n.high.length k1, .int .i64 n.right, .slice X3 n.keys.length k3, .slice X4 n.vals.length k4, .slice X5 n.kids.length k5]) := by rw [hw, <- hN]; exact Blk.new _ _ _
   have hsz : wa.heap.size = N + 1 := by rw [hw, <- hN]; simp
   rw [hN]
   have HJ : Hid (J wa (λ x => G x /\ x ≠ N) b p q A A) := HH.out.enter hka (λ x hx hg => ⟨hg, by omega⟩) (λ x hx => ⟨HH.out.new x (by omega), by omega⟩)
   have HN := Hd (HN0.out.keeps hka (λ _ _ _ => id))
   have K : Hid (Keeps G w wa) := hka.mono (λ _ _ h => h.elim)
   clear hw hka hsz hN HH HN0 rb
   refine HJ.out.usedR.mono ?_
   rintro e w' ⟨rfl, rfl⟩
   unfold iV
   have r0 := HJ.out.blk.cell 0
   unfold pV at r0
   go_wp2_with fail
   clear r0
   refine (HA _ _ HJ.out).mono ?_
   rintro e wk ⟨rfl, hj, hk⟩
   replace BX := Hd (BX.out.keeps hk (λ h => h.2 rfl)); replace HN := Hd (HN.out.keeps hk (λ x _ hs hg => HS x hs hg.1)); replace K := Hd (K.out.trans hk (λ _ _ h => h.1)); replace HJ := Hd hj; clear hj hk
   have r1 := HJ.out.blk.cell 1
   unfold pV at r1
   go_wp2_with fail
   clear r1
   refine (HB _ _ _ HJ.out).mono ?_
   rintro e wk ⟨rfl, hj, hk⟩
   replace BX := Hd (BX.out.keeps hk (λ h => h.2 rfl)); replace HN := Hd (HN.out.keeps hk (λ x _ hs hg => HS x hs hg.1)); replace K := Hd (K.out.trans hk (λ _ _ h => h.1)); replace HJ := Hd hj; clear hj hk
   clear HA HB
   go_wp2
   go_ret
   exact ⟨rfl, HJ.out.weaken (λ _ h => h.1), K.out⟩
 ·rw [if_neg hlt]
  have hlt' : ix <= (A.sl.length : Int) := by omega
  have hwu : U64 (opWord A ix) := by
   unfold opWord
   split
   ·unfold U64; decide
   ·rename_i s hg
    obtain ⟨i, _, h2, _⟩ := get_some hg
    exact HW s (List.mem_of_getElem? h2)
  have HWU : Hid (U64 (opWord A ix)) := hwu
  clear hwu HW
  have HA := λ wx G' (hj : J wx G' b p q A A) => hj.wordR (ix := ix)
  have HB := λ wx G' (hj : J wx G' b p q A A) => lockJ (ix := ix) hj HWU.out
  generalize (opLock A ix (opWord A ix)).2.2 = A1 at *
  unfold opLay3
  unfold pV iV at *
  go_enter Tryz.func87, Tryz.ntmps87
  have rb := HH.out.blk.lt
  have r0 := HH.out.blk.cell 0
  have r1 := HH.out.blk.cell 1
  unfold pV at r0 r1
  go_wp2_with fail
  clear r0 r1
  refine calls_at (λ wa hw => ?_)
  obtain ⟨N, hN⟩ : ∃ N, w.heap.size = N := ⟨_, rfl⟩
  have hka : Keeps Nob w wa := by rw [hw]; exact Keeps.alloc _ _ _
  have BX : Hid (Blk wa N 35 #[.int .i64 n.lvl, .slice X1 n.high.length k1, .int .i64 n.right, .slice X3 n.keys.length k3, .slice X4 n.vals.length k4, .slice X5 n.kids.length k5]) := by rw [hw, <- hN]; exact Blk.new _ _ _
  have hsz : wa.heap.size = N + 1 := by rw [hw, <- hN]; simp
  rw [hN]
  have HJ : Hid (J wa (λ x => G x /\ x ≠ N) b p q A A) := HH.out.enter hka (λ x hx hg => ⟨hg, by omega⟩) (λ x hx => ⟨HH.out.new x (by omega), by omega⟩)
  have HN := Hd (HN0.out.keeps hka (λ _ _ _ => id))
  have K : Hid (Keeps G w wa) := hka.mono (λ _ _ h => h.elim)
  clear hw hka hsz hN HH HN0 rb
  refine HJ.out.usedR.mono ?_
  rintro e w' ⟨rfl, rfl⟩
  unfold iV
  have r0 := HJ.out.blk.cell 0
  have r1 := HJ.out.blk.cell 1
  unfold pV at r0 r1
  go_wp2_with fail
  refine (HA _ _ HJ.out).mono ?_
  rintro e w' ⟨rfl, rfl⟩
  go_wp2_with fail
  clear r0 r1
  refine (HB _ _ HJ.out).mono ?_
  rintro e wk ⟨rfl, hj, hk⟩
  replace BX := Hd (BX.out.keeps hk (λ h => h.2 rfl)); replace HN := Hd (HN.out.keeps hk (λ x _ hs hg => HS x hs hg.1)); replace K := Hd (K.out.trans hk (λ _ _ h => h.1)); replace HJ := Hd hj; clear hj hk
  clear HA HB
  have r0 := HJ.out.blk.cell 0
  have r1 := HJ.out.blk.cell 1
  unfold pV at r0 r1
  go_wp2_with fail
  clear r0 r1
  refine rC_ [0, 1, 2, 3, 4, 5, 6, 7, 8] 9 (λ W => W.cell? ⟨b, 0, none⟩ = some (.pointer (some ⟨p, 0, none⟩)) /\ W.cell? ⟨N, 0, none⟩ = some (.int .i64 n.lvl) /\ W.cell? ⟨N, 1, none⟩ = some (.slice X1 n.high.length k1) /\ W.cell? ⟨N, 2, none⟩ = some (.int .i64 n.right)) ?_ ?_
  ·exact ⟨HJ.out.blk.cell 0, BX.out.cell 0, BX.out.cell 1, BX.out.cell 2⟩
  iterate 7
   refine cR_ (v := ?_) rfl ?_ ?_
   rotate_left
   ·intro W hW
    try (obtain ⟨h1, h2, h3, h4⟩ : _ /\ _ /\ _ /\ _ := hW)
    go_simp
    try rfl
   simp only [Act.put, sa_, sb_, sc_]
  obtain ⟨hj, hk⟩ := HJ.out.drewJ
  replace BX := Hd (BX.out.keeps hk (λ h => h.2 rfl)); replace HN := Hd (HN.out.keeps hk (λ x _ hs hg => HS x hs hg.1)); replace K := Hd (K.out.trans hk (λ _ _ h => h.1)); replace HJ := Hd hj; clear hj hk
  refine cA_ rfl ?_
  go_wp2_with (go_at_call 82; refine (HJ.out.setHeadX (ix := ix) HN.out.1 HZ.out).mono ?_; rintro e wk ⟨rfl, hj, hk⟩; replace BX := Hd (BX.out.keeps hk (λ h => h.2 rfl)); replace HN := Hd (HN.out.keeps hk (λ x _ hs hg => HS x hs hg.1)); replace K := Hd (K.out.trans hk (λ _ _ h => h.1)); replace HJ := Hd hj; clear hj hk)
  refine ⟨.inr ⟨HJ.out.blk.cell 0, BX.out.cell 0, BX.out.cell 1, BX.out.cell 2⟩, ?_⟩
  refine cR_ (v := ?_) rfl ?_ ?_
  rotate_left
  ·intro W hW
   go_simp
   try rfl
  simp only [Act.put, sa_, sb_, sc_]
  refine wpCanon_nil ?_
  have r0 := HJ.out.blk.cell 0
  have r1 := HJ.out.blk.cell 1
  unfold pV at r0 r1
  go_wp2_with fail
  clear r0 r1
  refine rC_ [0, 1, 2, 3, 4, 5, 6, 7, 8] 9 (λ W => W.cell? ⟨b, 1, none⟩ = some (.pointer (some ⟨q, 0, none⟩)) /\ W.cell? ⟨N, 0, none⟩ = some (.int .i64 n.lvl) /\ W.cell? ⟨N, 1, none⟩ = some (.slice X1 n.high.length k1) /\ W.cell? ⟨N, 2, none⟩ = some (.int .i64 n.right)) ?_ ?_
  ·exact ⟨HJ.out.blk.cell 1, BX.out.cell 0, BX.out.cell 1, BX.out.cell 2⟩
  iterate 7
   refine cR_ (v := ?_) rfl ?_ ?_
   rotate_left
   ·intro W hW
    try (obtain ⟨h1, h2, h3, h4⟩ : _ /\ _ /\ _ /\ _ := hW)
    go_simp
    try rfl
   simp only [Act.put, sa_, sb_, sc_]
  obtain ⟨hj, hk⟩ := HJ.out.drewJ
  replace BX := Hd (BX.out.keeps hk (λ h => h.2 rfl)); replace HN := Hd (HN.out.keeps hk (λ x _ hs hg => HS x hs hg.1)); replace K := Hd (K.out.trans hk (λ _ _ h => h.1)); replace HJ := Hd hj; clear hj hk
  refine cA_ rfl ?_
  go_wp2_with (go_at_call 83; refine (HJ.out.setHeadR (ix := ix) HN.out.1 HZ.out).mono ?_; rintro e wk ⟨rfl, hj, hk⟩; replace BX := Hd (BX.out.keeps hk (λ h => h.2 rfl)); replace HN := Hd (HN.out.keeps hk (λ x _ hs hg => HS x hs hg.1)); replace K := Hd (K.out.trans hk (λ _ _ h => h.1)); replace HJ := Hd hj; clear hj hk)
  refine ⟨.inr ⟨HJ.out.blk.cell 1, BX.out.cell 0, BX.out.cell 1, BX.out.cell 2⟩, ?_⟩
  refine cR_ (v := ?_) rfl ?_ ?_
  rotate_left
  ·intro W hW
   go_simp
   try rfl
  simp only [Act.put, sa_, sb_, sc_]
  refine wpCanon_nil ?_
  have r0 := HJ.out.blk.cell 0
  have r1 := HJ.out.blk.cell 1
  unfold pV at r0 r1
  go_wp2_with fail
  clear r0 r1
  refine rC_ [0, 1, 2, 3, 4, 5, 6, 7, 8] 9 (λ W => W.cell? ⟨b, 0, none⟩ = some (.pointer (some ⟨p, 0, none⟩)) /\ W.cell? ⟨N, 3, none⟩ = some (.slice X3 n.keys.length k3) /\ W.cell? ⟨N, 4, none⟩ = some (.slice X4 n.vals.length k4) /\ W.cell? ⟨N, 5, none⟩ = some (.slice X5 n.kids.length k5)) ?_ ?_
  ·exact ⟨HJ.out.blk.cell 0, BX.out.cell 3, BX.out.cell 4, BX.out.cell 5⟩
  iterate 7
   refine cR_ (v := ?_) rfl ?_ ?_
   rotate_left
   ·intro W hW
    try (obtain ⟨h1, h2, h3, h4⟩ : _ /\ _ /\ _ /\ _ := hW)
    go_simp
    try rfl
   simp only [Act.put, sa_, sb_, sc_]
  obtain ⟨hj, hk⟩ := HJ.out.drewJ
  replace BX := Hd (BX.out.keeps hk (λ h => h.2 rfl)); replace HN := Hd (HN.out.keeps hk (λ x _ hs hg => HS x hs hg.1)); replace K := Hd (K.out.trans hk (λ _ _ h => h.1)); replace HJ := Hd hj; clear hj hk
  refine cA_ rfl ?_
  go_wp2_with (go_at_call 32; refine (HJ.out.setBodyX (ix := ix) HN.out.2 HZ.out).mono ?_; rintro e wk ⟨rfl, hj, hk⟩; replace BX := Hd (BX.out.keeps hk (λ h => h.2 rfl)); replace HN := Hd (HN.out.keeps hk (λ x _ hs hg => HS x hs hg.1)); replace K := Hd (K.out.trans hk (λ _ _ h => h.1)); replace HJ := Hd hj; clear hj hk)
  refine ⟨.inr ⟨HJ.out.blk.cell 0, BX.out.cell 3, BX.out.cell 4, BX.out.cell 5⟩, ?_⟩
  refine cR_ (v := ?_) rfl ?_ ?_
  rotate_left
  ·intro W hW
   go_simp
   try rfl
  simp only [Act.put, sa_, sb_, sc_]
  refine wpCanon_nil ?_
  have r0 := HJ.out.blk.cell 0
  have r1 := HJ.out.blk.cell 1
  unfold pV at r0 r1
  go_wp2_with fail
  clear r0 r1
  refine rC_ [0, 1, 2, 3, 4, 5, 6, 7, 8] 9 (λ W => W.cell? ⟨b, 1, none⟩ = some (.pointer (some ⟨q, 0, none⟩)) /\ W.cell? ⟨N, 3, none⟩ = some (.slice X3 n.keys.length k3) /\ W.cell? ⟨N, 4, none⟩ = some (.slice X4 n.vals.length k4) /\ W.cell? ⟨N, 5, none⟩ = some (.slice X5 n.kids.length k5)) ?_ ?_
  ·exact ⟨HJ.out.blk.cell 1, BX.out.cell 3, BX.out.cell 4, BX.out.cell 5⟩
  iterate 7
   refine cR_ (v := ?_) rfl ?_ ?_
   rotate_left
   ·intro W hW
    try (obtain ⟨h1, h2, h3, h4⟩ : _ /\ _ /\ _ /\ _ := hW)
    go_simp
    try rfl
   simp only [Act.put, sa_, sb_, sc_]
  obtain ⟨hj, hk⟩ := HJ.out.drewJ
  replace BX := Hd (BX.out.keeps hk (λ h => h.2 rfl)); replace HN := Hd (HN.out.keeps hk (λ x _ hs hg => HS x hs hg.1)); replace K := Hd (K.out.trans hk (λ _ _ h => h.1)); replace HJ := Hd hj; clear hj hk
  refine cA_ rfl ?_
  go_wp2_with (go_at_call 84; refine (HJ.out.setBodyR (ix := ix) HN.out.2 HZ.out).mono ?_; rintro e wk ⟨rfl, hj, hk⟩; replace BX := Hd (BX.out.keeps hk (λ h => h.2 rfl)); replace HN := Hd (HN.out.keeps hk (λ x _ hs hg => HS x hs hg.1)); replace K := Hd (K.out.trans hk (λ _ _ h => h.1)); replace HJ := Hd hj; clear hj hk)
  refine ⟨.inr ⟨HJ.out.blk.cell 1, BX.out.cell 3, BX.out.cell 4, BX.out.cell 5⟩, ?_⟩
  refine cR_ (v := ?_) rfl ?_ ?_
  rotate_left
  ·intro W hW
   go_simp
   try rfl
  simp only [Act.put, sa_, sb_, sc_]
  refine wpCanon_nil ?_
  have r0 := HJ.out.blk.cell 0
  have r1 := HJ.out.blk.cell 1
  unfold pV at r0 r1
  go_wp2_with fail
  clear r0 r1
  refine (HJ.out.unlockX (ix := ix) (c := true)).mono ?_
  rintro e wk ⟨rfl, hj, hk⟩
  replace BX := Hd (BX.out.keeps hk (λ h => h.2 rfl)); replace HN := Hd (HN.out.keeps hk (λ x _ hs hg => HS x hs hg.1)); replace K := Hd (K.out.trans hk (λ _ _ h => h.1)); replace HJ := Hd hj; clear hj hk
  have r1 := HJ.out.blk.cell 1
  unfold pV at r1
  go_wp2_with fail
  clear r1
  refine (HJ.out.unlockR (ix := ix) (c := true)).mono ?_
  rintro e wk ⟨rfl, hj, hk⟩
  replace BX := Hd (BX.out.keeps hk (λ h => h.2 rfl)); replace HN := Hd (HN.out.keeps hk (λ x _ hs hg => HS x hs hg.1)); replace K := Hd (K.out.trans hk (λ _ _ h => h.1)); replace HJ := Hd hj; clear hj hk
  unfold iV
  go_wp2
  go_ret
  exact ⟨by simp, HJ.out.weaken (λ _ h => h.1), K.out⟩
end
end Go.Proofs.YtbhohohgojcapaaGreat
