import Derived.Test.YtbhohohgojcapaaGreatPkB0
set_option maxHeartbeats 64000000
namespace Go.Proofs.YtbhohohgojcapaaGreat
open Go.RowKit
section
variable {w : World} {G : Nat -> Prop} {b p q : Nat} {A B : Ar} {ix : Int}
set_option maxRecDepth 100000 in
theorem raw3J {S : Nat -> Prop} {kd a bb : Int} {wd : Nat} {ch : Bool} {c0 c1 c2 c3 c4 c5 : Value} {n : Nd} (h : J w G b p q A A) (hk : pk kd 9 = 3) (hkd : I64 kd) (ha : I64 a) (hbb : I64 bb) (huw : U64 wd) (hn : IsNd w S c0 c1 c2 c3 c4 c5 n) (hz : NdSm 0 n) (hS : ∀ x, S x -> ¬ G x) :
  Calls Tryz.prog 37 #[pV b, .agg #[.int .i64 kd, .int .i64 a, .int .i64 bb, .int .u64 wd, .bool ch, c0, c1, c2, c3, c4, c5]] w λ e w' => e = .returned (.bool true) /\ J w' G b p q ((opUnlock A (opId A a) ch).2) ((opUnlock A (opId A a) ch).2) /\ Keeps G w w' := by
 obtain ⟨X1, k1, e1, _, _⟩ := hn.1.high.form
 obtain ⟨X3, k3, e3, _, _⟩ := hn.2.keys.form
 obtain ⟨X4, k4, e4, _, _⟩ := hn.2.vals.form
 obtain ⟨X5, k5, e5, _, _⟩ := hn.2.kids.form
 have e0 := hn.1.lvl
 have e2 := hn.1.right
 unfold iV at e0 e2
 subst e0 e1 e2 e3 e4 e5
 have hlen := h.bound.1
 have HWS : Hid (∀ s ∈ A.sl, U64 s.word) := h.words
 have HH := Hd h
 have HN0 := Hd hn
 have HZ : Hid (NdSm 0 n) := hz
 have HAA : Hid (I64 a) := ha
 have HBB : Hid (I64 bb) := hbb
 have HUW : Hid (U64 wd) := huw
 have HS := hS
 have FI0 : ∀ wx G', J wx G' b p q A A -> Calls Tryz.prog 74 #[pV b, iV a] wx λ e w' => e = .returned (iV (opId A a)) /\ wx = w' := λ wx G' hj => idJ hj HAA.out hlen
 have FP0 := λ wx => pick_ (c := kd) (n := 9) wx hkd (by decide)
 rw [hk] at FP0
 clear h hn hz hS ha hbb huw hk hkd
 have FA := λ wx G' (hj : J wx G' b p q A A) => hj.unlockX (ix := opId A a) (c := ch)
 have FB := λ wx G' A' (hj : J wx G' b p q A' A) => hj.unlockR (ix := opId A a) (c := ch)
 generalize opUnlock A (opId A a) ch = r at *
 obtain ⟨re, A1⟩ := r
 clear hlen
 generalize opId A a = ix at *
 unfold pV iV at *
 go_enter Tryz.func37, Tryz.ntmps37
 go_wp2_with fail
 refine calls_at (λ wa hw => ?_)
 obtain ⟨N, hN⟩ : ∃ N, w.heap.size = N := ⟨_, rfl⟩
 have hka : Keeps Nob w wa := by rw [hw]; exact Keeps.alloc _ _ _
 have BX : Hid (Blk wa N 95 #[.int .i64 kd, .int .i64 a, .int .i64 bb, .int .u64 wd, .bool ch, .int .i64 n.lvl, .slice X1 n.high.length k1, .int .i64 n.right, .slice X3 n.keys.length k3, .slice X4 n.vals.length k4, .slice X5 n.kids.length k5]) := by rw [hw, <- hN]; exact Blk.new _ _ _
 have hsz : wa.heap.size = N + 1 := by rw [hw, <- hN]; simp
 rw [hN]
 have HJ : Hid (J wa (λ x => G x /\ x ≠ N) b p q A A) := HH.out.enter hka (λ x hx hg => ⟨hg, by omega⟩) (λ x hx => ⟨HH.out.new x (by omega), by omega⟩)
 have HN := Hd (HN0.out.keeps hka (λ _ _ _ => id))
 have K : Hid (Keeps G w wa) := hka.mono (λ _ _ h => h.elim)
 clear hw hka hsz hN HH HN0
 refine (FI0 _ _ HJ.out).mono ?_
 rintro e w' ⟨rfl, rfl⟩
 have r0 := HJ.out.blk.cell 0
 have r1 := HJ.out.blk.cell 1
 have rq := λ i => BX.out.cell i
 unfold pV at r0 r1
 go_wp2_with fail
 clear r0 r1 rq
 refine (FP0 _).mono ?_
 rintro e w' ⟨rfl, rfl⟩
 clear FI0 FP0
 have r0 := HJ.out.blk.cell 0
 have r1 := HJ.out.blk.cell 1
 have rq := λ i => BX.out.cell i
 unfold pV at r0 r1
 go_wp2_with fail
 clear r0 r1 rq
 refine rC_ [0, 1, 2, 3, 4, 5, 6, 8, 9, 10, 11, 12, 13, 14, 7, 15, 16, 17] 18 (λ W => W.cell? ⟨b, 0, none⟩ = some (.pointer (some ⟨p, 0, none⟩)) /\ W.cell? ⟨b, 1, none⟩ = some (.pointer (some ⟨q, 0, none⟩)) /\ W.cell? ⟨N, 1, none⟩ = some (.int .i64 a) /\ W.cell? ⟨N, 2, none⟩ = some (.int .i64 bb) /\ W.cell? ⟨N, 4, none⟩ = some (.bool ch)) ?_ ?_
 ·exact ⟨HJ.out.blk.cell 0, HJ.out.blk.cell 1, BX.out.cell 1, BX.out.cell 2, BX.out.cell 4⟩
 iterate 14
  refine cR_ (v := ?_) rfl ?_ ?_
  rotate_left
  ·intro W hW
   try (obtain ⟨h1, h2, h3, h4, h5⟩ : _ /\ _ /\ _ /\ _ /\ _ := hW)
   go_simp
   try rfl
  simp only [Act.put, sa_, sb_, sc_]
 obtain ⟨hj, hk⟩ := HJ.out.drewJ
 replace BX := Hd (BX.out.keeps hk (λ h => h.2 rfl)); replace HN := Hd (HN.out.keeps hk (λ x _ hs hg => HS x hs hg.1)); replace K := Hd (K.out.trans hk (λ _ _ h => h.1)); replace HJ := Hd hj; clear hj hk
 refine cA_ rfl ?_
 go_wp2_with (go_at_call 33; refine (FA _ _ HJ.out).mono ?_; rintro e wk ⟨rfl, hj, hk⟩; replace BX := Hd (BX.out.keeps hk (λ h => h.2 rfl)); replace HN := Hd (HN.out.keeps hk (λ x _ hs hg => HS x hs hg.1)); replace K := Hd (K.out.trans hk (λ _ _ h => h.1)); replace HJ := Hd hj; clear hj hk)
 refine ⟨.inr ⟨HJ.out.blk.cell 0, HJ.out.blk.cell 1, BX.out.cell 1, BX.out.cell 2, BX.out.cell 4⟩, ?_⟩
 refine cA_ rfl ?_
 go_wp2_with (go_at_call 81; refine (FB _ _ _ HJ.out).mono ?_; rintro e wk ⟨rfl, hj, hk⟩; replace BX := Hd (BX.out.keeps hk (λ h => h.2 rfl)); replace HN := Hd (HN.out.keeps hk (λ x _ hs hg => HS x hs hg.1)); replace K := Hd (K.out.trans hk (λ _ _ h => h.1)); replace HJ := Hd hj; clear hj hk)
 refine ⟨.inr ⟨HJ.out.blk.cell 0, HJ.out.blk.cell 1, BX.out.cell 1, BX.out.cell 2, BX.out.cell 4⟩, ?_⟩
 iterate 2
  refine cR_ (v := ?_) rfl ?_ ?_
  rotate_left
  ·intro W hW
   try (obtain ⟨h1, h2, h3, h4, h5⟩ : _ /\ _ /\ _ /\ _ /\ _ := hW)
   go_simp
   try rfl
  simp only [Act.put, sa_, sb_, sc_]
 refine wpCanon_nil ?_
 have r0 := HJ.out.blk.cell 0
 have r1 := HJ.out.blk.cell 1
 have rq := λ i => BX.out.cell i
 unfold pV at r0 r1
 go_wp2
 go_ret
 exact ⟨by simp, HJ.out.weaken (λ _ h => h.1), K.out⟩
set_option maxRecDepth 100000 in
theorem raw4J {S : Nat -> Prop} {kd a bb : Int} {wd : Nat} {ch : Bool} {c0 c1 c2 c3 c4 c5 : Value} {n : Nd} (h : J w G b p q A A) (hk : pk kd 9 = 4) (hkd : I64 kd) (ha : I64 a) (hbb : I64 bb) (huw : U64 wd) (hn : IsNd w S c0 c1 c2 c3 c4 c5 n) (hz : NdSm 0 n) (hS : ∀ x, S x -> ¬ G x) :
  Calls Tryz.prog 37 #[pV b, .agg #[.int .i64 kd, .int .i64 a, .int .i64 bb, .int .u64 wd, .bool ch, c0, c1, c2, c3, c4, c5]] w λ e w' => e = .returned (.bool true) /\ J w' G b p q ((opSetHead A (opId A a) n).2) ((opSetHead A (opId A a) n).2) /\ Keeps G w w' := by
 obtain ⟨X1, k1, e1, _, _⟩ := hn.1.high.form
 obtain ⟨X3, k3, e3, _, _⟩ := hn.2.keys.form
 obtain ⟨X4, k4, e4, _, _⟩ := hn.2.vals.form
 obtain ⟨X5, k5, e5, _, _⟩ := hn.2.kids.form
 have e0 := hn.1.lvl
 have e2 := hn.1.right
 unfold iV at e0 e2
 subst e0 e1 e2 e3 e4 e5
 have hlen := h.bound.1
 have HWS : Hid (∀ s ∈ A.sl, U64 s.word) := h.words
 have HH := Hd h
 have HN0 := Hd hn
 have HZ : Hid (NdSm 0 n) := hz
 have HAA : Hid (I64 a) := ha
 have HBB : Hid (I64 bb) := hbb
 have HUW : Hid (U64 wd) := huw
 have HS := hS
 have FI0 : ∀ wx G', J wx G' b p q A A -> Calls Tryz.prog 74 #[pV b, iV a] wx λ e w' => e = .returned (iV (opId A a)) /\ wx = w' := λ wx G' hj => idJ hj HAA.out hlen
 have FP0 := λ wx => pick_ (c := kd) (n := 9) wx hkd (by decide)
 rw [hk] at FP0
 clear h hn hz hS ha hbb huw hk hkd
 have FA := λ wx G' a0 a1 a2 (hj : J wx G' b p q A A) (hh : IsHd wx S a0 a1 a2 n) => hj.setHeadX (ix := opId A a) hh HZ.out
 have FB := λ wx G' A' a0 a1 a2 (hj : J wx G' b p q A' A) (hh : IsHd wx S a0 a1 a2 n) => hj.setHeadR (ix := opId A a) hh HZ.out
 generalize opSetHead A (opId A a) n = r at *
 obtain ⟨re, A1⟩ := r
 clear hlen
 generalize opId A a = ix at *
 unfold pV iV at *
 go_enter Tryz.func37, Tryz.ntmps37
 go_wp2_with fail
 refine calls_at (λ wa hw => ?_)
 obtain ⟨N, hN⟩ : ∃ N, w.heap.size = N := ⟨_, rfl⟩
 have hka : Keeps Nob w wa := by rw [hw]; exact Keeps.alloc _ _ _
 have BX : Hid (Blk wa N 95 #[.int .i64 kd, .int .i64 a, .int .i64 bb, .int .u64 wd, .bool ch, .int .i64 n.lvl, .slice X1 n.high.length k1, .int .i64 n.right, .slice X3 n.keys.length k3, .slice X4 n.vals.length k4, .slice X5 n.kids.length k5]) := by rw [hw, <- hN]; exact Blk.new _ _ _
 have hsz : wa.heap.size = N + 1 := by rw [hw, <- hN]; simp
 rw [hN]
 have HJ : Hid (J wa (λ x => G x /\ x ≠ N) b p q A A) := HH.out.enter hka (λ x hx hg => ⟨hg, by omega⟩) (λ x hx => ⟨HH.out.new x (by omega), by omega⟩)
 have HN := Hd (HN0.out.keeps hka (λ _ _ _ => id))
 have K : Hid (Keeps G w wa) := hka.mono (λ _ _ h => h.elim)
 clear hw hka hsz hN HH HN0
 refine (FI0 _ _ HJ.out).mono ?_
 rintro e w' ⟨rfl, rfl⟩
 have r0 := HJ.out.blk.cell 0
 have r1 := HJ.out.blk.cell 1
 have rq := λ i => BX.out.cell i
 unfold pV at r0 r1
 go_wp2_with fail
 clear r0 r1 rq
 refine (FP0 _).mono ?_
 rintro e w' ⟨rfl, rfl⟩
 clear FI0 FP0
 have r0 := HJ.out.blk.cell 0
 have r1 := HJ.out.blk.cell 1
 have rq := λ i => BX.out.cell i
 unfold pV at r0 r1
 go_wp2_with fail
 clear r0 r1 rq
 refine rC_ [0, 1, 2, 3, 4, 5, 6, 7, 9, 10, 11, 12, 13, 14, 15, 16, 8, 17, 18, 19] 20 (λ W => W.cell? ⟨b, 0, none⟩ = some (.pointer (some ⟨p, 0, none⟩)) /\ W.cell? ⟨b, 1, none⟩ = some (.pointer (some ⟨q, 0, none⟩)) /\ W.cell? ⟨N, 1, none⟩ = some (.int .i64 a) /\ W.cell? ⟨N, 2, none⟩ = some (.int .i64 bb) /\ W.cell? ⟨N, 4, none⟩ = some (.bool ch) /\ W.cell? ⟨N, 5, none⟩ = some (.int .i64 n.lvl) /\ W.cell? ⟨N, 6, none⟩ = some (.slice X1 n.high.length k1) /\ W.cell? ⟨N, 7, none⟩ = some (.int .i64 n.right)) ?_ ?_
 ·exact ⟨HJ.out.blk.cell 0, HJ.out.blk.cell 1, BX.out.cell 1, BX.out.cell 2, BX.out.cell 4, BX.out.cell 5, BX.out.cell 6, BX.out.cell 7⟩
 iterate 16
  refine cR_ (v := ?_) rfl ?_ ?_
  rotate_left
  ·intro W hW
   try (obtain ⟨h1, h2, h3, h4, h5, h6, h7, h8⟩ : _ /\ _ /\ _ /\ _ /\ _ /\ _ /\ _ /\ _ := hW)
   go_simp
   try rfl
  simp only [Act.put, sa_, sb_, sc_]
 obtain ⟨hj, hk⟩ := HJ.out.drewJ
 replace BX := Hd (BX.out.keeps hk (λ h => h.2 rfl)); replace HN := Hd (HN.out.keeps hk (λ x _ hs hg => HS x hs hg.1)); replace K := Hd (K.out.trans hk (λ _ _ h => h.1)); replace HJ := Hd hj; clear hj hk
 refine cA_ rfl ?_
 go_wp2_with (go_at_call 82; refine (FA _ _ _ _ _ HJ.out HN.out.1).mono ?_; rintro e wk ⟨rfl, hj, hk⟩; replace BX := Hd (BX.out.keeps hk (λ h => h.2 rfl)); replace HN := Hd (HN.out.keeps hk (λ x _ hs hg => HS x hs hg.1)); replace K := Hd (K.out.trans hk (λ _ _ h => h.1)); replace HJ := Hd hj; clear hj hk)
 refine ⟨.inr ⟨HJ.out.blk.cell 0, HJ.out.blk.cell 1, BX.out.cell 1, BX.out.cell 2, BX.out.cell 4, BX.out.cell 5, BX.out.cell 6, BX.out.cell 7⟩, ?_⟩
 refine cA_ rfl ?_
 go_wp2_with (go_at_call 83; refine (FB _ _ _ _ _ _ HJ.out HN.out.1).mono ?_; rintro e wk ⟨rfl, hj, hk⟩; replace BX := Hd (BX.out.keeps hk (λ h => h.2 rfl)); replace HN := Hd (HN.out.keeps hk (λ x _ hs hg => HS x hs hg.1)); replace K := Hd (K.out.trans hk (λ _ _ h => h.1)); replace HJ := Hd hj; clear hj hk)
 refine ⟨.inr ⟨HJ.out.blk.cell 0, HJ.out.blk.cell 1, BX.out.cell 1, BX.out.cell 2, BX.out.cell 4, BX.out.cell 5, BX.out.cell 6, BX.out.cell 7⟩, ?_⟩
 iterate 2
  refine cR_ (v := ?_) rfl ?_ ?_
  rotate_left
  ·intro W hW
   try (obtain ⟨h1, h2, h3, h4, h5, h6, h7, h8⟩ : _ /\ _ /\ _ /\ _ /\ _ /\ _ /\ _ /\ _ := hW)
   go_simp
   try rfl
  simp only [Act.put, sa_, sb_, sc_]
 refine wpCanon_nil ?_
 have r0 := HJ.out.blk.cell 0
 have r1 := HJ.out.blk.cell 1
 have rq := λ i => BX.out.cell i
 unfold pV at r0 r1
 go_wp2
 go_ret
 exact ⟨by simp, HJ.out.weaken (λ _ h => h.1), K.out⟩
set_option maxRecDepth 100000 in
theorem raw5J {S : Nat -> Prop} {kd a bb : Int} {wd : Nat} {ch : Bool} {c0 c1 c2 c3 c4 c5 : Value} {n : Nd} (h : J w G b p q A A) (hk : pk kd 9 = 5) (hkd : I64 kd) (ha : I64 a) (hbb : I64 bb) (huw : U64 wd) (hn : IsNd w S c0 c1 c2 c3 c4 c5 n) (hz : NdSm 0 n) (hS : ∀ x, S x -> ¬ G x) :
  Calls Tryz.prog 37 #[pV b, .agg #[.int .i64 kd, .int .i64 a, .int .i64 bb, .int .u64 wd, .bool ch, c0, c1, c2, c3, c4, c5]] w λ e w' => e = .returned (.bool true) /\ J w' G b p q ((opSetBody A (opId A a) n).2) ((opSetBody A (opId A a) n).2) /\ Keeps G w w' := by
 obtain ⟨X1, k1, e1, _, _⟩ := hn.1.high.form
 obtain ⟨X3, k3, e3, _, _⟩ := hn.2.keys.form
 obtain ⟨X4, k4, e4, _, _⟩ := hn.2.vals.form
 obtain ⟨X5, k5, e5, _, _⟩ := hn.2.kids.form
 have e0 := hn.1.lvl
 have e2 := hn.1.right
 unfold iV at e0 e2
 subst e0 e1 e2 e3 e4 e5
 have hlen := h.bound.1
 have HWS : Hid (∀ s ∈ A.sl, U64 s.word) := h.words
 have HH := Hd h
 have HN0 := Hd hn
 have HZ : Hid (NdSm 0 n) := hz
 have HAA : Hid (I64 a) := ha
 have HBB : Hid (I64 bb) := hbb
 have HUW : Hid (U64 wd) := huw
 have HS := hS
 have FI0 : ∀ wx G', J wx G' b p q A A -> Calls Tryz.prog 74 #[pV b, iV a] wx λ e w' => e = .returned (iV (opId A a)) /\ wx = w' := λ wx G' hj => idJ hj HAA.out hlen
 have FP0 := λ wx => pick_ (c := kd) (n := 9) wx hkd (by decide)
 rw [hk] at FP0
 clear h hn hz hS ha hbb huw hk hkd
 have FA := λ wx G' a0 a1 a2 (hj : J wx G' b p q A A) (hh : IsBd wx S a0 a1 a2 n) => hj.setBodyX (ix := opId A a) hh HZ.out
 have FB := λ wx G' A' a0 a1 a2 (hj : J wx G' b p q A' A) (hh : IsBd wx S a0 a1 a2 n) => hj.setBodyR (ix := opId A a) hh HZ.out
 generalize opSetBody A (opId A a) n = r at *
 obtain ⟨re, A1⟩ := r
 clear hlen
 generalize opId A a = ix at *
 unfold pV iV at *
 go_enter Tryz.func37, Tryz.ntmps37
 go_wp2_with fail
 refine calls_at (λ wa hw => ?_)
 obtain ⟨N, hN⟩ : ∃ N, w.heap.size = N := ⟨_, rfl⟩
 have hka : Keeps Nob w wa := by rw [hw]; exact Keeps.alloc _ _ _
 have BX : Hid (Blk wa N 95 #[.int .i64 kd, .int .i64 a, .int .i64 bb, .int .u64 wd, .bool ch, .int .i64 n.lvl, .slice X1 n.high.length k1, .int .i64 n.right, .slice X3 n.keys.length k3, .slice X4 n.vals.length k4, .slice X5 n.kids.length k5]) := by rw [hw, <- hN]; exact Blk.new _ _ _
 have hsz : wa.heap.size = N + 1 := by rw [hw, <- hN]; simp
 rw [hN]
 have HJ : Hid (J wa (λ x => G x /\ x ≠ N) b p q A A) := HH.out.enter hka (λ x hx hg => ⟨hg, by omega⟩) (λ x hx => ⟨HH.out.new x (by omega), by omega⟩)
 have HN := Hd (HN0.out.keeps hka (λ _ _ _ => id))
 have K : Hid (Keeps G w wa) := hka.mono (λ _ _ h => h.elim)
 clear hw hka hsz hN HH HN0
 refine (FI0 _ _ HJ.out).mono ?_
 rintro e w' ⟨rfl, rfl⟩
 have r0 := HJ.out.blk.cell 0
 have r1 := HJ.out.blk.cell 1
 have rq := λ i => BX.out.cell i
 unfold pV at r0 r1
 go_wp2_with fail
 clear r0 r1 rq
 refine (FP0 _).mono ?_
 rintro e w' ⟨rfl, rfl⟩
 clear FI0 FP0
 have r0 := HJ.out.blk.cell 0
 have r1 := HJ.out.blk.cell 1
 have rq := λ i => BX.out.cell i
 unfold pV at r0 r1
 go_wp2_with fail
 clear r0 r1 rq
 refine rC_ [0, 1, 2, 3, 4, 5, 6, 7, 9, 10, 11, 12, 13, 14, 15, 16, 8, 17, 18, 19] 20 (λ W => W.cell? ⟨b, 0, none⟩ = some (.pointer (some ⟨p, 0, none⟩)) /\ W.cell? ⟨b, 1, none⟩ = some (.pointer (some ⟨q, 0, none⟩)) /\ W.cell? ⟨N, 1, none⟩ = some (.int .i64 a) /\ W.cell? ⟨N, 2, none⟩ = some (.int .i64 bb) /\ W.cell? ⟨N, 4, none⟩ = some (.bool ch) /\ W.cell? ⟨N, 8, none⟩ = some (.slice X3 n.keys.length k3) /\ W.cell? ⟨N, 9, none⟩ = some (.slice X4 n.vals.length k4) /\ W.cell? ⟨N, 10, none⟩ = some (.slice X5 n.kids.length k5)) ?_ ?_
 ·exact ⟨HJ.out.blk.cell 0, HJ.out.blk.cell 1, BX.out.cell 1, BX.out.cell 2, BX.out.cell 4, BX.out.cell 8, BX.out.cell 9, BX.out.cell 10⟩
 iterate 16
  refine cR_ (v := ?_) rfl ?_ ?_
  rotate_left
  ·intro W hW
   try (obtain ⟨h1, h2, h3, h4, h5, h6, h7, h8⟩ : _ /\ _ /\ _ /\ _ /\ _ /\ _ /\ _ /\ _ := hW)
   go_simp
   try rfl
  simp only [Act.put, sa_, sb_, sc_]
 obtain ⟨hj, hk⟩ := HJ.out.drewJ
 replace BX := Hd (BX.out.keeps hk (λ h => h.2 rfl)); replace HN := Hd (HN.out.keeps hk (λ x _ hs hg => HS x hs hg.1)); replace K := Hd (K.out.trans hk (λ _ _ h => h.1)); replace HJ := Hd hj; clear hj hk
 refine cA_ rfl ?_
 go_wp2_with (go_at_call 32; refine (FA _ _ _ _ _ HJ.out HN.out.2).mono ?_; rintro e wk ⟨rfl, hj, hk⟩; replace BX := Hd (BX.out.keeps hk (λ h => h.2 rfl)); replace HN := Hd (HN.out.keeps hk (λ x _ hs hg => HS x hs hg.1)); replace K := Hd (K.out.trans hk (λ _ _ h => h.1)); replace HJ := Hd hj; clear hj hk)
 refine ⟨.inr ⟨HJ.out.blk.cell 0, HJ.out.blk.cell 1, BX.out.cell 1, BX.out.cell 2, BX.out.cell 4, BX.out.cell 8, BX.out.cell 9, BX.out.cell 10⟩, ?_⟩
 refine cA_ rfl ?_
 go_wp2_with (go_at_call 84; refine (FB _ _ _ _ _ _ HJ.out HN.out.2).mono ?_; rintro e wk ⟨rfl, hj, hk⟩; replace BX := Hd (BX.out.keeps hk (λ h => h.2 rfl)); replace HN := Hd (HN.out.keeps hk (λ x _ hs hg => HS x hs hg.1)); replace K := Hd (K.out.trans hk (λ _ _ h => h.1)); replace HJ := Hd hj; clear hj hk)
 refine ⟨.inr ⟨HJ.out.blk.cell 0, HJ.out.blk.cell 1, BX.out.cell 1, BX.out.cell 2, BX.out.cell 4, BX.out.cell 8, BX.out.cell 9, BX.out.cell 10⟩, ?_⟩
 iterate 2
  refine cR_ (v := ?_) rfl ?_ ?_
  rotate_left
  ·intro W hW
   try (obtain ⟨h1, h2, h3, h4, h5, h6, h7, h8⟩ : _ /\ _ /\ _ /\ _ /\ _ /\ _ /\ _ /\ _ := hW)
   go_simp
   try rfl
  simp only [Act.put, sa_, sb_, sc_]
 refine wpCanon_nil ?_
 have r0 := HJ.out.blk.cell 0
 have r1 := HJ.out.blk.cell 1
 have rq := λ i => BX.out.cell i
 unfold pV at r0 r1
 go_wp2
 go_ret
 exact ⟨by simp, HJ.out.weaken (λ _ h => h.1), K.out⟩
end
end Go.Proofs.YtbhohohgojcapaaGreat
