import Derived.Test.YtbhohohgojcapaaGreatPkB0
import Derived.Test.YtbhohohgojcapaaGreatPkB1
import Derived.Test.YtbhohohgojcapaaGreatPkB2
import Derived.Test.YtbhohohgojcapaaGreatPkA6
set_option maxHeartbeats 64000000
namespace Go.Proofs.YtbhohohgojcapaaGreat
open Go.RowKit
section
variable {w : World} {G : Nat -> Prop} {b p q : Nat} {A B : Ar} {ix : Int}
set_option maxRecDepth 100000 in
theorem raw6J {S : Nat -> Prop} {kd a bb : Int} {wd : Nat} {ch : Bool} {c0 c1 c2 c3 c4 c5 : Value} {n : Nd} (h : J w G b p q A A) (hk : pk kd 9 = 6) (hkd : I64 kd) (ha : I64 a) (hbb : I64 bb) (huw : U64 wd) (hn : IsNd w S c0 c1 c2 c3 c4 c5 n) (hz : NdSm 0 n) (hS : ∀ x, S x -> ¬ G x) :
  Calls Tryz.prog 37 #[pV b, .agg #[.int .i64 kd, .int .i64 a, .int .i64 bb, .int .u64 wd, .bool ch, c0, c1, c2, c3, c4, c5]] w λ e w' => e = .returned (.bool true) /\ J w' G b p q ((opGrow A (opId A a) (opId A bb)).2.2) ((opGrow A (opId A a) (opId A bb)).2.2) /\ Keeps G w w' := by
 obtain ⟨X1, k1, e1, _, _⟩ := hn.1.high.form
 obtain ⟨X3, k3, e3, _, _⟩ := hn.2.keys.form
 obtain ⟨X4, k4, e4, _, _⟩ := hn.2.vals.form
 obtain ⟨X5, k5, e5, _, _⟩ := hn.2.kids.form
 have e0 := hn.1.lvl
 have e2 := hn.1.right
 unfold iV at e0 e2
 subst e0 e1 e2 e3 e4 e5
 have hlen := h.bound.1
 have HWS : Hid (∀ s ∈ A.sl, U64 s.word) := h.words
 have HH := Hd h
 have HN0 := Hd hn
 have HZ : Hid (NdSm 0 n) := hz
 have HAA : Hid (I64 a) := ha
 have HBB : Hid (I64 bb) := hbb
 have HUW : Hid (U64 wd) := huw
 have HS := hS
 have FI0 : ∀ wx G', J wx G' b p q A A -> Calls Tryz.prog 74 #[pV b, iV a] wx λ e w' => e = .returned (iV (opId A a)) /\ wx = w' := λ wx G' hj => idJ hj HAA.out hlen
 have FP0 := λ wx => pick_ (c := kd) (n := 9) wx hkd (by decide)
 rw [hk] at FP0
 clear h hn hz hS ha hbb huw hk hkd
 have FI := λ wx G' (hj : J wx G' b p q A A) => idJ hj HBB.out hlen
 have FA := λ wx G' (hj : J wx G' b p q A A) => hj.growX (o := opId A a) (ix := opId A bb)
 have FB := λ wx G' A' (hj : J wx G' b p q A' A) => hj.growR (o := opId A a) (ix := opId A bb)
 have FI2 : ∀ wx G', J wx G' b p q A A -> Calls Tryz.prog 74 #[pV b, iV bb] wx λ e w' => e = .returned (iV (opId A bb)) /\ wx = w' := FI
 clear FI
 generalize opGrow A (opId A a) (opId A bb) = r at *
 obtain ⟨rb, re, A1⟩ := r
 generalize opId A bb = to at *
 clear hlen
 generalize opId A a = ix at *
 unfold pV iV at *
 go_enter Tryz.func37, Tryz.ntmps37
 go_wp2_with fail
 refine calls_at (λ wa hw => ?_)
 obtain ⟨N, hN⟩ : ∃ N, w.heap.size = N := ⟨_, rfl⟩
 have hka : Keeps Nob w wa := by rw [hw]; exact Keeps.alloc _ _ _
 have BX : Hid (Blk wa N 95 #[.int .i64 kd, .int .i64 a, .int .i64 bb, .int .u64 wd, .bool ch, .int .i64 n.lvl, .slice X1 n.high.length k1, .int .i64 n.right, .slice X3 n.keys.length k3, .slice X4 n.vals.length k4, .slice X5 n.kids.length k5]) := by rw [hw, <- hN]; exact Blk.new _ _ _
 have hsz : wa.heap.size = N + 1 := by rw [hw, <- hN]; simp
 rw [hN]
 have HJ : Hid (J wa (λ x => G x /\ x ≠ N) b p q A A) := HH.out.enter hka (λ x hx hg => ⟨hg, by omega⟩) (λ x hx => ⟨HH.out.new x (by omega), by omega⟩)
 have HN := Hd (HN0.out.keeps hka (λ _ _ _ => id))
 have K : Hid (Keeps G w wa) := hka.mono (λ _ _ h => h.elim)
 clear hw hka hsz hN HH HN0
 refine (FI0 _ _ HJ.out).mono ?_
 rintro e w' ⟨rfl, rfl⟩
 have r0 := HJ.out.blk.cell 0
 have r1 := HJ.out.blk.cell 1
 have rq := λ i => BX.out.cell i
 unfold pV at r0 r1
 go_wp2_with fail
 clear r0 r1 rq
 refine (FP0 _).mono ?_
 rintro e w' ⟨rfl, rfl⟩
 clear FI0 FP0
 have r0 := HJ.out.blk.cell 0
 have r1 := HJ.out.blk.cell 1
 have rq := λ i => BX.out.cell i
 unfold pV at r0 r1
 go_wp2_with fail
 clear r0 r1 rq
 refine (FI2 _ _ HJ.out).mono ?_
 rintro e w' ⟨rfl, rfl⟩
 have r0 := HJ.out.blk.cell 0
 have r1 := HJ.out.blk.cell 1
 have rq := λ i => BX.out.cell i
 unfold pV at r0 r1
 go_wp2_with fail
 clear r0 r1 rq
 refine (FA _ _ HJ.out).mono ?_
 rintro e wk ⟨rfl, hj, hk⟩
 replace BX := Hd (BX.out.keeps hk (λ h => h.2 rfl)); replace HN := Hd (HN.out.keeps hk (λ x _ hs hg => HS x hs hg.1)); replace K := Hd (K.out.trans hk (λ _ _ h => h.1)); replace HJ := Hd hj; clear hj hk
 have r0 := HJ.out.blk.cell 0
 have r1 := HJ.out.blk.cell 1
 have rq := λ i => BX.out.cell i
 unfold pV at r0 r1
 go_wp2_with fail
 clear r0 r1 rq
 refine (FB _ _ _ HJ.out).mono ?_
 rintro e wk ⟨rfl, hj, hk⟩
 replace BX := Hd (BX.out.keeps hk (λ h => h.2 rfl)); replace HN := Hd (HN.out.keeps hk (λ x _ hs hg => HS x hs hg.1)); replace K := Hd (K.out.trans hk (λ _ _ h => h.1)); replace HJ := Hd hj; clear hj hk
 have r0 := HJ.out.blk.cell 0
 have r1 := HJ.out.blk.cell 1
 have rq := λ i => BX.out.cell i
 unfold pV at r0 r1
 go_wp2
 go_ret
 exact ⟨by simp, HJ.out.weaken (λ _ h => h.1), K.out⟩
set_option maxRecDepth 100000 in
theorem raw7J {S : Nat -> Prop} {kd a bb : Int} {wd : Nat} {ch : Bool} {c0 c1 c2 c3 c4 c5 : Value} {n : Nd} (h : J w G b p q A A) (hk : pk kd 9 = 7) (hkd : I64 kd) (ha : I64 a) (hbb : I64 bb) (huw : U64 wd) (hn : IsNd w S c0 c1 c2 c3 c4 c5 n) (hz : NdSm 0 n) (hS : ∀ x, S x -> ¬ G x) :
  Calls Tryz.prog 37 #[pV b, .agg #[.int .i64 kd, .int .i64 a, .int .i64 bb, .int .u64 wd, .bool ch, c0, c1, c2, c3, c4, c5]] w λ e w' => e = .returned (.bool true) /\ J w' G b p q (opLay A (1 + pk a ((A.sl.length : Int) + 1)) n) (opLay A (1 + pk a ((A.sl.length : Int) + 1)) n) /\ Keeps G w w' := by
 obtain ⟨X1, k1, e1, _, _⟩ := hn.1.high.form
 obtain ⟨X3, k3, e3, _, _⟩ := hn.2.keys.form
 obtain ⟨X4, k4, e4, _, _⟩ := hn.2.vals.form
 obtain ⟨X5, k5, e5, _, _⟩ := hn.2.kids.form
 have e0 := hn.1.lvl
 have e2 := hn.1.right
 unfold iV at e0 e2
 subst e0 e1 e2 e3 e4 e5
 have hlen := h.bound.1
 have HWS : Hid (∀ s ∈ A.sl, U64 s.word) := h.words
 have HH := Hd h
 have HN0 := Hd hn
 have HZ : Hid (NdSm 0 n) := hz
 have HAA : Hid (I64 a) := ha
 have HBB : Hid (I64 bb) := hbb
 have HUW : Hid (U64 wd) := huw
 have HS := hS
 have FI0 : ∀ wx G', J wx G' b p q A A -> Calls Tryz.prog 74 #[pV b, iV a] wx λ e w' => e = .returned (iV (opId A a)) /\ wx = w' := λ wx G' hj => idJ hj HAA.out hlen
 have FP0 := λ wx => pick_ (c := kd) (n := 9) wx hkd (by decide)
 rw [hk] at FP0
 clear h hn hz hS ha hbb huw hk hkd
 have FP := λ wx => pick_ (c := a) (n := (A.sl.length : Int) + 1) wx HAA.out (by omega)
 obtain ⟨hp1, hp2⟩ := pk_range a ((A.sl.length : Int) + 1) (by omega)
 have FL := λ wx G' a0 a1 a2 a3 a4 a5 (hj : J wx G' b p q A A) (hh : IsNd wx S a0 a1 a2 a3 a4 a5 n) (hs : ∀ x, S x -> ¬ G' x) => layJ (ix := 1 + pk a ((A.sl.length : Int) + 1)) hj HWS.out hh HZ.out hs
 have FU := λ wx G' (hj : J wx G' b p q A A) => hj.usedR
 have hle : (A.sl.length : Int) <= 65536 := by omega
 generalize pk a ((A.sl.length : Int) + 1) = pa at *
 generalize opLay A (1 + pa) n = A1 at *
 generalize (A.sl.length : Int) = len at *
 clear HWS
 clear hlen
 generalize opId A a = ix at *
 unfold pV iV at *
 go_enter Tryz.func37, Tryz.ntmps37
 go_wp2_with fail
 refine calls_at (λ wa hw => ?_)
 obtain ⟨N, hN⟩ : ∃ N, w.heap.size = N := ⟨_, rfl⟩
 have hka : Keeps Nob w wa := by rw [hw]; exact Keeps.alloc _ _ _
 have BX : Hid (Blk wa N 95 #[.int .i64 kd, .int .i64 a, .int .i64 bb, .int .u64 wd, .bool ch, .int .i64 n.lvl, .slice X1 n.high.length k1, .int .i64 n.right, .slice X3 n.keys.length k3, .slice X4 n.vals.length k4, .slice X5 n.kids.length k5]) := by rw [hw, <- hN]; exact Blk.new _ _ _
 have hsz : wa.heap.size = N + 1 := by rw [hw, <- hN]; simp
 rw [hN]
 have HJ : Hid (J wa (λ x => G x /\ x ≠ N) b p q A A) := HH.out.enter hka (λ x hx hg => ⟨hg, by omega⟩) (λ x hx => ⟨HH.out.new x (by omega), by omega⟩)
 have HN := Hd (HN0.out.keeps hka (λ _ _ _ => id))
 have K : Hid (Keeps G w wa) := hka.mono (λ _ _ h => h.elim)
 clear hw hka hsz hN HH HN0
 refine (FI0 _ _ HJ.out).mono ?_
 rintro e w' ⟨rfl, rfl⟩
 have r0 := HJ.out.blk.cell 0
 have r1 := HJ.out.blk.cell 1
 have rq := λ i => BX.out.cell i
 unfold pV at r0 r1
 go_wp2_with fail
 clear r0 r1 rq
 refine (FP0 _).mono ?_
 rintro e w' ⟨rfl, rfl⟩
 clear FI0 FP0
 have r0 := HJ.out.blk.cell 0
 have r1 := HJ.out.blk.cell 1
 have rq := λ i => BX.out.cell i
 unfold pV at r0 r1
 go_wp2_with fail
 clear r0 r1 rq
 refine rC_ [0, 1, 2, 3, 4, 5, 6, 11, 12, 7, 8, 9, 10, 13, 14] 15 (λ W => W.cell? ⟨b, 1, none⟩ = some (.pointer (some ⟨q, 0, none⟩)) /\ W.cell? ⟨N, 1, none⟩ = some (.int .i64 a) /\ W.cell? ⟨N, 5, none⟩ = some (.int .i64 n.lvl) /\ W.cell? ⟨N, 6, none⟩ = some (.slice X1 n.high.length k1) /\ W.cell? ⟨N, 7, none⟩ = some (.int .i64 n.right) /\ W.cell? ⟨N, 8, none⟩ = some (.slice X3 n.keys.length k3) /\ W.cell? ⟨N, 9, none⟩ = some (.slice X4 n.vals.length k4) /\ W.cell? ⟨N, 10, none⟩ = some (.slice X5 n.kids.length k5)) ?_ ?_
 ·exact ⟨HJ.out.blk.cell 1, BX.out.cell 1, BX.out.cell 5, BX.out.cell 6, BX.out.cell 7, BX.out.cell 8, BX.out.cell 9, BX.out.cell 10⟩
 iterate 9
  refine cR_ (v := ?_) rfl ?_ ?_
  rotate_left
  ·intro W hW
   try (obtain ⟨h1, h2, h3, h4, h5, h6, h7, h8⟩ : _ /\ _ /\ _ /\ _ /\ _ /\ _ /\ _ /\ _ := hW)
   go_simp
   try rfl
  simp only [Act.put, sa_, sb_, sc_]
 obtain ⟨hj, hk⟩ := HJ.out.drewJ
 replace BX := Hd (BX.out.keeps hk (λ h => h.2 rfl)); replace HN := Hd (HN.out.keeps hk (λ x _ hs hg => HS x hs hg.1)); replace K := Hd (K.out.trans hk (λ _ _ h => h.1)); replace HJ := Hd hj; clear hj hk
 refine cA_ rfl ?_
 go_wp2_with (go_at_call 16; refine (FU _ _ HJ.out).mono ?_; rintro e wk ⟨rfl, rfl⟩)
 refine ⟨.inr ⟨HJ.out.blk.cell 1, BX.out.cell 1, BX.out.cell 5, BX.out.cell 6, BX.out.cell 7, BX.out.cell 8, BX.out.cell 9, BX.out.cell 10⟩, ?_⟩
 iterate 1
  refine cR_ (v := ?_) rfl ?_ ?_
  rotate_left
  ·intro W hW
   try (obtain ⟨h1, h2, h3, h4, h5, h6, h7, h8⟩ : _ /\ _ /\ _ /\ _ /\ _ /\ _ /\ _ /\ _ := hW)
   go_simp
   try rfl
  simp only [Act.put, sa_, sb_, sc_]
 refine cA_ rfl ?_
 go_wp2_with (go_at_call 75; refine (FP _).mono ?_; rintro e wk ⟨rfl, rfl⟩)
 refine ⟨.inr ⟨HJ.out.blk.cell 1, BX.out.cell 1, BX.out.cell 5, BX.out.cell 6, BX.out.cell 7, BX.out.cell 8, BX.out.cell 9, BX.out.cell 10⟩, ?_⟩
 iterate 1
  refine cR_ (v := ?_) rfl ?_ ?_
  rotate_left
  ·intro W hW
   try (obtain ⟨h1, h2, h3, h4, h5, h6, h7, h8⟩ : _ /\ _ /\ _ /\ _ /\ _ /\ _ /\ _ /\ _ := hW)
   go_simp
   try rfl
  simp only [Act.put, sa_, sb_, sc_]
 refine cA_ rfl ?_
 go_wp2_with (go_at_call 87; refine (FL _ _ _ _ _ _ _ _ HJ.out HN.out (λ x hs hg => HS x hs hg.1)).mono ?_; rintro e wk ⟨rfl, hj, hk⟩; replace BX := Hd (BX.out.keeps hk (λ h => h.2 rfl)); replace HN := Hd (HN.out.keeps hk (λ x _ hs hg => HS x hs hg.1)); replace K := Hd (K.out.trans hk (λ _ _ h => h.1)); replace HJ := Hd hj; clear hj hk)
 refine ⟨.inr ⟨HJ.out.blk.cell 1, BX.out.cell 1, BX.out.cell 5, BX.out.cell 6, BX.out.cell 7, BX.out.cell 8, BX.out.cell 9, BX.out.cell 10⟩, ?_⟩
 iterate 1
  refine cR_ (v := ?_) rfl ?_ ?_
  rotate_left
  ·intro W hW
   try (obtain ⟨h1, h2, h3, h4, h5, h6, h7, h8⟩ : _ /\ _ /\ _ /\ _ /\ _ /\ _ /\ _ /\ _ := hW)
   go_simp
   try rfl
  simp only [Act.put, sa_, sb_, sc_]
 refine wpCanon_nil ?_
 have r0 := HJ.out.blk.cell 0
 have r1 := HJ.out.blk.cell 1
 have rq := λ i => BX.out.cell i
 unfold pV at r0 r1
 go_wp2
 go_ret
 exact ⟨by simp, HJ.out.weaken (λ _ h => h.1), K.out⟩
set_option maxRecDepth 100000 in
theorem raw8J {S : Nat -> Prop} {kd a bb : Int} {wd : Nat} {ch : Bool} {c0 c1 c2 c3 c4 c5 : Value} {n : Nd} (h : J w G b p q A A) (hk : pk kd 9 = 8) (hkd : I64 kd) (ha : I64 a) (hbb : I64 bb) (huw : U64 wd) (hn : IsNd w S c0 c1 c2 c3 c4 c5 n) (hz : NdSm 0 n) (hS : ∀ x, S x -> ¬ G x) :
  Calls Tryz.prog 37 #[pV b, .agg #[.int .i64 kd, .int .i64 a, .int .i64 bb, .int .u64 wd, .bool ch, c0, c1, c2, c3, c4, c5]] w λ e w' => e = .returned (.bool true) /\ J w' G b p q ((opLock A (opId A a) wd).2.2) ((opLock A (opId A a) wd).2.2) /\ Keeps G w w' := by
 obtain ⟨X1, k1, e1, _, _⟩ := hn.1.high.form
 obtain ⟨X3, k3, e3, _, _⟩ := hn.2.keys.form
 obtain ⟨X4, k4, e4, _, _⟩ := hn.2.vals.form
 obtain ⟨X5, k5, e5, _, _⟩ := hn.2.kids.form
 have e0 := hn.1.lvl
 have e2 := hn.1.right
 unfold iV at e0 e2
 subst e0 e1 e2 e3 e4 e5
 have hlen := h.bound.1
 have HWS : Hid (∀ s ∈ A.sl, U64 s.word) := h.words
 have HH := Hd h
 have HN0 := Hd hn
 have HZ : Hid (NdSm 0 n) := hz
 have HAA : Hid (I64 a) := ha
 have HBB : Hid (I64 bb) := hbb
 have HUW : Hid (U64 wd) := huw
 have HS := hS
 have FI0 : ∀ wx G', J wx G' b p q A A -> Calls Tryz.prog 74 #[pV b, iV a] wx λ e w' => e = .returned (iV (opId A a)) /\ wx = w' := λ wx G' hj => idJ hj HAA.out hlen
 have FP0 := λ wx => pick_ (c := kd) (n := 9) wx hkd (by decide)
 rw [hk] at FP0
 clear h hn hz hS ha hbb huw hk hkd
 have FB := λ wx G' (hj : J wx G' b p q A A) => lockJ (ix := opId A a) hj HUW.out
 generalize (opLock A (opId A a) wd).2.2 = A1 at *
 clear hlen
 generalize opId A a = ix at *
 unfold pV iV at *
 go_enter Tryz.func37, Tryz.ntmps37
 go_wp2_with fail
 refine calls_at (λ wa hw => ?_)
 obtain ⟨N, hN⟩ : ∃ N, w.heap.size = N := ⟨_, rfl⟩
 have hka : Keeps Nob w wa := by rw [hw]; exact Keeps.alloc _ _ _
 have BX : Hid (Blk wa N 95 #[.int .i64 kd, .int .i64 a, .int .i64 bb, .int .u64 wd, .bool ch, .int .i64 n.lvl, .slice X1 n.high.length k1, .int .i64 n.right, .slice X3 n.keys.length k3, .slice X4 n.vals.length k4, .slice X5 n.kids.length k5]) := by rw [hw, <- hN]; exact Blk.new _ _ _
 have hsz : wa.heap.size = N + 1 := by rw [hw, <- hN]; simp
 rw [hN]
 have HJ : Hid (J wa (λ x => G x /\ x ≠ N) b p q A A) := HH.out.enter hka (λ x hx hg => ⟨hg, by omega⟩) (λ x hx => ⟨HH.out.new x (by omega), by omega⟩)
 have HN := Hd (HN0.out.keeps hka (λ _ _ _ => id))
 have K : Hid (Keeps G w wa) := hka.mono (λ _ _ h => h.elim)
 clear hw hka hsz hN HH HN0
 refine (FI0 _ _ HJ.out).mono ?_
 rintro e w' ⟨rfl, rfl⟩
 have r0 := HJ.out.blk.cell 0
 have r1 := HJ.out.blk.cell 1
 have rq := λ i => BX.out.cell i
 unfold pV at r0 r1
 go_wp2_with fail
 clear r0 r1 rq
 refine (FP0 _).mono ?_
 rintro e w' ⟨rfl, rfl⟩
 clear FI0 FP0
 have r0 := HJ.out.blk.cell 0
 have r1 := HJ.out.blk.cell 1
 have rq := λ i => BX.out.cell i
 unfold pV at r0 r1
 go_wp2_with fail
 clear r0 r1 rq
 refine (FB _ _ HJ.out).mono ?_
 rintro e wk ⟨rfl, hj, hk⟩
 replace BX := Hd (BX.out.keeps hk (λ h => h.2 rfl)); replace HN := Hd (HN.out.keeps hk (λ x _ hs hg => HS x hs hg.1)); replace K := Hd (K.out.trans hk (λ _ _ h => h.1)); replace HJ := Hd hj; clear hj hk
 have r0 := HJ.out.blk.cell 0
 have r1 := HJ.out.blk.cell 1
 have rq := λ i => BX.out.cell i
 unfold pV at r0 r1
 go_wp2
 go_ret
 exact ⟨by simp, HJ.out.weaken (λ _ h => h.1), K.out⟩
end
end Go.Proofs.YtbhohohgojcapaaGreat

namespace Go.Proofs.YtbhohohgojcapaaGreat
open Go.RowKit
section
variable {w : World} {G : Nat -> Prop} {b p q : Nat} {A B : Ar} {ix : Int}
theorem rawJ {S : Nat -> Prop} {cs : Array Value} {o : OpM} (h : J w G b p q A A) (ho : IsOp w S cs o) (hS : ∀ x, S x -> ¬ G x) :
  Calls Tryz.prog 37 #[pV b, .agg cs] w λ e w' => e = .returned (.bool true) /\ J w' G b p q (step A o) (step A o) /\ Keeps G w w' := by
 obtain ⟨⟨c0, c1, c2, c3, c4, c5, rfl, hn⟩, h1, h2, h3, h4, h5⟩ := ho
 obtain ⟨r1, r2⟩ := pk_range o.kd 9 (by decide)
 unfold step
 by_cases k0 : pk o.kd 9 = 0
 ·rw [if_pos k0]; exact raw0J h k0 h1 h2 h3 h4 hn h5 hS
 rw [if_neg k0]
 by_cases k1 : pk o.kd 9 = 1
 ·rw [if_pos k1]; exact raw1J h k1 h1 h2 h3 h4 hn h5 hS
 rw [if_neg k1]
 by_cases k2 : pk o.kd 9 = 2
 ·rw [if_pos k2]; exact raw2J h k2 h1 h2 h3 h4 hn h5 hS
 rw [if_neg k2]
 by_cases k3 : pk o.kd 9 = 3
 ·rw [if_pos k3]; exact raw3J h k3 h1 h2 h3 h4 hn h5 hS
 rw [if_neg k3]
 by_cases k4 : pk o.kd 9 = 4
 ·rw [if_pos k4]; exact raw4J h k4 h1 h2 h3 h4 hn h5 hS
 rw [if_neg k4]
 by_cases k5 : pk o.kd 9 = 5
 ·rw [if_pos k5]; exact raw5J h k5 h1 h2 h3 h4 hn h5 hS
 rw [if_neg k5]
 by_cases k6 : pk o.kd 9 = 6
 ·rw [if_pos k6]; exact raw6J h k6 h1 h2 h3 h4 hn h5 hS
 rw [if_neg k6]
 by_cases k7 : pk o.kd 9 = 7
 ·rw [if_pos k7]; exact raw7J h k7 h1 h2 h3 h4 hn h5 hS
 rw [if_neg k7]
 exact raw8J h (by omega) h1 h2 h3 h4 hn h5 hS
end
end Go.Proofs.YtbhohohgojcapaaGreat
namespace Go.Proofs.YtbhohohgojcapaaGreat
open Go.RowKit
theorem add_far (a : Addr) (i j : Nat) (hj : j ≠ 0) : a.add (i + j) = ⟨(a.add i).block, (a.add i).off + j, none⟩ := by
 rw [<- add_add_]
 generalize a.add i = b
 unfold Addr.add
 rw [if_neg hj]
section
variable {w w' : World} {lo : Nat} {v : Value} {os : List OpM} {G : Nat -> Prop}
end
end Go.Proofs.YtbhohohgojcapaaGreat
namespace Go.Proofs.YtbhohohgojcapaaGreat
open Go.RowKit
def RowAt {α : Type} (k m : Nat) (R : World -> Nat -> Array Value -> α -> Prop) (w : World) (lo : Nat) (v : Value) (os : List α) : Prop :=
 ∃ A c, v = .slice A os.length c /\ os.length <= c /\ c <= maxLen /\ os.length * m <= 140737488355328 /\ (os ≠ [] -> ∃ ad, A = some ad /\ ad.block < lo /\ ∀ (i : Nat) o, os[i]? = some o -> ∃ cs : Array Value, R w lo cs o /\ ∀ (j : Nat) x, cs[j]? = some x -> w.cell? (ad.add (i * k + j)) = some x)
def sub_ (a : Addr) : Nat -> Addr
 | 0 => a
 | j + 1 => ⟨a.block, a.off + (j + 1), none⟩
section
variable {α : Type} {k m : Nat} {R : World -> Nat -> Array Value -> α -> Prop} {w w' : World} {lo : Nat} {v : Value} {os : List α} {G : Nat -> Prop}
theorem RowAt.at_ {A : Option Addr} {n c i : Nat} {o : α} (h : RowAt k m R w lo (.slice A n c) os) (hi : os[i]? = some o) : ∃ ad cs, A = some ad /\ ad.block < lo /\ R w lo cs o /\ ∀ (j : Nat) x, cs[j]? = some x -> w.cell? (sub_ (ad.add (i * k)) j) = some x := by
 obtain ⟨A', c', e, _, _, _, h⟩ := h
 injection e with e1 _ _
 subst e1
 obtain ⟨ad, ea, hlo, hc⟩ := h (by intro e; subst e; simp at hi)
 obtain ⟨cs, ho, hcs⟩ := hc i o hi
 refine ⟨ad, cs, ea, hlo, ho, λ j x hx => ?_⟩
 have := hcs j x hx
 cases j with
 | zero => exact this
 | succ j => rw [add_far _ _ _ (by omega)] at this; exact this
end
end Go.Proofs.YtbhohohgojcapaaGreat
