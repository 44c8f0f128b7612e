import Derived.Test.YtbhohohgojcapaaPkE1
namespace Go.Proofs.Ytbhohohgojcapaa
open Go.RowKit

theorem check9 : checkM (ar0 9) 9 2 3 2 4 = ⟨true, 0, 0, 1, 1, 0⟩ := by decide
set_option maxRecDepth 100000 in
set_option maxHeartbeats 64000000 in
theorem head11 (w : World) : Calls Try.prog 30 #[] w fun e w' => e = .returned (.bool true) ∧ Keeps Nob w w' := by
  have hsm : ∀ s ∈ (ar0 9).sl, NdSm 0 s.nd := fun s hs => by have h : s = ⟨0, Nd.zero⟩ := (by simpa [ar0] using hs); rw [h]; exact sm_zero
  have hkw : ∀ s ∈ (ar0 9).sl, ∀ k ∈ s.nd.kids, K64 k := fun s hs k hk => by have h : s = ⟨0, Nd.zero⟩ := (by simpa [ar0] using hs); rw [h] at hk; simp [Nd.zero] at hk
  have FN := fun w => new_ok (n := 9) w (by decide) (by decide)
  have FC := fun (wx : World) (p : Nat) M D s i (h : ArW wx M D p s i (ar0 9)) => pcheckR (a0 := 9) (a1 := 2) (a2 := 3) (a3 := 2) (a4 := 4) h hsm hkw
  have FP := fun (wx : World) (p : Nat) M D s i (h : ArW wx M D p s i (ar0 9)) => ppacked9 h
  rw [check9] at FC
  unfold pV at FN FC FP
  unfold iV at FN
  unfold rpV at FC
  simp only at FC
  clear hsm hkw
  go_enter Try.func30, Try.ntmps30
  have f0 := ((Blk.new w 69 #[.int .i64 0, .int .i64 0, .int .i64 0, .int .i64 0, .int .i64 0])).frozen 0
  have z0 := ((Blk.new w 69 #[.int .i64 0, .int .i64 0, .int .i64 0, .int .i64 0, .int .i64 0])).cell 0
  have f1 := fun (v0 : Value) => (((Blk.new w 69 #[.int .i64 0, .int .i64 0, .int .i64 0, .int .i64 0, .int .i64 0])).set_ 0 v0).frozen 1
  have z1 := fun (v0 : Value) => (((Blk.new w 69 #[.int .i64 0, .int .i64 0, .int .i64 0, .int .i64 0, .int .i64 0])).set_ 0 v0).cell 1
  have f2 := fun (v0 v1 : Value) => ((((Blk.new w 69 #[.int .i64 0, .int .i64 0, .int .i64 0, .int .i64 0, .int .i64 0])).set_ 0 v0).set_ 1 v1).frozen 2
  have z2 := fun (v0 v1 : Value) => ((((Blk.new w 69 #[.int .i64 0, .int .i64 0, .int .i64 0, .int .i64 0, .int .i64 0])).set_ 0 v0).set_ 1 v1).cell 2
  have f3 := fun (v0 v1 v2 : Value) => (((((Blk.new w 69 #[.int .i64 0, .int .i64 0, .int .i64 0, .int .i64 0, .int .i64 0])).set_ 0 v0).set_ 1 v1).set_ 2 v2).frozen 3
  have z3 := fun (v0 v1 v2 : Value) => (((((Blk.new w 69 #[.int .i64 0, .int .i64 0, .int .i64 0, .int .i64 0, .int .i64 0])).set_ 0 v0).set_ 1 v1).set_ 2 v2).cell 3
  have f4 := fun (v0 v1 v2 v3 : Value) => ((((((Blk.new w 69 #[.int .i64 0, .int .i64 0, .int .i64 0, .int .i64 0, .int .i64 0])).set_ 0 v0).set_ 1 v1).set_ 2 v2).set_ 3 v3).frozen 4
  have z4 := fun (v0 v1 v2 v3 : Value) => ((((((Blk.new w 69 #[.int .i64 0, .int .i64 0, .int .i64 0, .int .i64 0, .int .i64 0])).set_ 0 v0).set_ 1 v1).set_ 2 v2).set_ 3 v3).cell 4
  go_wp2_with fail
  clear f0 z0 f1 z1 f2 z2 f3 z3 f4 z4
  obtain ⟨P1, hP⟩ : ∃ N, w.heap.size = N := ⟨_, rfl⟩
  rw [hP]
  refine calls_at (fun w1 hw => ?_)
  have HB : Hid (Blk w1 P1 69 #[.int .i64 9, .int .i64 2, .int .i64 3, .int .i64 2, .int .i64 4]) := by rw [hw, ← hP]; exact Lib.hid (Blk.new _ _ _)
  have K : Hid (Keeps Nob w w1) := by rw [hw]; exact Lib.hid (Keeps.alloc _ _ _)
  clear hw hP
  refine (FN _).mono ?_
  rintro e w2 ⟨rfl, hX, hk⟩
  obtain ⟨slots, ids, hX⟩ := hX
  obtain ⟨P, hP⟩ : ∃ P, w1.heap.size + 2 = P := ⟨_, rfl⟩
  rw [hP] at hX ⊢
  have HX := Lib.hid hX
  replace HB := Lib.hid (HB.out.keeps hk (fun h => h))
  replace K := Lib.hid (K.out.trans hk (fun _ _ h => h))
  clear hk hX hP FN
  have c0 := HB.out.cell 0
  have c1 := HB.out.cell 1
  have c2 := HB.out.cell 2
  have c3 := HB.out.cell 3
  have c4 := HB.out.cell 4
  go_wp2_with fail
  clear c0 c1 c2 c3 c4
  refine (FC _ _ _ _ _ _ HX.out).mono ?_
  rintro e w3 ⟨rfl, hk⟩
  replace HX := Lib.hid (HX.out.keeps hk (fun _ _ _ h => h) (fun _ _ _ h => h))
  replace HB := Lib.hid (HB.out.keeps hk (fun h => h))
  replace K := Lib.hid (K.out.trans hk (fun _ _ h => h))
  clear hk FC
  have f0 := ((Blk.new w3 74 #[.bool false, .int .i64 0, .int .i64 0, .int .i64 0, .int .i64 0, .int .i64 0])).frozen 0
  have z0 := ((Blk.new w3 74 #[.bool false, .int .i64 0, .int .i64 0, .int .i64 0, .int .i64 0, .int .i64 0])).cell 0
  have f1 := fun (v0 : Value) => (((Blk.new w3 74 #[.bool false, .int .i64 0, .int .i64 0, .int .i64 0, .int .i64 0, .int .i64 0])).set_ 0 v0).frozen 1
  have z1 := fun (v0 : Value) => (((Blk.new w3 74 #[.bool false, .int .i64 0, .int .i64 0, .int .i64 0, .int .i64 0, .int .i64 0])).set_ 0 v0).cell 1
  have f2 := fun (v0 v1 : Value) => ((((Blk.new w3 74 #[.bool false, .int .i64 0, .int .i64 0, .int .i64 0, .int .i64 0, .int .i64 0])).set_ 0 v0).set_ 1 v1).frozen 2
  have z2 := fun (v0 v1 : Value) => ((((Blk.new w3 74 #[.bool false, .int .i64 0, .int .i64 0, .int .i64 0, .int .i64 0, .int .i64 0])).set_ 0 v0).set_ 1 v1).cell 2
  have f3 := fun (v0 v1 v2 : Value) => (((((Blk.new w3 74 #[.bool false, .int .i64 0, .int .i64 0, .int .i64 0, .int .i64 0, .int .i64 0])).set_ 0 v0).set_ 1 v1).set_ 2 v2).frozen 3
  have z3 := fun (v0 v1 v2 : Value) => (((((Blk.new w3 74 #[.bool false, .int .i64 0, .int .i64 0, .int .i64 0, .int .i64 0, .int .i64 0])).set_ 0 v0).set_ 1 v1).set_ 2 v2).cell 3
  have f4 := fun (v0 v1 v2 v3 : Value) => ((((((Blk.new w3 74 #[.bool false, .int .i64 0, .int .i64 0, .int .i64 0, .int .i64 0, .int .i64 0])).set_ 0 v0).set_ 1 v1).set_ 2 v2).set_ 3 v3).frozen 4
  have z4 := fun (v0 v1 v2 v3 : Value) => ((((((Blk.new w3 74 #[.bool false, .int .i64 0, .int .i64 0, .int .i64 0, .int .i64 0, .int .i64 0])).set_ 0 v0).set_ 1 v1).set_ 2 v2).set_ 3 v3).cell 4
  have f5 := fun (v0 v1 v2 v3 v4 : Value) => (((((((Blk.new w3 74 #[.bool false, .int .i64 0, .int .i64 0, .int .i64 0, .int .i64 0, .int .i64 0])).set_ 0 v0).set_ 1 v1).set_ 2 v2).set_ 3 v3).set_ 4 v4).frozen 5
  have z5 := fun (v0 v1 v2 v3 v4 : Value) => (((((((Blk.new w3 74 #[.bool false, .int .i64 0, .int .i64 0, .int .i64 0, .int .i64 0, .int .i64 0])).set_ 0 v0).set_ 1 v1).set_ 2 v2).set_ 3 v3).set_ 4 v4).cell 5
  go_upto_region 6 with (fail)
  clear f0 z0 f1 z1 f2 z2 f3 z3 f4 z4 f5 z5
  obtain ⟨P4, hN⟩ : ∃ N, w3.heap.size = N := ⟨_, rfl⟩
  rw [hN]
  refine code_at (fun w4 hw => ?_)
  have hk : Keeps Nob w3 w4 := by rw [hw]; exact Keeps.alloc _ _ _
  have hR : Blk w4 P4 74 #[.bool true, .int .i64 0, .int .i64 0, .int .i64 1, .int .i64 1, .int .i64 0] := by rw [hw, ← hN]; exact Blk.new _ _ _
  have r0 := hR.cell 0
  have r3 := hR.cell 3
  have r4 := hR.cell 4
  have r5 := hR.cell 5
  replace HX := Lib.hid (HX.out.keeps hk (fun _ _ _ h => h) (fun _ _ _ h => h))
  replace HB := Lib.hid (HB.out.keeps hk (fun h => h))
  replace K := Lib.hid (K.out.trans hk (fun _ _ h => h))
  clear hk hw hN hR
  have c0 := HB.out.cell 0
  have c1 := HB.out.cell 1
  have c2 := HB.out.cell 2
  have c3 := HB.out.cell 3
  have c4 := HB.out.cell 4
  go_wp2_with fail
  clear c0 c1 c2 c3 c4 r0 r3 r4 r5
  refine (FP _ _ _ _ _ _ HX.out).mono ?_
  rintro e w5 ⟨rfl, hk⟩
  replace K := Lib.hid (K.out.trans hk (fun _ _ h => h))
  clear hk
  go_wp2
  go_ret
  exact ⟨rfl, K.out⟩
end Go.Proofs.Ytbhohohgojcapaa
