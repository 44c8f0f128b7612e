import Derived.Test.YtbhohohgojcapaaGreatPkE6
import Derived.Test.YtbhohohgojcapaaGreatPkE8
import Derived.Test.YtbhohohgojcapaaGreatPkE9
namespace Go.Proofs.YtbhohohgojcapaaGreat
open Go.RowKit

section
variable {w : World} {a0 a1 a2 a3 a4 : Int} {lo : Nat} {sv : Value} {os : List OpM}
set_option maxRecDepth 100000 in
set_option maxHeartbeats 64000000 in
theorem checksOk (ho : OpsAt w lo sv os) (hlo : lo ≤ w.heap.size) (hk6 : ∀ o ∈ os, ∀ k ∈ o.nd.kids, K64 k) : Calls Tryz.prog 6 #[.agg #[sv, .int .i64 a0, .int .i64 a1, .int .i64 a2, .int .i64 a3, .int .i64 a4]] w fun e w' => e = .returned (.bool true) ∧ Keeps Nob w w' := by
  obtain ⟨sA, sc, es⟩ : ∃ A c, sv = .slice A os.length c := by obtain ⟨A, c, e, _⟩ := ho; exact ⟨A, c, e⟩
  subst es
  have hkw : Kids64 (steps (ar0 40) os) := k64_steps os _ (k64_ar0 40) hk6
  obtain ⟨A, hA⟩ : ∃ A, steps (ar0 40) os = A := ⟨_, rfl⟩
  rw [hA] at hkw
  obtain ⟨⟨rs, rn, re, rl, rns, rents⟩, hR⟩ : ∃ R, checkM A a0 a1 a2 a3 a4 = R := ⟨_, rfl⟩
  have HO := Lib.hid ho
  have HLO := Lib.hid hlo
  have HA := Lib.hid hA
  have HKW := Lib.hid hkw
  have HR := Lib.hid hR
  clear ho hlo hA hkw hR hk6
  go_enter Tryz.func6, Tryz.ntmps6
  go_wp2_with fail
  obtain ⟨P1, hP⟩ : ∃ N, w.heap.size = N := ⟨_, rfl⟩
  rw [hP]
  refine calls_at (fun w1 hw => ?_)
  have hk : Keeps Nob w w1 := by rw [hw]; exact Keeps.alloc _ _ _
  have HB := Lib.hid (show Blk w1 P1 73 #[.slice sA os.length sc, .int .i64 a0, .int .i64 a1, .int .i64 a2, .int .i64 a3, .int .i64 a4] by rw [hw, ← hP]; exact Blk.new _ _ _)
  have K := Lib.hid hk
  clear hw hk hP
  refine (head11 _).mono ?_
  rintro e w2 ⟨rfl, hk⟩
  replace HB := Lib.hid (HB.out.keeps hk (fun h => h))
  replace K := Lib.hid (K.out.trans hk (fun _ _ h => h))
  clear hk
  have t0 := HB.out.cell 0
  have t1 := HB.out.cell 1
  have t2 := HB.out.cell 2
  have t3 := HB.out.cell 3
  have t4 := HB.out.cell 4
  have t5 := HB.out.cell 5
  go_wp2_with fail
  clear t0 t1 t2 t3 t4 t5
  refine (laidJ (HO.out.keeps K.out (fun _ _ => id)) (Nat.le_trans HLO.out K.out.size)).mono ?_
  rintro e w3 ⟨b, p, q, rfl, hj, hk⟩
  rw [HA.out] at hj
  replace HB := Lib.hid (HB.out.keeps hk (fun h => h))
  replace K := Lib.hid (K.out.trans hk (fun _ _ h => h))
  have HJ := Lib.hid hj
  clear hj hk
  unfold pV
  go_upto_region 5 with (fail)
  have cb : w3.cell? ⟨b, 0, none⟩ = some (.pointer (some ⟨p, 0, none⟩)) := HJ.out.blk.cell 0
  have t1 := HB.out.cell 1
  have t2 := HB.out.cell 2
  have t3 := HB.out.cell 3
  have t4 := HB.out.cell 4
  have t5 := HB.out.cell 5
  have HX : Hid (∃ M D slots ids, ArW w3 M D p slots ids A) := by obtain ⟨M, D, _, _, ⟨sl, ids, h⟩, _⟩ := HJ.out.mem; exact Lib.hid ⟨M, D, sl, ids, h⟩
  have FX : ∀ wx, Keeps Nob w3 wx → Calls Tryz.prog 28 #[.pointer (some ⟨p, 0, none⟩), .agg #[.int .i64 a0, .int .i64 a1, .int .i64 a2, .int .i64 a3, .int .i64 a4]] wx fun e w' => e = .returned (.agg #[.bool rs, .int .i64 rn, .int .i64 re, .int .i64 rl, .int .i64 rns, .int .i64 rents]) ∧ Keeps Nob wx w' := fun wx k => by
    obtain ⟨M, D, sl, ids, h⟩ := HX.out
    have h2 := pcheckR (a0 := a0) (a1 := a1) (a2 := a2) (a3 := a3) (a4 := a4) (h.keeps k (fun _ _ _ h => h) (fun _ _ _ h => h)) HJ.out.smA HKW.out
    rw [HR.out] at h2
    exact h2
  have HFX := Lib.hid FX
  clear FX HX
  refine wp_region_treeV (X := Nat) (fun x => [(some 20, .pointer (some ⟨b, 0, none⟩)), (some 21, .pointer (some ⟨b, 0, none⟩)), (some 22, .pointer (some ⟨b, 0, none⟩)), (some 23, .pointer (some ⟨p, 0, none⟩)), (some 24, .pointer (some ⟨P1, 1, none⟩)), (some 25, .agg #[.int .i64 a0, .int .i64 a1, .int .i64 a2, .int .i64 a3, .int .i64 a4]), (some 26, .agg #[.bool rs, .int .i64 rn, .int .i64 re, .int .i64 rl, .int .i64 rns, .int .i64 rents]), (some 6, .pointer (some ⟨x, 0, none⟩))]) (fun x w' => Blk w' x 42 #[.bool rs, .int .i64 rn, .int .i64 re, .int .i64 rl, .int .i64 rns, .int .i64 rents] ∧ w3.heap.size ≤ x ∧ Keeps Nob w3 w') (Walk.reads [0, 1, 2, 3, 4, 5] (.two 6 ((.act 7 ((.act 8 (.nil))))) 7 ((.act 6 ((.act 8 (.nil))))))) 8 (fun W => W.cell? ⟨b, 0, none⟩ = some (.pointer (some ⟨p, 0, none⟩)) ∧ W.cell? ⟨P1, 1, none⟩ = some (.int .i64 a0) ∧ W.cell? ⟨P1, 2, none⟩ = some (.int .i64 a1) ∧ W.cell? ⟨P1, 3, none⟩ = some (.int .i64 a2) ∧ W.cell? ⟨P1, 4, none⟩ = some (.int .i64 a3) ∧ W.cell? ⟨P1, 5, none⟩ = some (.int .i64 a4)) (by kernel_rfl) (by kernel_rfl) (by decide) (by kernel_rfl) (fun _ _ d _ _ h => by cases d <;> exact h) ?_ ?_ ?_
  · exact ⟨cb, t1, t2, t3, t4, t5⟩
  · as_aux_lemma =>
    refine tree_at (fun v0 hw => ?_)
    have hk : Keeps Nob w3 v0 := by rw [hw]; exact Keeps.drew _ _
    have HC : Hid (v0.cell? ⟨b, 0, none⟩ = some (.pointer (some ⟨p, 0, none⟩)) ∧ v0.cell? ⟨P1, 1, none⟩ = some (.int .i64 a0) ∧ v0.cell? ⟨P1, 2, none⟩ = some (.int .i64 a1) ∧ v0.cell? ⟨P1, 3, none⟩ = some (.int .i64 a2) ∧ v0.cell? ⟨P1, 4, none⟩ = some (.int .i64 a3) ∧ v0.cell? ⟨P1, 5, none⟩ = some (.int .i64 a4)) := Lib.hid ⟨hk.cell cb id, hk.cell t1 id, hk.cell t2 id, hk.cell t3 id, hk.cell t4 id, hk.cell t5 id⟩
    have KT := Lib.hid hk
    clear hw hk cb t1 t2 t3 t4 t5
    unfold Walk.reads
    iterate 6
      refine wpTree_read (v := ?_) rfl (by rfl) ?_ ?_
      rotate_left
      · intro W hW
        try (obtain ⟨g1, g2, g3, g4, g5, g6⟩ : _ ∧ _ ∧ _ ∧ _ ∧ _ ∧ _ := hW)
        go_simp
        try rfl
      simp only [Act.put, List.setIfInBounds_toArray, List.set_cons_zero, List.set_cons_succ]
    refine wpTree_two rfl rfl ?_ ?_
    · go_wp2_with (go_at_call 28; refine (HFX.out _ KT.out).mono ?_; rintro e v1 ⟨rfl, hk⟩)
      replace HC : Hid (_ ∧ _ ∧ _ ∧ _ ∧ _ ∧ _) := Lib.hid ⟨hk.cell HC.out.1 id, hk.cell HC.out.2.1 id, hk.cell HC.out.2.2.1 id, hk.cell HC.out.2.2.2.1 id, hk.cell HC.out.2.2.2.2.1 id, hk.cell HC.out.2.2.2.2.2 id⟩
      replace KT := Lib.hid (KT.out.trans hk (fun _ _ h => h))
      clear hk
      refine ⟨.inr HC.out, ?_⟩
      refine wpTree_act rfl ?_
      go_wp2
      refine tree_at' (fun v2 hw => ?_)
      obtain ⟨N, hN⟩ : ∃ N, v1.heap.size = N := ⟨_, rfl⟩
      have hk : Keeps Nob v1 v2 := by rw [hw]; exact Keeps.alloc _ _ _
      have HB := Lib.hid (Blk.new v1 42 #[.bool false, .int .i64 0, .int .i64 0, .int .i64 0, .int .i64 0, .int .i64 0])
      rw [← hw, hN] at HB
      have HN : Hid (w3.heap.size ≤ N) := by rw [← hN]; exact Lib.hid KT.out.size
      replace HC : Hid (_ ∧ _ ∧ _ ∧ _ ∧ _ ∧ _) := Lib.hid ⟨hk.cell HC.out.1 id, hk.cell HC.out.2.1 id, hk.cell HC.out.2.2.1 id, hk.cell HC.out.2.2.2.1 id, hk.cell HC.out.2.2.2.2.1 id, hk.cell HC.out.2.2.2.2.2 id⟩
      replace KT := Lib.hid (KT.out.trans hk (fun _ _ h => h))
      clear hk hw
      rw [hN]
      clear hN
      refine ⟨.inr HC.out, ?_⟩
      refine wpTree_act rfl ?_
      have q0 := HB.out.cell 0
      have f0 := HB.out.frozen 0
      have q1 := HB.out.cell 1
      have f1 := HB.out.frozen 1
      have q2 := HB.out.cell 2
      have f2 := HB.out.frozen 2
      have q3 := HB.out.cell 3
      have f3 := HB.out.frozen 3
      have q4 := HB.out.cell 4
      have f4 := HB.out.frozen 4
      have q5 := HB.out.cell 5
      have f5 := HB.out.frozen 5
      go_wp2
      clear q0 f0 q1 f1 q2 f2 q3 f3 q4 f4 q5 f5
      refine tree_at' (fun v3 hw => ?_)
      have hk : Keeps (fun x => x = N) v2 v3 := by rw [hw]; exact (((((Keeps.setCell _ (M := fun x => x = N) rfl _).setCell' (fun _ => rfl) _).setCell' (fun _ => rfl) _).setCell' (fun _ => rfl) _).setCell' (fun _ => rfl) _).setCell' (fun _ => rfl) _
      have hb : Blk v3 N 42 #[.bool rs, .int .i64 rn, .int .i64 re, .int .i64 rl, .int .i64 rns, .int .i64 rents] := by rw [hw]; exact (((((HB.out.set_ 0 _).set_ 1 _).set_ 2 _).set_ 3 _).set_ 4 _).set_ 5 _
      clear hw
      refine ⟨.inl (by rfl), wpTree_nil ⟨N, by simp only [putsA, Act.put, List.setIfInBounds_toArray, List.set_cons_zero, List.set_cons_succ], hb, HN.out, KT.out.trans hk (fun x hx e => by have e2 : x = N := e; have h := HN.out; omega)⟩⟩
    · go_wp2
      refine tree_at' (fun v2 hw => ?_)
      obtain ⟨N, hN⟩ : ∃ N, v0.heap.size = N := ⟨_, rfl⟩
      have hk : Keeps Nob v0 v2 := by rw [hw]; exact Keeps.alloc _ _ _
      have HB := Lib.hid (Blk.new v0 42 #[.bool false, .int .i64 0, .int .i64 0, .int .i64 0, .int .i64 0, .int .i64 0])
      rw [← hw, hN] at HB
      have HN : Hid (w3.heap.size ≤ N) := by rw [← hN]; exact Lib.hid KT.out.size
      replace HC : Hid (_ ∧ _ ∧ _ ∧ _ ∧ _ ∧ _) := Lib.hid ⟨hk.cell HC.out.1 id, hk.cell HC.out.2.1 id, hk.cell HC.out.2.2.1 id, hk.cell HC.out.2.2.2.1 id, hk.cell HC.out.2.2.2.2.1 id, hk.cell HC.out.2.2.2.2.2 id⟩
      replace KT := Lib.hid (KT.out.trans hk (fun _ _ h => h))
      clear hk hw
      rw [hN]
      clear hN
      refine ⟨.inr HC.out, ?_⟩
      refine wpTree_act rfl ?_
      go_wp2_with (go_at_call 28; refine (HFX.out _ KT.out).mono ?_; rintro e v1 ⟨rfl, hk⟩)
      replace HC : Hid (_ ∧ _ ∧ _ ∧ _ ∧ _ ∧ _) := Lib.hid ⟨hk.cell HC.out.1 id, hk.cell HC.out.2.1 id, hk.cell HC.out.2.2.1 id, hk.cell HC.out.2.2.2.1 id, hk.cell HC.out.2.2.2.2.1 id, hk.cell HC.out.2.2.2.2.2 id⟩
      replace HB := Lib.hid (HB.out.keeps hk (fun h => h))
      replace KT := Lib.hid (KT.out.trans hk (fun _ _ h => h))
      clear hk
      refine ⟨.inr HC.out, ?_⟩
      refine wpTree_act rfl ?_
      have q0 := HB.out.cell 0
      have f0 := HB.out.frozen 0
      have q1 := HB.out.cell 1
      have f1 := HB.out.frozen 1
      have q2 := HB.out.cell 2
      have f2 := HB.out.frozen 2
      have q3 := HB.out.cell 3
      have f3 := HB.out.frozen 3
      have q4 := HB.out.cell 4
      have f4 := HB.out.frozen 4
      have q5 := HB.out.cell 5
      have f5 := HB.out.frozen 5
      go_wp2
      clear q0 f0 q1 f1 q2 f2 q3 f3 q4 f4 q5 f5
      refine tree_at' (fun v3 hw => ?_)
      have hk : Keeps (fun x => x = N) v1 v3 := by rw [hw]; exact (((((Keeps.setCell _ (M := fun x => x = N) rfl _).setCell' (fun _ => rfl) _).setCell' (fun _ => rfl) _).setCell' (fun _ => rfl) _).setCell' (fun _ => rfl) _).setCell' (fun _ => rfl) _
      have hb : Blk v3 N 42 #[.bool rs, .int .i64 rn, .int .i64 re, .int .i64 rl, .int .i64 rns, .int .i64 rents] := by rw [hw]; exact (((((HB.out.set_ 0 _).set_ 1 _).set_ 2 _).set_ 3 _).set_ 4 _).set_ 5 _
      clear hw
      refine ⟨.inl (by rfl), wpTree_nil ⟨N, by simp only [putsA, Act.put, List.setIfInBounds_toArray, List.set_cons_zero, List.set_cons_succ], hb, HN.out, KT.out.trans hk (fun x hx e => by have e2 : x = N := e; have h := HN.out; omega)⟩⟩
  clear cb t1 t2 t3 t4 t5
  rintro P6 w4 ⟨hb6, _, hk⟩
  have HB6 := Lib.hid hb6
  replace HB := Lib.hid (HB.out.keeps hk (fun h => h))
  replace K := Lib.hid (K.out.trans hk (fun _ _ h => h))
  replace HJ := Lib.hid (HJ.out.nob hk)
  clear hb6 hk HFX
  simp only [putsA, Act.put, List.setIfInBounds_toArray, List.set_cons_zero, List.set_cons_succ]
  go_upto_region 6 with (fail)
  have cb : w4.cell? ⟨b, 1, none⟩ = some (.pointer (some ⟨q, 0, none⟩)) := HJ.out.blk.cell 1
  have t1 := HB.out.cell 1
  have t2 := HB.out.cell 2
  have t3 := HB.out.cell 3
  have t4 := HB.out.cell 4
  have t5 := HB.out.cell 5
  have HX : Hid (∃ M D L xs, DocW w4 M D q L xs A) := by obtain ⟨_, _, M, D, _, ⟨L, xs, h⟩, _⟩ := HJ.out.mem; exact Lib.hid ⟨M, D, L, xs, h⟩
  have FX : ∀ wx, Keeps Nob w4 wx → Calls Tryz.prog 12 #[.pointer (some ⟨q, 0, none⟩), .agg #[.int .i64 a0, .int .i64 a1, .int .i64 a2, .int .i64 a3, .int .i64 a4]] wx fun e w' => e = .returned (.agg #[.bool rs, .int .i64 rn, .int .i64 re, .int .i64 rl, .int .i64 rns, .int .i64 rents]) ∧ Keeps Nob wx w' := fun wx k => by
    obtain ⟨M, D, L, xs, h⟩ := HX.out
    have h2 := checkRep (a0 := a0) (a1 := a1) (a2 := a2) (a3 := a3) (a4 := a4) (h.keeps k (fun _ _ _ h => h) (fun _ _ _ h => h)) HJ.out.smA
    rw [HR.out] at h2
    exact h2
  have HFX := Lib.hid FX
  clear FX HX
  refine wp_region_treeV (X := Nat) (fun x => [(some 27, .pointer (some ⟨b, 0, none⟩)), (some 28, .pointer (some ⟨b, 0, none⟩)), (some 29, .pointer (some ⟨b, 1, none⟩)), (some 30, .pointer (some ⟨q, 0, none⟩)), (some 31, .pointer (some ⟨P1, 1, none⟩)), (some 32, .agg #[.int .i64 a0, .int .i64 a1, .int .i64 a2, .int .i64 a3, .int .i64 a4]), (some 33, .agg #[.bool rs, .int .i64 rn, .int .i64 re, .int .i64 rl, .int .i64 rns, .int .i64 rents]), (some 7, .pointer (some ⟨x, 0, none⟩))]) (fun x w' => Blk w' x 42 #[.bool rs, .int .i64 rn, .int .i64 re, .int .i64 rl, .int .i64 rns, .int .i64 rents] ∧ w4.heap.size ≤ x ∧ Keeps Nob w4 w') (Walk.reads [0, 1, 2, 3, 4, 5] (.two 6 ((.act 7 ((.act 8 (.nil))))) 7 ((.act 6 ((.act 8 (.nil))))))) 8 (fun W => W.cell? ⟨b, 1, none⟩ = some (.pointer (some ⟨q, 0, none⟩)) ∧ W.cell? ⟨P1, 1, none⟩ = some (.int .i64 a0) ∧ W.cell? ⟨P1, 2, none⟩ = some (.int .i64 a1) ∧ W.cell? ⟨P1, 3, none⟩ = some (.int .i64 a2) ∧ W.cell? ⟨P1, 4, none⟩ = some (.int .i64 a3) ∧ W.cell? ⟨P1, 5, none⟩ = some (.int .i64 a4)) (by kernel_rfl) (by kernel_rfl) (by decide) (by kernel_rfl) (fun _ _ d _ _ h => by cases d <;> exact h) ?_ ?_ ?_
  · exact ⟨cb, t1, t2, t3, t4, t5⟩
  · as_aux_lemma =>
    refine tree_at (fun v0 hw => ?_)
    have hk : Keeps Nob w4 v0 := by rw [hw]; exact Keeps.drew _ _
    have HC : Hid (v0.cell? ⟨b, 1, none⟩ = some (.pointer (some ⟨q, 0, none⟩)) ∧ v0.cell? ⟨P1, 1, none⟩ = some (.int .i64 a0) ∧ v0.cell? ⟨P1, 2, none⟩ = some (.int .i64 a1) ∧ v0.cell? ⟨P1, 3, none⟩ = some (.int .i64 a2) ∧ v0.cell? ⟨P1, 4, none⟩ = some (.int .i64 a3) ∧ v0.cell? ⟨P1, 5, none⟩ = some (.int .i64 a4)) := Lib.hid ⟨hk.cell cb id, hk.cell t1 id, hk.cell t2 id, hk.cell t3 id, hk.cell t4 id, hk.cell t5 id⟩
    have KT := Lib.hid hk
    clear hw hk cb t1 t2 t3 t4 t5
    unfold Walk.reads
    iterate 6
      refine wpTree_read (v := ?_) rfl (by rfl) ?_ ?_
      rotate_left
      · intro W hW
        try (obtain ⟨g1, g2, g3, g4, g5, g6⟩ : _ ∧ _ ∧ _ ∧ _ ∧ _ ∧ _ := hW)
        go_simp
        try rfl
      simp only [Act.put, List.setIfInBounds_toArray, List.set_cons_zero, List.set_cons_succ]
    refine wpTree_two rfl rfl ?_ ?_
    · go_wp2_with (go_at_call 12; refine (HFX.out _ KT.out).mono ?_; rintro e v1 ⟨rfl, hk⟩)
      replace HC : Hid (_ ∧ _ ∧ _ ∧ _ ∧ _ ∧ _) := Lib.hid ⟨hk.cell HC.out.1 id, hk.cell HC.out.2.1 id, hk.cell HC.out.2.2.1 id, hk.cell HC.out.2.2.2.1 id, hk.cell HC.out.2.2.2.2.1 id, hk.cell HC.out.2.2.2.2.2 id⟩
      replace KT := Lib.hid (KT.out.trans hk (fun _ _ h => h))
      clear hk
      refine ⟨.inr HC.out, ?_⟩
      refine wpTree_act rfl ?_
      go_wp2
      refine tree_at' (fun v2 hw => ?_)
      obtain ⟨N, hN⟩ : ∃ N, v1.heap.size = N := ⟨_, rfl⟩
      have hk : Keeps Nob v1 v2 := by rw [hw]; exact Keeps.alloc _ _ _
      have HB := Lib.hid (Blk.new v1 42 #[.bool false, .int .i64 0, .int .i64 0, .int .i64 0, .int .i64 0, .int .i64 0])
      rw [← hw, hN] at HB
      have HN : Hid (w4.heap.size ≤ N) := by rw [← hN]; exact Lib.hid KT.out.size
      replace HC : Hid (_ ∧ _ ∧ _ ∧ _ ∧ _ ∧ _) := Lib.hid ⟨hk.cell HC.out.1 id, hk.cell HC.out.2.1 id, hk.cell HC.out.2.2.1 id, hk.cell HC.out.2.2.2.1 id, hk.cell HC.out.2.2.2.2.1 id, hk.cell HC.out.2.2.2.2.2 id⟩
      replace KT := Lib.hid (KT.out.trans hk (fun _ _ h => h))
      clear hk hw
      rw [hN]
      clear hN
      refine ⟨.inr HC.out, ?_⟩
      refine wpTree_act rfl ?_
      have q0 := HB.out.cell 0
      have f0 := HB.out.frozen 0
      have q1 := HB.out.cell 1
      have f1 := HB.out.frozen 1
      have q2 := HB.out.cell 2
      have f2 := HB.out.frozen 2
      have q3 := HB.out.cell 3
      have f3 := HB.out.frozen 3
      have q4 := HB.out.cell 4
      have f4 := HB.out.frozen 4
      have q5 := HB.out.cell 5
      have f5 := HB.out.frozen 5
      go_wp2
      clear q0 f0 q1 f1 q2 f2 q3 f3 q4 f4 q5 f5
      refine tree_at' (fun v3 hw => ?_)
      have hk : Keeps (fun x => x = N) v2 v3 := by rw [hw]; exact (((((Keeps.setCell _ (M := fun x => x = N) rfl _).setCell' (fun _ => rfl) _).setCell' (fun _ => rfl) _).setCell' (fun _ => rfl) _).setCell' (fun _ => rfl) _).setCell' (fun _ => rfl) _
      have hb : Blk v3 N 42 #[.bool rs, .int .i64 rn, .int .i64 re, .int .i64 rl, .int .i64 rns, .int .i64 rents] := by rw [hw]; exact (((((HB.out.set_ 0 _).set_ 1 _).set_ 2 _).set_ 3 _).set_ 4 _).set_ 5 _
      clear hw
      refine ⟨.inl (by rfl), wpTree_nil ⟨N, by simp only [putsA, Act.put, List.setIfInBounds_toArray, List.set_cons_zero, List.set_cons_succ], hb, HN.out, KT.out.trans hk (fun x hx e => by have e2 : x = N := e; have h := HN.out; omega)⟩⟩
    · go_wp2
      refine tree_at' (fun v2 hw => ?_)
      obtain ⟨N, hN⟩ : ∃ N, v0.heap.size = N := ⟨_, rfl⟩
      have hk : Keeps Nob v0 v2 := by rw [hw]; exact Keeps.alloc _ _ _
      have HB := Lib.hid (Blk.new v0 42 #[.bool false, .int .i64 0, .int .i64 0, .int .i64 0, .int .i64 0, .int .i64 0])
      rw [← hw, hN] at HB
      have HN : Hid (w4.heap.size ≤ N) := by rw [← hN]; exact Lib.hid KT.out.size
      replace HC : Hid (_ ∧ _ ∧ _ ∧ _ ∧ _ ∧ _) := Lib.hid ⟨hk.cell HC.out.1 id, hk.cell HC.out.2.1 id, hk.cell HC.out.2.2.1 id, hk.cell HC.out.2.2.2.1 id, hk.cell HC.out.2.2.2.2.1 id, hk.cell HC.out.2.2.2.2.2 id⟩
      replace KT := Lib.hid (KT.out.trans hk (fun _ _ h => h))
      clear hk hw
      rw [hN]
      clear hN
      refine ⟨.inr HC.out, ?_⟩
      refine wpTree_act rfl ?_
      go_wp2_with (go_at_call 12; refine (HFX.out _ KT.out).mono ?_; rintro e v1 ⟨rfl, hk⟩)
      replace HC : Hid (_ ∧ _ ∧ _ ∧ _ ∧ _ ∧ _) := Lib.hid ⟨hk.cell HC.out.1 id, hk.cell HC.out.2.1 id, hk.cell HC.out.2.2.1 id, hk.cell HC.out.2.2.2.1 id, hk.cell HC.out.2.2.2.2.1 id, hk.cell HC.out.2.2.2.2.2 id⟩
      replace HB := Lib.hid (HB.out.keeps hk (fun h => h))
      replace KT := Lib.hid (KT.out.trans hk (fun _ _ h => h))
      clear hk
      refine ⟨.inr HC.out, ?_⟩
      refine wpTree_act rfl ?_
      have q0 := HB.out.cell 0
      have f0 := HB.out.frozen 0
      have q1 := HB.out.cell 1
      have f1 := HB.out.frozen 1
      have q2 := HB.out.cell 2
      have f2 := HB.out.frozen 2
      have q3 := HB.out.cell 3
      have f3 := HB.out.frozen 3
      have q4 := HB.out.cell 4
      have f4 := HB.out.frozen 4
      have q5 := HB.out.cell 5
      have f5 := HB.out.frozen 5
      go_wp2
      clear q0 f0 q1 f1 q2 f2 q3 f3 q4 f4 q5 f5
      refine tree_at' (fun v3 hw => ?_)
      have hk : Keeps (fun x => x = N) v1 v3 := by rw [hw]; exact (((((Keeps.setCell _ (M := fun x => x = N) rfl _).setCell' (fun _ => rfl) _).setCell' (fun _ => rfl) _).setCell' (fun _ => rfl) _).setCell' (fun _ => rfl) _).setCell' (fun _ => rfl) _
      have hb : Blk v3 N 42 #[.bool rs, .int .i64 rn, .int .i64 re, .int .i64 rl, .int .i64 rns, .int .i64 rents] := by rw [hw]; exact (((((HB.out.set_ 0 _).set_ 1 _).set_ 2 _).set_ 3 _).set_ 4 _).set_ 5 _
      clear hw
      refine ⟨.inl (by rfl), wpTree_nil ⟨N, by simp only [putsA, Act.put, List.setIfInBounds_toArray, List.set_cons_zero, List.set_cons_succ], hb, HN.out, KT.out.trans hk (fun x hx e => by have e2 : x = N := e; have h := HN.out; omega)⟩⟩
  clear cb t1 t2 t3 t4 t5
  rintro P7 w5 ⟨hb7, _, hk⟩
  replace HB6 := Lib.hid (HB6.out.keeps hk (fun h => h))
  replace K := Lib.hid (K.out.trans hk (fun _ _ h => h))
  replace HJ := Lib.hid (HJ.out.nob hk)
  have r0 := (HB6.out).cell 0
  have r1 := (HB6.out).cell 1
  have r2 := (HB6.out).cell 2
  have r3 := (HB6.out).cell 3
  have r4 := (HB6.out).cell 4
  have r5 := (HB6.out).cell 5
  have s0 := (hb7).cell 0
  have s1 := (hb7).cell 1
  have s2 := (hb7).cell 2
  have s3 := (hb7).cell 3
  have s4 := (hb7).cell 4
  have s5 := (hb7).cell 5
  clear hb7 hk HFX
  have FS := Lib.hid (sameJ HJ.out)
  unfold pV at FS
  simp only [putsA, Act.put, List.setIfInBounds_toArray, List.set_cons_zero, List.set_cons_succ]
  go_wp2_with fail
  clear r0 r1 r2 r3 r4 r5 s0 s1 s2 s3 s4 s5
  refine FS.out.mono ?_
  rintro e w6 ⟨rfl, _, hk⟩
  replace K := Lib.hid (K.out.trans hk (fun _ _ h => h))
  clear hk
  go_wp2
  go_ret
  exact ⟨rfl, K.out⟩
end
end Go.Proofs.YtbhohohgojcapaaGreat
