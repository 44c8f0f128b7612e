import Derived.Test.YtbhohohgojcapaaGreatPkE4
import Derived.Test.YtbhohohgojcapaaGreatPkE8
import Derived.Test.YtbhohohgojcapaaGreatPkE9
namespace Go.Proofs.YtbhohohgojcapaaGreat
open Go.RowKit

section
variable {w : World} {a0 a1 a2 a3 a4 : Int} {lo : Nat} {sv : Value} {os : List OpM}
set_option maxRecDepth 100000 in
set_option maxHeartbeats 64000000 in
theorem packedOk (ho : OpsAt w lo sv os) (hlo : lo ≤ w.heap.size) (hk6 : ∀ o ∈ os, ∀ k ∈ o.nd.kids, K64 k) : Calls Tryz.prog 7 #[.agg #[sv, .int .i64 a0, .int .i64 a1, .int .i64 a2, .int .i64 a3, .int .i64 a4]] w fun e w' => e = .returned (.bool true) ∧ Keeps Nob w w' := by
  obtain ⟨sA, sc, es⟩ : ∃ A c, sv = .slice A os.length c := by obtain ⟨A, c, e, _⟩ := ho; exact ⟨A, c, e⟩
  subst es
  have hkw : Kids64 (steps (ar0 40) os) := k64_steps os _ (k64_ar0 40) hk6
  obtain ⟨A, hA⟩ : ∃ A, steps (ar0 40) os = A := ⟨_, rfl⟩
  rw [hA] at hkw
  obtain ⟨res, hR⟩ : ∃ R, packRes A a0 a1 a2 a3 a4 = R := ⟨_, rfl⟩
  have HO := Lib.hid ho
  have HLO := Lib.hid hlo
  have HA := Lib.hid hA
  have HKW := Lib.hid hkw
  have HR := Lib.hid hR
  clear ho hlo hA hkw hR hk6
  go_enter Tryz.func7, Tryz.ntmps7
  go_wp2_with fail
  obtain ⟨P1, hP⟩ : ∃ N, w.heap.size = N := ⟨_, rfl⟩
  rw [hP]
  refine calls_at (fun w1 hw => ?_)
  have hk : Keeps Nob w w1 := by rw [hw]; exact Keeps.alloc _ _ _
  have HB := Lib.hid (show Blk w1 P1 73 #[.slice sA os.length sc, .int .i64 a0, .int .i64 a1, .int .i64 a2, .int .i64 a3, .int .i64 a4] by rw [hw, ← hP]; exact Blk.new _ _ _)
  have K := Lib.hid hk
  clear hw hk hP
  refine (head11 _).mono ?_
  rintro e w2 ⟨rfl, hk⟩
  replace HB := Lib.hid (HB.out.keeps hk (fun h => h))
  replace K := Lib.hid (K.out.trans hk (fun _ _ h => h))
  clear hk
  have t0 := HB.out.cell 0
  have t1 := HB.out.cell 1
  have t2 := HB.out.cell 2
  have t3 := HB.out.cell 3
  have t4 := HB.out.cell 4
  have t5 := HB.out.cell 5
  go_wp2_with fail
  clear t0 t1 t2 t3 t4 t5
  refine (laidJ (HO.out.keeps K.out (fun _ _ => id)) (Nat.le_trans HLO.out K.out.size)).mono ?_
  rintro e w3 ⟨b, p, q, rfl, hj, hk⟩
  rw [HA.out] at hj
  replace HB := Lib.hid (HB.out.keeps hk (fun h => h))
  replace K := Lib.hid (K.out.trans hk (fun _ _ h => h))
  have HJ := Lib.hid hj
  clear hj hk
  unfold pV
  go_upto_region 5 with (fail)
  have HC : Hid (w3.cell? ⟨b, 0, none⟩ = some (.pointer (some ⟨p, 0, none⟩)) ∧ w3.cell? ⟨b, 1, none⟩ = some (.pointer (some ⟨q, 0, none⟩)) ∧ w3.cell? ⟨P1, 1, none⟩ = some (.int .i64 a0) ∧ w3.cell? ⟨P1, 2, none⟩ = some (.int .i64 a1) ∧ w3.cell? ⟨P1, 3, none⟩ = some (.int .i64 a2) ∧ w3.cell? ⟨P1, 4, none⟩ = some (.int .i64 a3) ∧ w3.cell? ⟨P1, 5, none⟩ = some (.int .i64 a4)) := Lib.hid ⟨HJ.out.blk.cell 0, HJ.out.blk.cell 1, HB.out.cell 1, HB.out.cell 2, HB.out.cell 3, HB.out.cell 4, HB.out.cell 5⟩
  have HX : Hid (∃ M D slots ids, ArW w3 M D p slots ids A) := by obtain ⟨M, D, _, _, ⟨sl, ids, h⟩, _⟩ := HJ.out.mem; exact Lib.hid ⟨M, D, sl, ids, h⟩
  have FX : ∀ wx, Keeps Nob w3 wx → Calls Tryz.prog 29 #[.pointer (some ⟨p, 0, none⟩), .agg #[.int .i64 a0, .int .i64 a1, .int .i64 a2, .int .i64 a3, .int .i64 a4]] wx fun e w' => e = .returned (.bool res) ∧ Keeps Nob wx w' := fun wx k => by
    obtain ⟨M, D, sl, ids, h⟩ := HX.out
    have h2 := ppackedR (a0 := a0) (a1 := a1) (a2 := a2) (a3 := a3) (a4 := a4) (h.keeps k (fun _ _ _ h => h) (fun _ _ _ h => h)) HJ.out.smA HKW.out
    rw [HR.out] at h2
    exact h2
  have HFX := Lib.hid FX
  clear FX HX
  have HX : Hid (∃ M D L xs, DocW w3 M D q L xs A) := by obtain ⟨_, _, M, D, _, ⟨L, xs, h⟩, _⟩ := HJ.out.mem; exact Lib.hid ⟨M, D, L, xs, h⟩
  have FX : ∀ wx, Keeps Nob w3 wx → Calls Tryz.prog 30 #[.pointer (some ⟨q, 0, none⟩), .agg #[.int .i64 a0, .int .i64 a1, .int .i64 a2, .int .i64 a3, .int .i64 a4]] wx fun e w' => e = .returned (.bool res) ∧ Keeps Nob wx w' := fun wx k => by
    obtain ⟨M, D, L, xs, h⟩ := HX.out
    have h2 := packedR (a0 := a0) (a1 := a1) (a2 := a2) (a3 := a3) (a4 := a4) (h.keeps k (fun _ _ _ h => h) (fun _ _ _ h => h)) HJ.out.smA
    rw [HR.out] at h2
    exact h2
  have HFY := Lib.hid FX
  clear FX HX
  have FS : ∀ wx, Keeps Nob w3 wx → Calls Tryz.prog 24 #[.pointer (some ⟨b, 0, none⟩)] wx fun e w' => e = .returned (.bool true) ∧ Keeps Nob wx w' := fun wx k => (sameJ (HJ.out.nob k)).mono fun e w' h => ⟨h.1, h.2.2⟩
  have HFS := Lib.hid FS
  have HQ : (res == res) = true := by cases res <;> rfl
  clear FS
  refine wp_region_canon [0, 1, 2, 3, 4, 5, 7, 8, 9, 10, 11, 12, 6, 13, 14, 15, 16, 17, 18, 19] 20 (fun W => W.cell? ⟨b, 0, none⟩ = some (.pointer (some ⟨p, 0, none⟩)) ∧ W.cell? ⟨b, 1, none⟩ = some (.pointer (some ⟨q, 0, none⟩)) ∧ W.cell? ⟨P1, 1, none⟩ = some (.int .i64 a0) ∧ W.cell? ⟨P1, 2, none⟩ = some (.int .i64 a1) ∧ W.cell? ⟨P1, 3, none⟩ = some (.int .i64 a2) ∧ W.cell? ⟨P1, 4, none⟩ = some (.int .i64 a3) ∧ W.cell? ⟨P1, 5, none⟩ = some (.int .i64 a4)) (by kernel_rfl) (by kernel_rfl) rfl (by kernel_rfl) (fun _ _ d _ _ h => by cases d <;> exact h) HC.out ?_
  refine canon_at (fun v0 hw => ?_)
  have hk : Keeps Nob w3 v0 := by rw [hw]; exact Keeps.drew _ _
  replace HC : Hid (v0.cell? ⟨b, 0, none⟩ = some (.pointer (some ⟨p, 0, none⟩)) ∧ v0.cell? ⟨b, 1, none⟩ = some (.pointer (some ⟨q, 0, none⟩)) ∧ v0.cell? ⟨P1, 1, none⟩ = some (.int .i64 a0) ∧ v0.cell? ⟨P1, 2, none⟩ = some (.int .i64 a1) ∧ v0.cell? ⟨P1, 3, none⟩ = some (.int .i64 a2) ∧ v0.cell? ⟨P1, 4, none⟩ = some (.int .i64 a3) ∧ v0.cell? ⟨P1, 5, none⟩ = some (.int .i64 a4)) := Lib.hid ⟨hk.cell HC.out.1 id, hk.cell HC.out.2.1 id, hk.cell HC.out.2.2.1 id, hk.cell HC.out.2.2.2.1 id, hk.cell HC.out.2.2.2.2.1 id, hk.cell HC.out.2.2.2.2.2.1 id, hk.cell HC.out.2.2.2.2.2.2 id⟩
  have KT := Lib.hid hk
  clear hw hk
  iterate 12
    refine wpCanon_read (v := ?_) rfl (by kernel_rfl) (by rfl) ?_ ?_
    rotate_left
    · intro W hW
      try (obtain ⟨g1, g2, g3, g4, g5, g6, g7⟩ : _ ∧ _ ∧ _ ∧ _ ∧ _ ∧ _ ∧ _ := hW)
      go_simp
      try simp only [beq_self_eq_true]
      try rfl
    simp only [Act.put, List.setIfInBounds_toArray, List.set_cons_zero, List.set_cons_succ]
  refine wpCanon_act rfl (by kernel_rfl) ?_
  go_wp2_with (go_at_call 29; refine (HFX.out _ KT.out).mono ?_; rintro e v1 ⟨rfl, hk⟩)
  replace HC : Hid (v1.cell? ⟨b, 0, none⟩ = some (.pointer (some ⟨p, 0, none⟩)) ∧ v1.cell? ⟨b, 1, none⟩ = some (.pointer (some ⟨q, 0, none⟩)) ∧ v1.cell? ⟨P1, 1, none⟩ = some (.int .i64 a0) ∧ v1.cell? ⟨P1, 2, none⟩ = some (.int .i64 a1) ∧ v1.cell? ⟨P1, 3, none⟩ = some (.int .i64 a2) ∧ v1.cell? ⟨P1, 4, none⟩ = some (.int .i64 a3) ∧ v1.cell? ⟨P1, 5, none⟩ = some (.int .i64 a4)) := Lib.hid ⟨hk.cell HC.out.1 id, hk.cell HC.out.2.1 id, hk.cell HC.out.2.2.1 id, hk.cell HC.out.2.2.2.1 id, hk.cell HC.out.2.2.2.2.1 id, hk.cell HC.out.2.2.2.2.2.1 id, hk.cell HC.out.2.2.2.2.2.2 id⟩
  replace KT := Lib.hid (KT.out.trans hk (fun _ _ h => h))
  clear hk HFX
  refine ⟨.inr HC.out, ?_⟩
  refine wpCanon_act rfl (by kernel_rfl) ?_
  go_wp2_with (go_at_call 30; refine (HFY.out _ KT.out).mono ?_; rintro e v2 ⟨rfl, hk⟩)
  replace HC : Hid (v2.cell? ⟨b, 0, none⟩ = some (.pointer (some ⟨p, 0, none⟩)) ∧ v2.cell? ⟨b, 1, none⟩ = some (.pointer (some ⟨q, 0, none⟩)) ∧ v2.cell? ⟨P1, 1, none⟩ = some (.int .i64 a0) ∧ v2.cell? ⟨P1, 2, none⟩ = some (.int .i64 a1) ∧ v2.cell? ⟨P1, 3, none⟩ = some (.int .i64 a2) ∧ v2.cell? ⟨P1, 4, none⟩ = some (.int .i64 a3) ∧ v2.cell? ⟨P1, 5, none⟩ = some (.int .i64 a4)) := Lib.hid ⟨hk.cell HC.out.1 id, hk.cell HC.out.2.1 id, hk.cell HC.out.2.2.1 id, hk.cell HC.out.2.2.2.1 id, hk.cell HC.out.2.2.2.2.1 id, hk.cell HC.out.2.2.2.2.2.1 id, hk.cell HC.out.2.2.2.2.2.2 id⟩
  replace KT := Lib.hid (KT.out.trans hk (fun _ _ h => h))
  clear hk HFY
  refine ⟨.inr HC.out, ?_⟩
  iterate 3
    refine wpCanon_read (v := ?_) rfl (by kernel_rfl) (by rfl) ?_ ?_
    rotate_left
    · intro W hW
      try (obtain ⟨g1, g2, g3, g4, g5, g6, g7⟩ : _ ∧ _ ∧ _ ∧ _ ∧ _ ∧ _ ∧ _ := hW)
      go_simp
      try simp only [beq_self_eq_true]
      try rfl
    simp only [Act.put, List.setIfInBounds_toArray, List.set_cons_zero, List.set_cons_succ]
  refine wpCanon_act rfl (by kernel_rfl) ?_
  go_wp2_with (go_at_call 24; refine (HFS.out _ KT.out).mono ?_; rintro e v3 ⟨rfl, hk⟩)
  replace HC : Hid (v3.cell? ⟨b, 0, none⟩ = some (.pointer (some ⟨p, 0, none⟩)) ∧ v3.cell? ⟨b, 1, none⟩ = some (.pointer (some ⟨q, 0, none⟩)) ∧ v3.cell? ⟨P1, 1, none⟩ = some (.int .i64 a0) ∧ v3.cell? ⟨P1, 2, none⟩ = some (.int .i64 a1) ∧ v3.cell? ⟨P1, 3, none⟩ = some (.int .i64 a2) ∧ v3.cell? ⟨P1, 4, none⟩ = some (.int .i64 a3) ∧ v3.cell? ⟨P1, 5, none⟩ = some (.int .i64 a4)) := Lib.hid ⟨hk.cell HC.out.1 id, hk.cell HC.out.2.1 id, hk.cell HC.out.2.2.1 id, hk.cell HC.out.2.2.2.1 id, hk.cell HC.out.2.2.2.2.1 id, hk.cell HC.out.2.2.2.2.2.1 id, hk.cell HC.out.2.2.2.2.2.2 id⟩
  replace KT := Lib.hid (KT.out.trans hk (fun _ _ h => h))
  clear hk HFS
  refine ⟨.inr HC.out, ?_⟩
  iterate 2
    refine wpCanon_read (v := ?_) rfl (by kernel_rfl) (by rfl) ?_ ?_
    rotate_left
    · intro W hW
      try (obtain ⟨g1, g2, g3, g4, g5, g6, g7⟩ : _ ∧ _ ∧ _ ∧ _ ∧ _ ∧ _ ∧ _ := hW)
      go_simp
      try simp only [beq_self_eq_true]
      try rfl
    simp only [Act.put, List.setIfInBounds_toArray, List.set_cons_zero, List.set_cons_succ]
  refine wpCanon_nil ?_
  go_wp2
  go_ret
  exact ⟨rfl, K.out.trans KT.out (fun _ _ h => h)⟩
end
end Go.Proofs.YtbhohohgojcapaaGreat
