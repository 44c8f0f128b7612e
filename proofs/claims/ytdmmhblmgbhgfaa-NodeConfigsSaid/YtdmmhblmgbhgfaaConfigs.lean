/- NodeConfigs, walked. -/
import Derived.Test.YtdmmhblmgbhgfaaConf
import Derived.Test.YtdmmhblmgbhgfaaHead9
namespace Go.Proofs.Ytdmmhblmgbhgfaa
open Go.RowKit

set_option maxRecDepth 100000 in
theorem configs_ok (n0 n1 n2 n3 n4 : Int) (w : World) :
    Calls Try.prog 9 #[.agg #[.int .i64 n0, .int .i64 n1, .int .i64 n2, .int .i64 n3, .int .i64 n4]] w fun e w' => e = .returned (.bool true) ∧ Keeps Nob w w' := by
  go_enter Try.func9, Try.ntmps9
  go_wp2_with fail
  refine calls_at (fun wa hwa => ?_)
  have BA : Blk wa w.heap.size 82 #[.int .i64 n0, .int .i64 n1, .int .i64 n2, .int .i64 n3, .int .i64 n4] := (by rw [hwa]; exact Blk.new _ _ _)
  have hka : Keeps Nob w wa := (by rw [hwa]; exact Keeps.alloc _ w _)
  clear hwa
  refine (head9 wa).mono ?_
  rintro e w1 ⟨rfl, hK⟩
  have BN := Lib.hid (BA.keeps hK id)
  have HK := Lib.hid (hka.trans hK (fun _ _ => id))
  clear hK hka BA
  go_wp2_with fail
  refine wp_region_canon [0, 1, 2, 4, 3, 5, 6, 7, 8] 9 (fun W => W.cell? ⟨w.heap.size, 0, none⟩ = some (.int .i64 n0) ∧ W.cell? ⟨w.heap.size, 1, none⟩ = some (.int .i64 n1) ∧ W.cell? ⟨w.heap.size, 2, none⟩ = some (.int .i64 n2) ∧ W.cell? ⟨w.heap.size, 3, none⟩ = some (.int .i64 n3) ∧ W.cell? ⟨w.heap.size, 4, none⟩ = some (.int .i64 n4)) (by kernel_rfl) (by kernel_rfl) rfl (by kernel_rfl) (fun _ _ d _ _ h => by cases d <;> exact h) ⟨BN.out.cell 0, BN.out.cell 1, BN.out.cell 2, BN.out.cell 3, BN.out.cell 4⟩ ?_
  iterate 4
    refine wpCanon_read (v := ?_) rfl (by kernel_rfl) (by rfl) ?_ ?_
    rotate_left
    · intro W hW
      try (obtain ⟨h1, h2, h3, h4, h5⟩ : _ ∧ _ ∧ _ ∧ _ ∧ _ := hW)
      go_simp
      try rfl
    simp only [Act.put, List.setIfInBounds_toArray, List.set_cons_zero, List.set_cons_succ]
  refine wpCanon_act rfl (by kernel_rfl) ?_
  go_wp2_with (go_at_call 43; refine (confP n0 n1 n2 n3 n4 _).mono ?_; rintro e w2 ⟨rfl, hK2⟩; have HK2 := Lib.hid ((Keeps.drew Nob w1).trans hK2 (fun _ _ => id)); clear hK2)
  have BN2 := Lib.hid (BN.out.keeps HK2.out id)
  refine ⟨.inr ⟨BN2.out.cell 0, BN2.out.cell 1, BN2.out.cell 2, BN2.out.cell 3, BN2.out.cell 4⟩, ?_⟩
  refine wpCanon_act rfl (by kernel_rfl) ?_
  go_wp2_with (go_at_call 44; refine (confR n0 n1 n2 n3 n4 _).mono ?_; rintro e w3 ⟨rfl, hK3⟩; have HK3 := Lib.hid hK3; clear hK3)
  have BN3 := Lib.hid (BN2.out.keeps HK3.out id)
  refine ⟨.inr ⟨BN3.out.cell 0, BN3.out.cell 1, BN3.out.cell 2, BN3.out.cell 3, BN3.out.cell 4⟩, ?_⟩
  iterate 3
    refine wpCanon_read (v := ?_) rfl (by kernel_rfl) (by rfl) ?_ ?_
    rotate_left
    · intro W hW
      go_simp
      try rfl
    simp only [Act.put, List.setIfInBounds_toArray, List.set_cons_zero, List.set_cons_succ]
  refine wpCanon_nil ?_
  go_wp2
  go_ret
  exact ⟨rfl, (HK.out.trans HK2.out (fun _ _ => id)).trans HK3.out (fun _ _ => id)⟩
end Go.Proofs.Ytdmmhblmgbhgfaa
