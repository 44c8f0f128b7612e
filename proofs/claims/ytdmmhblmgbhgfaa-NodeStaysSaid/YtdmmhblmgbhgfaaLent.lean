/- lent: a node in new memory, each list with marks in its spare room. -/
import Derived.Test.YtdmmhblmgbhgfaaClone
import Derived.Test.YtdmmhblmgbhgfaaShape
import Derived.Lib.SlBytesConst
namespace Go.Proofs.Ytdmmhblmgbhgfaa
open Go.RowKit

theorem Blk.keepsO {w w' : World} {g : Nat} {t e : TypeId} {cs : Array Value} {S : Nat → Prop} {v : Value} {size n : Nat} {xs : List Value} (h : Blk w g t cs) (h' : Own w S e size v n xs) (ht : t ≠ e) (k : Keeps (fun b => v.ownBlock = some b) w w') : Blk w' g t cs :=
  h.keeps k (fun hg => by obtain ⟨cs', hb'⟩ := h'.ownBlk hg; exact Blk.ne_ h hb' ht rfl)
theorem Own.below {w : World} {S : Nat → Prop} {e : TypeId} {size n : Nat} {v : Value} {xs : List Value} (h : Own w S e size v n xs) : Own w (fun b => b < w.heap.size ∧ S b) e size v n xs := h.mono (fun b hb hs => ⟨hb, hs⟩)

section
variable {S : Nat → Prop} {w : World} {c0 c1 c2 c3 c4 c5 : Value} {n : Nd}

set_option maxRecDepth 100000 in
set_option maxHeartbeats 400000 in
theorem lent9 (h : IsNd w S c0 c1 c2 c3 c4 c5 n) (hs : NdSm 64 n) : Calls Try.prog 39 #[.agg #[c0, c1, c2, c3, c4, c5]] w fun e w' => ∃ d0 d1 d2 d3 d4 d5, e = .returned (.agg #[d0, d1, d2, d3, d4, d5]) ∧ Lent w' (Fresh w w') d0 d1 d2 d3 d4 d5 n ∧ Keeps Nob w w' := by
  have hcv : ∀ (w : World) (b : Nat) (C : Array Value) (n c : Nat), b = w.heap.size → (convert 44 44 (.slice (some ⟨b, 0, none⟩) n c)).run Try.prog (w.alloc (.cells C 5)).drew = .ok (.slice (some ⟨b, 0, none⟩) n c) (w.alloc (.cells C 5 (C.size, C.size + 1))).drew := fun w b C n c hb => by
    subst hb; exact Lib.run_convert_bytes_const (P := Try.prog) w.drew 44 5 C n c Try.underlying44 Try.underlying5
  obtain ⟨i1, hi1, hz10, hz11, hz12⟩ := info_parts Try.inf_u8
  obtain ⟨i3, hi3, hz30, hz31, hz32⟩ := info_parts Try.inf_text
  obtain ⟨i5, hi5, hz50, hz51, hz52⟩ := info_parts Try.inf_int
  have H := Lib.hid h
  have HS : Hid (NdSm 64 n) := hs
  have l1 : n.high.length ≤ 140737488355264 := by have := hs.1; unfold Sm at this; omega
  have l3 : n.keys.length * 24 + 64 ≤ 140737488355328 := by have := hs.2.1.1; unfold Sm at this; omega
  have l4 : n.vals.length * 24 + 64 ≤ 140737488355328 := by have := hs.2.2.1.1; unfold Sm at this; omega
  have l5 : n.kids.length * 8 + 64 ≤ 140737488355328 := by have := hs.2.2.2; unfold Sm at this; omega
  clear h hs
  go_enter Try.func39, Try.ntmps39
  go_wp2_with fail
  refine calls_at (fun wa hwa => ?_)
  have hka : Keeps Nob w wa := by rw [hwa]; exact (Keeps.alloc _ w _).alloc' _
  have hbr : Blk wa (w.heap.size + 1) 51 #[.int .i64 0, .slice none 0 0, .int .i64 0, .slice none 0 0, .slice none 0 0, .slice none 0 0] := by rw [hwa]; exact Blk.new' (by simp) _ _
  clear hwa
  refine (cloneR (H.out.keeps hka (fun _ _ _ => id)) (HS.out.mono (by decide))).mono ?_
  rintro e w1 ⟨d0, d1, d2, d3, d4, d5, rfl, hO, hK, hP, hT3, hT4⟩
  obtain ⟨D1, j1, f1⟩ := Own.form hO.1.high
  obtain ⟨D3, j3, f3⟩ := hO.2.keys.form
  obtain ⟨D4, j4, f4⟩ := hO.2.vals.form
  obtain ⟨D5, j5, f5⟩ := Own.form hO.2.kids
  have f0 := hO.1.lvl
  have f2 := hO.1.right
  unfold iV at f0 f2
  subst f0 f1 f2 f3 f4 f5
  have sa := hka.size
  have lr : w.heap.size + 1 < wa.heap.size := hbr.lt
  have R1 : Hid (OBy w1 (From w.heap.size) (.slice D1 n.high.length j1) n.high) := hO.1.high.mono (fun b _ hb => Nat.le_trans sa hb.1)
  have R3 : Hid (OTx w1 (fun b => OffB (.slice D1 n.high.length j1) b ∧ From w.heap.size b) (.slice D3 n.keys.length j3) n.keys) := hT3.mono (fun b _ hb => ⟨hb.1, Nat.le_trans sa hb.2.1⟩)
  have R4 : Hid (OTx w1 (fun b => OffB (.slice D1 n.high.length j1) b ∧ From w.heap.size b) (.slice D4 n.vals.length j4) n.vals) := hT4.mono (fun b _ hb => ⟨hb.1, Nat.le_trans sa hb.2.1⟩)
  have R5 : Hid (OIn w1 (From w.heap.size) (.slice D5 n.kids.length j5) n.kids) := hO.2.kids.mono (fun b _ hb => Nat.le_trans sa hb.1)
  have P34 : Hid (Prt (.slice D3 n.keys.length j3) (.slice D4 n.vals.length j4)) := hP
  have K1 := Lib.hid (hka.trans hK (fun _ _ h => h))
  have BR := Lib.hid (hbr.keeps hK id)
  have s1 : w.heap.size + 1 < w1.heap.size := Nat.lt_of_lt_of_le lr hK.size
  have ha : Apart 51 := ⟨by decide, by decide, by decide⟩
  clear hO hT3 hT4 hP hka hbr hK sa lr
  go_wp2_with fail
  refine code_at (fun wx hwx => ?_)
  have BX : Hid (Blk wx w1.heap.size 51 #[.int .i64 n.lvl, .slice D1 n.high.length j1, .int .i64 n.right, .slice D3 n.keys.length j3, .slice D4 n.vals.length j4, .slice D5 n.kids.length j5]) := by rw [hwx]; exact Blk.new w1 _ _
  have hkx : Keeps Nob w1 wx := by rw [hwx]; exact Keeps.alloc _ w1 _
  clear hwx
  have S1 := Lib.hid (R1.out.keeps hkx (fun _ _ _ => id))
  have S3 := Lib.hid (R3.out.keeps hkx (fun _ _ _ => id))
  have S4 := Lib.hid (R4.out.keeps hkx (fun _ _ _ => id))
  have S5 := Lib.hid (R5.out.keeps hkx (fun _ _ _ => id))
  have BRx := Lib.hid (BR.out.keeps hkx id)
  have Kx := Lib.hid (K1.out.trans hkx (fun _ _ h => h))
  clear R1 R3 R4 R5 BR K1 hkx
  generalize w1.heap.size = X at *
  refine wp_region_canon [0, 1, 2, 5, 6, 7, 8, 3, 4, 9, 10, 11, 12] 12 (fun W => W.cell? ⟨X, 1, none⟩ = some (.slice D1 n.high.length j1)) (by kernel_rfl) (by kernel_rfl) rfl (by kernel_rfl) (fun _ _ d _ _ h => by cases d <;> exact h) (BX.out.cell 1) ?_
  iterate 7
    refine wpCanon_read (v := ?_) rfl (by kernel_rfl) (by rfl) ?_ ?_
    rotate_left
    · intro W hW
      try (replace hW : World.cell? _ _ = some _ := hW)
      go_simp
      try rfl
    simp only [Act.put, List.setIfInBounds_toArray, List.set_cons_zero, List.set_cons_succ]
  refine wpCanon_act rfl (by kernel_rfl) ?_
  go_wp2
  refine ⟨.inr ((BX.out.drew.alloc _).cell 1), ?_⟩
  refine wpCanon_act rfl (by kernel_rfl) ?_
  go_wp2_with (at_builtin; refine list_at (fun wd hwd => ?_); refine wpList_app rfl (.tmp 8) (.tmp 9) 44 rfl Try.underlying44 hi1 hz10 hz11 hz12 rfl (by decide) (v := .slice D1 n.high.length j1) (n := n.high.length) (m := 2) (S := (From w.heap.size)) (T := fun _ => True) (xs := n.high.map bV) (news := [.int .u8 7, .int .u8 7]) rfl ?r1a (y := .slice (some ⟨wx.heap.size, 0, none⟩) 2 2) rfl ?r1b ?r1c ?r1d ?r1e ?r1f)
  case r1a => rw [hwd]; exact S1.out.keeps ((Keeps.drew Nob wx).alloc' _) (fun _ _ _ => id)
  case r1b => rw [hwd]; exact (SlG.lit wx.drew _ [.int .u8 7, .int .u8 7] 1 2 _ rfl rfl (by decide)).mono (fun _ _ _ => trivial)
  case r1c => intro u hu; simp at hu; subst hu; rfl
  case r1d => unfold maxLen; omega
  case r1e => omega
  intro v' w4 ho hk _
  rw [← hwd] at hk
  obtain ⟨E1, k1, hf⟩ := ho.form
  subst hf
  have hkd : Keeps Nob wx wd := by rw [hwd]; exact ((Keeps.drew Nob wx).alloc' _)
  have hod := S1.out.keeps hkd (fun _ _ _ => id)
  have BXa := Lib.hid ((BX.out.keeps hkd id).keepsO hod (by decide) hk)
  have BRa := Lib.hid ((BRx.out.keeps hkd id).keepsO hod (by decide) hk)
  have A1 : OBy w4 (From w.heap.size) (.slice E1 (n.high.length + 2) k1) (n.high ++ [7, 7]) := by
    unfold OBy
    rw [List.length_append, List.map_append]
    exact ho.mono (fun b _ hb => by
      rcases hb with hb | hb
      · exact (Own.blk S1.out hb).1
      · have := hb.1; have := hkd.size; have := Kx.out.size; exact (by omega : w.heap.size ≤ b))
  have A3 := ((S3.out.keeps hkd (fun _ _ _ => id)).keeps hk (fun b _ hb e => hb.1 e)).mono (T := From w.heap.size) (fun b _ hb => hb.2)
  have A4 := ((S4.out.keeps hkd (fun _ _ _ => id)).keeps hk (fun b _ hb e => hb.1 e)).mono (T := From w.heap.size) (fun b _ hb => hb.2)
  have A5 : OIn w4 _ _ _ := Own.keepsO (S5.out.keeps hkd (fun _ _ _ => id)) hod (by decide) hk
  have Ka : Hid (Keeps Nob w w4) := (Kx.out.trans hkd (fun _ _ h => h)).trans hk (fun b hb e => by have := (Own.blk S1.out e).1; unfold From at this; omega)
  have hca := ho.at_.1
  have hcb : n.high.length ≤ k1 := by omega
  have HA1 := Lib.hid A1
  have HA3 := Lib.hid A3
  have HA4 := Lib.hid A4
  have HA5 := Lib.hid A5
  clear ho hk hod hkd hwd A1 A3 A4 A5 BX BRx Kx S1 S3 S4 S5
  have q := fun i => BXa.out.cell i
  have g := fun i => BXa.out.frozen i
  refine ⟨.inr (BXa.out.cell 1), ?_⟩
  iterate 3
    refine wpCanon_read (v := ?_) rfl (by kernel_rfl) (by rfl) ?_ ?_
    rotate_left
    · intro W hW
      try (replace hW : World.cell? _ _ = some _ := hW)
      go_simp
      try rfl
    simp only [Act.put, List.setIfInBounds_toArray, List.set_cons_zero, List.set_cons_succ]
  refine wpCanon_act rfl (by kernel_rfl) ?_
  go_wp2
  refine ⟨.inl (by kernel_rfl), ?_⟩
  refine wpCanon_nil ?_
  go_wp2_with fail
  refine code_at (fun wy1 hwy => ?_)
  clear q g
  have hky : Keeps (fun b => b = X) w4 wy1 := by rw [hwy]; exact Keeps.setCell w4 (M := fun b => b = X) rfl _
  have BX1 : Hid (Blk wy1 X 51 #[.int .i64 n.lvl, .slice E1 n.high.length k1, .int .i64 n.right, .slice D3 n.keys.length j3, .slice D4 n.vals.length j4, .slice D5 n.kids.length j5]) := by rw [hwy]; exact BXa.out.set_ 1 _
  have BR1 := Lib.hid (BRa.out.keeps hky (by show ¬ _ = _; omega))
  have S1 : Hid (LeB wy1 (From w.heap.size) (.slice E1 n.high.length k1) n.high) := ⟨_, _, rfl, HA1.out.keepsB BXa.out ha hky⟩
  have S3 := Lib.hid (HA3.out.keepsB BXa.out ha hky)
  have S4 := Lib.hid (HA4.out.keepsB BXa.out ha hky)
  have S5 := Lib.hid (HA5.out.keepsB BXa.out ha hky)
  have K1 : Hid (Keeps Nob w wy1) := Ka.out.trans hky (fun b hb e => by subst e; omega)
  clear hky hwy BXa BRa Ka HA1 HA3 HA4 HA5
  obtain ⟨vs3, ho3, hl3, hv3⟩ := S3.out
  have HO3 := Lib.hid ho3
  have HV3 := Lib.hid (And.intro hl3 hv3)
  clear ho3 hl3 hv3
  refine wp_region_canon [0, 1, 2, 7, 8, 9, 10, 3, 4, 5, 6, 11, 12, 13, 14] 14 (fun W => W.cell? ⟨X, 3, none⟩ = some (.slice D3 n.keys.length j3)) (by kernel_rfl) (by kernel_rfl) rfl (by kernel_rfl) (fun _ _ d _ _ h => by cases d <;> exact h) (BX1.out.cell 3) ?_
  iterate 7
    refine wpCanon_read (v := ?_) rfl (by kernel_rfl) (by rfl) ?_ ?_
    rotate_left
    · intro W hW
      try (replace hW : World.cell? _ _ = some _ := hW)
      go_simp
      try rfl
    simp only [Act.put, List.setIfInBounds_toArray, List.set_cons_zero, List.set_cons_succ]
  refine wpCanon_act rfl (by kernel_rfl) ?_
  go_wp2
  refine ⟨.inr ((BX1.out.drew.alloc _).cell 3), ?_⟩
  refine wpCanon_act rfl (by kernel_rfl) ?_
  go_wp2
  refine ⟨.inr ((BX1.out.drew.alloc _).cell 3), ?_⟩
  refine wpCanon_act rfl (by kernel_rfl) ?_
  go_wp2
  refine ⟨.inr (((BX1.out.drew.alloc _).alloc _).cell 3), ?_⟩
  refine wpCanon_act rfl (by kernel_rfl) ?_
  go_wp2_with (at_builtin; refine list_at (fun wd hwd => ?_); refine wpList_app rfl (.tmp 20) (.tmp 23) 47 rfl Try.underlying47 hi3 hz30 hz31 hz32 rfl (by decide) (v := .slice D3 n.keys.length j3) (n := n.keys.length) (m := 1) (S := (From w.heap.size)) (T := fun _ => True) (xs := vs3) (news := [.slice (some ⟨wy1.heap.size, 0, none⟩) 5 5]) rfl ?r3a (y := .slice (some ⟨wy1.heap.size + 1, 0, none⟩) 1 1) rfl ?r3b ?r3c ?r3d ?r3e ?r3f)
  case r3a => rw [hwd]; exact HO3.out.keeps (((Keeps.drew Nob wy1).alloc' _).alloc' _) (fun _ _ _ => id)
  case r3b => rw [hwd]; exact (SlG.lit1 _ _ _ _ (by simp)).mono (fun _ _ _ => trivial)
  case r3c => intro u hu; simp at hu; subst hu; rfl
  case r3d => unfold maxLen; omega
  case r3e => omega
  intro v' w4 ho hk _
  rw [← hwd] at hk
  obtain ⟨E3, k3, hf⟩ := ho.form
  subst hf
  have hkd : Keeps Nob wy1 wd := by rw [hwd]; exact (((Keeps.drew Nob wy1).alloc' _).alloc' _)
  have hod := HO3.out.keeps hkd (fun _ _ _ => id)
  have sp : Spare wd (From w.heap.size) (.slice (some ⟨wy1.heap.size, 0, none⟩) 5 5) := by
    rw [hwd]; exact ⟨_, rfl, K1.out.size, (Below.heap_alloc _ _ _ (by simp)).trans (heap_alloc_new _ _)⟩
  have BXa := Lib.hid ((BX1.out.keeps hkd id).keepsO hod (by decide) hk)
  have BRa := Lib.hid ((BR1.out.keeps hkd id).keepsO hod (by decide) hk)
  have A3 : LeT w4 (From w.heap.size) (.slice E3 n.keys.length k3) n.keys := ⟨_, _, vs3, _, rfl, ho.mono (fun b _ hb => by
      rcases hb with hb | hb
      · exact (Own.blk HO3.out hb).1
      · have := hb.1; have := hkd.size; have := K1.out.size; exact (by omega : w.heap.size ≤ b)), HV3.out.1, fun i u x hu hx => Own.keepsO ((HV3.out.2 i u x hu hx).keeps hkd (fun _ _ _ => id)) hod (by decide) hk, sp.keepsO hod hk⟩
  have A1 := (S1.out.keeps hkd (fun _ _ _ => id)).keepsO hod (by decide) hk
  have A4 := (S4.out.keeps hkd (fun _ _ _ => id)).keepsR ⟨_, hod, HV3.out.1, fun i u x hu hx => ((HV3.out.2 i u x hu hx).keeps hkd (fun _ _ _ => id))⟩ (fun b h1 h2 => P34.out b h2 h1) hk
  have A5 : OIn w4 _ _ _ := Own.keepsO (S5.out.keeps hkd (fun _ _ _ => id)) hod (by decide) hk
  have Q34 : Hid (Prt (.slice E3 n.keys.length k3) (.slice D4 n.vals.length j4)) := fun b h1 h2 => by
    have h3 : (Value.slice E3 (n.keys.length + 1) k3).ownBlock = some b := by cases E3 <;> exact h1
    rcases (ho.blk h3).1 with hb | hb
    · exact P34.out b hb h2
    · have := (S4.out.blk h2).2; have := hb.1; have := hkd.size; omega
  have Ka : Hid (Keeps Nob w w4) := (K1.out.trans hkd (fun _ _ h => h)).trans hk (fun b hb e => by have := (Own.blk HO3.out e).1; unfold From at this; omega)
  have hca := ho.at_.1
  have hcb : n.keys.length ≤ k3 := by omega
  have HA1 := Lib.hid A1
  have HA3 := Lib.hid A3
  have HA4 := Lib.hid A4
  have HA5 := Lib.hid A5
  clear ho hk hod hkd hwd A1 A3 A4 A5 BX1 BR1 K1 S1 S3 S4 S5 HO3 HV3 sp
  have q := fun i => BXa.out.cell i
  have g := fun i => BXa.out.frozen i
  refine ⟨.inr (BXa.out.cell 3), ?_⟩
  iterate 3
    refine wpCanon_read (v := ?_) rfl (by kernel_rfl) (by rfl) ?_ ?_
    rotate_left
    · intro W hW
      try (replace hW : World.cell? _ _ = some _ := hW)
      go_simp
      try rfl
    simp only [Act.put, List.setIfInBounds_toArray, List.set_cons_zero, List.set_cons_succ]
  refine wpCanon_act rfl (by kernel_rfl) ?_
  go_wp2
  refine ⟨.inl (by kernel_rfl), ?_⟩
  refine wpCanon_nil ?_
  go_wp2_with fail
  refine code_at (fun wy3 hwy => ?_)
  clear q g
  have hky : Keeps (fun b => b = X) w4 wy3 := by rw [hwy]; exact Keeps.setCell w4 (M := fun b => b = X) rfl _
  have BX3 : Hid (Blk wy3 X 51 #[.int .i64 n.lvl, .slice E1 n.high.length k1, .int .i64 n.right, .slice E3 n.keys.length k3, .slice D4 n.vals.length j4, .slice D5 n.kids.length j5]) := by rw [hwy]; exact BXa.out.set_ 3 _
  have BR3 := Lib.hid (BRa.out.keeps hky (by show ¬ _ = _; omega))
  have S1 := Lib.hid (HA1.out.keepsB BXa.out ha hky)
  have S3 := Lib.hid (HA3.out.keepsB BXa.out ha hky)
  have S4 := Lib.hid (HA4.out.keepsB BXa.out ha hky)
  have S5 := Lib.hid (HA5.out.keepsB BXa.out ha hky)
  have K3 : Hid (Keeps Nob w wy3) := Ka.out.trans hky (fun b hb e => by subst e; omega)
  clear hky hwy BXa BRa Ka HA1 HA3 HA4 HA5
  obtain ⟨vs4, ho4, hl4, hv4⟩ := S4.out
  have HO4 := Lib.hid ho4
  have HV4 := Lib.hid (And.intro hl4 hv4)
  clear ho4 hl4 hv4
  refine wp_region_canon [0, 1, 2, 7, 8, 9, 10, 3, 4, 5, 6, 11, 12, 13, 14] 14 (fun W => W.cell? ⟨X, 4, none⟩ = some (.slice D4 n.vals.length j4)) (by kernel_rfl) (by kernel_rfl) rfl (by kernel_rfl) (fun _ _ d _ _ h => by cases d <;> exact h) (BX3.out.cell 4) ?_
  iterate 7
    refine wpCanon_read (v := ?_) rfl (by kernel_rfl) (by rfl) ?_ ?_
    rotate_left
    · intro W hW
      try (replace hW : World.cell? _ _ = some _ := hW)
      go_simp
      try rfl
    simp only [Act.put, List.setIfInBounds_toArray, List.set_cons_zero, List.set_cons_succ]
  refine wpCanon_act rfl (by kernel_rfl) ?_
  go_wp2
  refine ⟨.inr ((BX3.out.drew.alloc _).cell 4), ?_⟩
  refine wpCanon_act rfl (by kernel_rfl) ?_
  go_wp2
  refine ⟨.inr ((BX3.out.drew.alloc _).cell 4), ?_⟩
  refine wpCanon_act rfl (by kernel_rfl) ?_
  go_wp2
  refine ⟨.inr (((BX3.out.drew.alloc _).alloc _).cell 4), ?_⟩
  refine wpCanon_act rfl (by kernel_rfl) ?_
  go_wp2_with (at_builtin; refine list_at (fun wd hwd => ?_); refine wpList_app rfl (.tmp 34) (.tmp 37) 47 rfl Try.underlying47 hi3 hz30 hz31 hz32 rfl (by decide) (v := .slice D4 n.vals.length j4) (n := n.vals.length) (m := 1) (S := (From w.heap.size)) (T := fun _ => True) (xs := vs4) (news := [.slice (some ⟨wy3.heap.size, 0, none⟩) 5 5]) rfl ?r4a (y := .slice (some ⟨wy3.heap.size + 1, 0, none⟩) 1 1) rfl ?r4b ?r4c ?r4d ?r4e ?r4f)
  case r4a => rw [hwd]; exact HO4.out.keeps (((Keeps.drew Nob wy3).alloc' _).alloc' _) (fun _ _ _ => id)
  case r4b => rw [hwd]; exact (SlG.lit1 _ _ _ _ (by simp)).mono (fun _ _ _ => trivial)
  case r4c => intro u hu; simp at hu; subst hu; rfl
  case r4d => unfold maxLen; omega
  case r4e => omega
  intro v' w4 ho hk _
  rw [← hwd] at hk
  obtain ⟨E4, k4, hf⟩ := ho.form
  subst hf
  have hkd : Keeps Nob wy3 wd := by rw [hwd]; exact (((Keeps.drew Nob wy3).alloc' _).alloc' _)
  have hod := HO4.out.keeps hkd (fun _ _ _ => id)
  have sp : Spare wd (From w.heap.size) (.slice (some ⟨wy3.heap.size, 0, none⟩) 5 5) := by
    rw [hwd]; exact ⟨_, rfl, K3.out.size, (Below.heap_alloc _ _ _ (by simp)).trans (heap_alloc_new _ _)⟩
  have BXa := Lib.hid ((BX3.out.keeps hkd id).keepsO hod (by decide) hk)
  have BRa := Lib.hid ((BR3.out.keeps hkd id).keepsO hod (by decide) hk)
  have A4 : LeT w4 (From w.heap.size) (.slice E4 n.vals.length k4) n.vals := ⟨_, _, vs4, _, rfl, ho.mono (fun b _ hb => by
      rcases hb with hb | hb
      · exact (Own.blk HO4.out hb).1
      · have := hb.1; have := hkd.size; have := K3.out.size; exact (by omega : w.heap.size ≤ b)), HV4.out.1, fun i u x hu hx => Own.keepsO ((HV4.out.2 i u x hu hx).keeps hkd (fun _ _ _ => id)) hod (by decide) hk, sp.keepsO hod hk⟩
  have A1 := (S1.out.keeps hkd (fun _ _ _ => id)).keepsO hod (by decide) hk
  have A3 := (S3.out.keeps hkd (fun _ _ _ => id)).keepsR hod Q34.out hk
  have A5 : OIn w4 _ _ _ := Own.keepsO (S5.out.keeps hkd (fun _ _ _ => id)) hod (by decide) hk
  have Ka : Hid (Keeps Nob w w4) := (K3.out.trans hkd (fun _ _ h => h)).trans hk (fun b hb e => by have := (Own.blk HO4.out e).1; unfold From at this; omega)
  have hca := ho.at_.1
  have hcb : n.vals.length ≤ k4 := by omega
  have HA1 := Lib.hid A1
  have HA3 := Lib.hid A3
  have HA4 := Lib.hid A4
  have HA5 := Lib.hid A5
  clear ho hk hod hkd hwd A1 A3 A4 A5 BX3 BR3 K3 S1 S3 S4 S5 HO4 HV4 sp
  have q := fun i => BXa.out.cell i
  have g := fun i => BXa.out.frozen i
  refine ⟨.inr (BXa.out.cell 4), ?_⟩
  iterate 3
    refine wpCanon_read (v := ?_) rfl (by kernel_rfl) (by rfl) ?_ ?_
    rotate_left
    · intro W hW
      try (replace hW : World.cell? _ _ = some _ := hW)
      go_simp
      try rfl
    simp only [Act.put, List.setIfInBounds_toArray, List.set_cons_zero, List.set_cons_succ]
  refine wpCanon_act rfl (by kernel_rfl) ?_
  go_wp2
  refine ⟨.inl (by kernel_rfl), ?_⟩
  refine wpCanon_nil ?_
  go_wp2_with fail
  refine code_at (fun wy4 hwy => ?_)
  clear q g
  have hky : Keeps (fun b => b = X) w4 wy4 := by rw [hwy]; exact Keeps.setCell w4 (M := fun b => b = X) rfl _
  have BX4 : Hid (Blk wy4 X 51 #[.int .i64 n.lvl, .slice E1 n.high.length k1, .int .i64 n.right, .slice E3 n.keys.length k3, .slice E4 n.vals.length k4, .slice D5 n.kids.length j5]) := by rw [hwy]; exact BXa.out.set_ 4 _
  have BR4 := Lib.hid (BRa.out.keeps hky (by show ¬ _ = _; omega))
  have S1 := Lib.hid (HA1.out.keepsB BXa.out ha hky)
  have S3 := Lib.hid (HA3.out.keepsB BXa.out ha hky)
  have S4 := Lib.hid (HA4.out.keepsB BXa.out ha hky)
  have S5 := Lib.hid (HA5.out.keepsB BXa.out ha hky)
  have K4 : Hid (Keeps Nob w wy4) := Ka.out.trans hky (fun b hb e => by subst e; omega)
  clear hky hwy BXa BRa Ka HA1 HA3 HA4 HA5
  refine wp_region_canon [0, 1, 2, 5, 6, 7, 8, 3, 4, 9, 10, 11, 12] 12 (fun W => W.cell? ⟨X, 5, none⟩ = some (.slice D5 n.kids.length j5)) (by kernel_rfl) (by kernel_rfl) rfl (by kernel_rfl) (fun _ _ d _ _ h => by cases d <;> exact h) (BX4.out.cell 5) ?_
  iterate 7
    refine wpCanon_read (v := ?_) rfl (by kernel_rfl) (by rfl) ?_ ?_
    rotate_left
    · intro W hW
      try (replace hW : World.cell? _ _ = some _ := hW)
      go_simp
      try rfl
    simp only [Act.put, List.setIfInBounds_toArray, List.set_cons_zero, List.set_cons_succ]
  refine wpCanon_act rfl (by kernel_rfl) ?_
  go_wp2
  refine ⟨.inr ((BX4.out.drew.alloc _).cell 5), ?_⟩
  refine wpCanon_act rfl (by kernel_rfl) ?_
  go_wp2_with (at_builtin; refine list_at (fun wd hwd => ?_); refine wpList_app rfl (.tmp 48) (.tmp 49) 33 rfl Try.underlying33 hi5 hz50 hz51 hz52 rfl (by decide) (v := .slice D5 n.kids.length j5) (n := n.kids.length) (m := 1) (S := (From w.heap.size)) (T := fun _ => True) (xs := n.kids.map iV) (news := [.int .i64 777]) rfl ?r5a (y := .slice (some ⟨wy4.heap.size, 0, none⟩) 1 1) rfl ?r5b ?r5c ?r5d ?r5e ?r5f)
  case r5a => rw [hwd]; exact S5.out.keeps ((Keeps.drew Nob wy4).alloc' _) (fun _ _ _ => id)
  case r5b => rw [hwd]; exact (SlG.lit1 wy4.drew _ _ _ rfl).mono (fun _ _ _ => trivial)
  case r5c => intro u hu; simp at hu; subst hu; rfl
  case r5d => unfold maxLen; omega
  case r5e => omega
  intro v' w4 ho hk _
  rw [← hwd] at hk
  obtain ⟨E5, k5, hf⟩ := ho.form
  subst hf
  have hkd : Keeps Nob wy4 wd := by rw [hwd]; exact ((Keeps.drew Nob wy4).alloc' _)
  have hod := S5.out.keeps hkd (fun _ _ _ => id)
  have BXa := Lib.hid ((BX4.out.keeps hkd id).keepsO hod (by decide) hk)
  have BRa := Lib.hid ((BR4.out.keeps hkd id).keepsO hod (by decide) hk)
  have A5 : OIn w4 (From w.heap.size) (.slice E5 (n.kids.length + 1) k5) (n.kids ++ [777]) := by
    unfold OIn
    rw [List.length_append, List.map_append]
    exact ho.mono (fun b _ hb => by
      rcases hb with hb | hb
      · exact (Own.blk S5.out hb).1
      · have := hb.1; have := hkd.size; have := K4.out.size; exact (by omega : w.heap.size ≤ b))
  have A1 := (S1.out.keeps hkd (fun _ _ _ => id)).keepsO hod (by decide) hk
  have A3 := (S3.out.keeps hkd (fun _ _ _ => id)).keepsO hod (by decide) (by decide) hk
  have A4 := (S4.out.keeps hkd (fun _ _ _ => id)).keepsO hod (by decide) (by decide) hk
  have Ka : Hid (Keeps Nob w w4) := (K4.out.trans hkd (fun _ _ h => h)).trans hk (fun b hb e => by have := (Own.blk S5.out e).1; unfold From at this; omega)
  have hca := ho.at_.1
  have hcb : n.kids.length ≤ k5 := by omega
  have HA1 := Lib.hid A1
  have HA3 := Lib.hid A3
  have HA4 := Lib.hid A4
  have HA5 := Lib.hid A5
  clear ho hk hod hkd hwd A1 A3 A4 A5 BX4 BR4 K4 S1 S3 S4 S5
  have q := fun i => BXa.out.cell i
  have g := fun i => BXa.out.frozen i
  refine ⟨.inr (BXa.out.cell 5), ?_⟩
  iterate 3
    refine wpCanon_read (v := ?_) rfl (by kernel_rfl) (by rfl) ?_ ?_
    rotate_left
    · intro W hW
      try (replace hW : World.cell? _ _ = some _ := hW)
      go_simp
      try rfl
    simp only [Act.put, List.setIfInBounds_toArray, List.set_cons_zero, List.set_cons_succ]
  refine wpCanon_act rfl (by kernel_rfl) ?_
  go_wp2
  refine ⟨.inl (by kernel_rfl), ?_⟩
  refine wpCanon_nil ?_
  have r := fun i => BRa.out.cell i
  have rg := fun i => BRa.out.frozen i
  go_wp2
  refine post_at (fun w6 hw6 => ?_)
  clear q g r rg
  have hky : Keeps (fun b => b = X) w4 (w4.setCell ⟨X, 5, none⟩ (.slice E5 n.kids.length k5)) := Keeps.setCell w4 (M := fun b => b = X) rfl _
  have BR5 := BRa.out.keeps hky (by show ¬ _ = _; omega)
  have BR6 : Blk w6 (w.heap.size + 1) 51 #[.int .i64 n.lvl, .slice E1 n.high.length k1, .int .i64 n.right, .slice E3 n.keys.length k3, .slice E4 n.vals.length k4, .slice E5 n.kids.length k5] := by
    rw [hw6]; exact (((((BR5.set_ 0 _).set_ 1 _).set_ 2 _).set_ 3 _).set_ 4 _).set_ 5 _
  have hk6 : Keeps (fun b => b = w.heap.size + 1) (w4.setCell ⟨X, 5, none⟩ (.slice E5 n.kids.length k5)) w6 := by
    rw [hw6]; exact (((((Keeps.setCell _ (M := fun b => b = w.heap.size + 1) rfl _).setCell' (fun _ => rfl) _).setCell' (fun _ => rfl) _).setCell' (fun _ => rfl) _).setCell' (fun _ => rfl) _).setCell' (fun _ => rfl) _
  clear hw6
  have r0 := BR6.cell 0
  have r1 := BR6.cell 1
  have r2 := BR6.cell 2
  have r3 := BR6.cell 3
  have r4 := BR6.cell 4
  have r5 := BR6.cell 5
  refine bodyPost_ret (v := .agg #[.int .i64 n.lvl, .slice E1 n.high.length k1, .int .i64 n.right, .slice E3 n.keys.length k3, .slice E4 n.vals.length k4, .slice E5 n.kids.length k5]) (by simp [results, Try.results39, go_sem, r0, r1, r2, r3, r4, r5]) rfl ⟨_, _, _, _, _, _, rfl, ⟨rfl, ?_, rfl, ?_, ?_, ?_⟩, (Ka.out.trans hky (fun b hb e => by subst e; omega)).trans hk6 (fun b hb e => by subst e; omega)⟩
  · exact ((HA1.out.keepsB BXa.out ha hky).keepsB BR5 ha hk6).mono (fun b hb h => ⟨h, hb⟩)
  · exact ((HA3.out.keepsB BXa.out ha hky).keepsB BR5 ha hk6).mono (fun b hb h => ⟨h, hb⟩)
  · exact ((HA4.out.keepsB BXa.out ha hky).keepsB BR5 ha hk6).mono (fun b hb h => ⟨h, hb⟩)
  · exact ⟨_, _, rfl, ((HA5.out.keepsB BXa.out ha hky).keepsB BR5 ha hk6).mono (fun b hb h => ⟨h, hb⟩)⟩
end
end Go.Proofs.Ytdmmhblmgbhgfaa
