/- The document's machine of a descent: one step. -/
import Derived.Test.YtbhohohgojcapaaGreatDesD
import Derived.Test.YtbhohohgojcapaaGreatDesS
namespace Go.Proofs.YtbhohohgojcapaaGreat
open Go.RowKit

section
variable {w : World} {G S : Nat → Prop} {b p q m : Nat} {A B : Ar} {M : Mc}

set_option maxRecDepth 100000 in
set_option maxHeartbeats 1600000 in
theorem stepR_done (hJ : J w G b p q A B) (hG : ¬ G m) (h : MR w m q S M) (hm : ¬ S m) (hn : M.nx = .done) : Calls Tryz.prog 53 #[pV m] w fun e w' => e = .returned (.bool true) ∧ StR w w' m q S (M) := by
  obtain ⟨⟨kv, c0, c1, c2, c3, c4, c5, hb, hk, hn⟩, hu, hs⟩ := h
  obtain ⟨KA, kc, ek, _, _⟩ := hk.form
  obtain ⟨X1, k1, e1, _, _⟩ := hn.1.high.form
  obtain ⟨X3, k3, e3, _, _⟩ := hn.2.keys.form
  obtain ⟨X4, k4, e4, _, _⟩ := hn.2.vals.form
  obtain ⟨X5, k5, e5, _, _⟩ := hn.2.kids.form
  have e0 := hn.1.lvl
  have e2 := hn.1.right
  unfold iV at e0 e2
  subst ek e0 e1 e2 e3 e4 e5
  have HB := Lib.hid hb
  have HKY := Lib.hid hk
  have HH := Lib.hid hn.1
  have HD := Lib.hid hn.2
  have HU : Hid (U64 M.word) := hu
  have HS : Hid (NdSm 0 M.nd) := hs
  have HJ := Lib.hid hJ
  have HG : Hid (¬ G m) := hG
  have HM : Hid (¬ S m) := hm
  have HLT := Lib.hid hb.lt
  clear hJ hb hk hn hu hs hG hm
  have hmf : ∀ (fn : Fn) (first cap : Array Value) (w : World), (Instr.makeFunc fn first cap).run Tryz.prog w = .ok (.func fn first cap) w := fun _ _ _ _ => rfl
  have hsf : ∀ (a : Addr) (fn : Fn) (first cap : Array Value) (w : World), (store a (.func fn first cap)).run Tryz.prog w = stored Tryz.prog w a (.func fn first cap) .plain := fun a fn f c w => run_store Tryz.prog w a (.func fn f c) .plain rfl
  have hsn : ∀ (a : Addr) (w : World), (store a .nilFunc).run Tryz.prog w = stored Tryz.prog w a .nilFunc .plain := fun a w => run_store Tryz.prog w a .nilFunc .plain rfl
  clear hmf hsf hsn
  replace HB : Hid (Blk w m 181 #[pV q, .slice KA M.key.length kc, iV M.level, .int .i64 5, iV M.id, .int .u64 M.word, .int .i64 M.nd.lvl, .slice X1 M.nd.high.length k1, .int .i64 M.nd.right, .slice X3 M.nd.keys.length k3, .slice X4 M.nd.vals.length k4, .slice X5 M.nd.kids.length k5, .bool M.there, iV M.again, iV M.right]) := by have h := HB.out; rw [hn] at h; exact h
  have hn0 := Lib.hid hn
  clear hn
  unfold pV
  go_enter Tryz.func53, Tryz.ntmps53
  have q3 := HB.out.cell 3
  have g3 := HB.out.frozen 3
  unfold pV iV at q3
  go_wp2
  clear q3 g3
  go_ret
  refine ⟨rfl, ⟨S, ⟨⟨_, _, _, _, _, _, _, (by rw [hn0.out]; exact HB.out), HKY.out, ⟨HH.out, HD.out⟩⟩, HU.out, HS.out⟩, fun x h => .inl h⟩, Keeps.refl _ _⟩
set_option maxRecDepth 100000 in
set_option maxHeartbeats 1600000 in
theorem stepR_root (hJ : J w G b p q A B) (hG : ¬ G m) (h : MR w m q S M) (hm : ¬ S m) (hn : M.nx = .root) : Calls Tryz.prog 53 #[pV m] w fun e w' => e = .returned (.bool false) ∧ StR w w' m q S (rootM B M) := by
  obtain ⟨⟨kv, c0, c1, c2, c3, c4, c5, hb, hk, hn⟩, hu, hs⟩ := h
  obtain ⟨KA, kc, ek, _, _⟩ := hk.form
  obtain ⟨X1, k1, e1, _, _⟩ := hn.1.high.form
  obtain ⟨X3, k3, e3, _, _⟩ := hn.2.keys.form
  obtain ⟨X4, k4, e4, _, _⟩ := hn.2.vals.form
  obtain ⟨X5, k5, e5, _, _⟩ := hn.2.kids.form
  have e0 := hn.1.lvl
  have e2 := hn.1.right
  unfold iV at e0 e2
  subst ek e0 e1 e2 e3 e4 e5
  have HB := Lib.hid hb
  have HKY := Lib.hid hk
  have HH := Lib.hid hn.1
  have HD := Lib.hid hn.2
  have HU : Hid (U64 M.word) := hu
  have HS : Hid (NdSm 0 M.nd) := hs
  have HJ := Lib.hid hJ
  have HG : Hid (¬ G m) := hG
  have HM : Hid (¬ S m) := hm
  have HLT := Lib.hid hb.lt
  clear hJ hb hk hn hu hs hG hm
  have hmf : ∀ (fn : Fn) (first cap : Array Value) (w : World), (Instr.makeFunc fn first cap).run Tryz.prog w = .ok (.func fn first cap) w := fun _ _ _ _ => rfl
  have hsf : ∀ (a : Addr) (fn : Fn) (first cap : Array Value) (w : World), (store a (.func fn first cap)).run Tryz.prog w = stored Tryz.prog w a (.func fn first cap) .plain := fun a fn f c w => run_store Tryz.prog w a (.func fn f c) .plain rfl
  have hsn : ∀ (a : Addr) (w : World), (store a .nilFunc).run Tryz.prog w = stored Tryz.prog w a .nilFunc .plain := fun a w => run_store Tryz.prog w a .nilFunc .plain rfl
  clear hmf hsf hsn
  replace HB : Hid (Blk w m 181 #[pV q, .slice KA M.key.length kc, iV M.level, .int .i64 0, iV M.id, .int .u64 M.word, .int .i64 M.nd.lvl, .slice X1 M.nd.high.length k1, .int .i64 M.nd.right, .slice X3 M.nd.keys.length k3, .slice X4 M.nd.vals.length k4, .slice X5 M.nd.kids.length k5, .bool M.there, iV M.again, iV M.right]) := by have h := HB.out; rw [hn] at h; exact h
  clear hn
  unfold pV
  go_enter Tryz.func53, Tryz.ntmps53
  have HR := Lib.hid HJ.out.rootR
  unfold pV iV at HR
  have q0 := HB.out.cell 0
  have g0 := HB.out.frozen 0
  have q3 := HB.out.cell 3
  have g3 := HB.out.frozen 3
  have q4 := HB.out.cell 4
  have g4 := HB.out.frozen 4
  unfold pV iV at q0 q3 q4
  go_wp2_with (go_at_call 42; refine HR.out.mono ?_; rintro e w1 ⟨rfl, rfl⟩)
  clear q0 g0 q3 g3 q4 g4
  refine post_at (fun w1 hw => ?_)
  have hk : Keeps (fun x => x = m) w w1 := by rw [hw]; exact (Keeps.setCell _ (M := fun b => b = m) rfl _).setCell' (fun _ => rfl) _
  replace HB : Hid (Blk w1 m 181 #[pV q, .slice KA M.key.length kc, iV M.level, .int .i64 1, iV B.root, .int .u64 M.word, .int .i64 M.nd.lvl, .slice X1 M.nd.high.length k1, .int .i64 M.nd.right, .slice X3 M.nd.keys.length k3, .slice X4 M.nd.vals.length k4, .slice X5 M.nd.kids.length k5, .bool M.there, iV M.again, iV M.right]) := by rw [hw]; exact ((HB.out.set_ 4 _).set_ 3 _)
  clear hw
  replace HKY := Lib.hid (HKY.out.keeps hk (fun x _ hx e => HM.out (e ▸ hx)))
  replace HH := Lib.hid (HH.out.keeps hk (fun x _ hx e => HM.out (e ▸ hx)))
  replace HD := Lib.hid (HD.out.keeps hk (fun x _ hx e => HM.out (e ▸ hx)))
  replace HJ := Lib.hid (HJ.out.keeps hk (fun x _ hx e => HG.out (e ▸ hx)))
  have K := Lib.hid hk
  clear hk
  go_ret
  refine ⟨rfl, ⟨S, ⟨⟨_, _, _, _, _, _, _, HB.out, HKY.out, ⟨HH.out, HD.out⟩⟩, HU.out, HS.out⟩, fun x h => .inl h⟩, K.out⟩
set_option maxRecDepth 100000 in
set_option maxHeartbeats 1600000 in
theorem stepR_latch_ex (hJ : J w G b p q A B) (hG : ¬ G m) (h : MR w m q S M) (hm : ¬ S m) (hn : M.nx = .latch) (hc : opWord B M.id % 2 = 0) (c1 : ¬ opErr B M.id = 0) : Calls Tryz.prog 53 #[pV m] w fun e w' => e = .returned (.bool true) ∧ StR w w' m q S ({ M with word := opWord B M.id, nx := .done }) := by
  obtain ⟨⟨kv, c0, c1, c2, c3, c4, c5, hb, hk, hn⟩, hu, hs⟩ := h
  obtain ⟨KA, kc, ek, _, _⟩ := hk.form
  obtain ⟨X1, k1, e1, _, _⟩ := hn.1.high.form
  obtain ⟨X3, k3, e3, _, _⟩ := hn.2.keys.form
  obtain ⟨X4, k4, e4, _, _⟩ := hn.2.vals.form
  obtain ⟨X5, k5, e5, _, _⟩ := hn.2.kids.form
  have e0 := hn.1.lvl
  have e2 := hn.1.right
  unfold iV at e0 e2
  subst ek e0 e1 e2 e3 e4 e5
  have HB := Lib.hid hb
  have HKY := Lib.hid hk
  have HH := Lib.hid hn.1
  have HD := Lib.hid hn.2
  have HU : Hid (U64 M.word) := hu
  have HS : Hid (NdSm 0 M.nd) := hs
  have HJ := Lib.hid hJ
  have HG : Hid (¬ G m) := hG
  have HM : Hid (¬ S m) := hm
  have HLT := Lib.hid hb.lt
  clear hJ hb hk hn hu hs hG hm
  have hmf : ∀ (fn : Fn) (first cap : Array Value) (w : World), (Instr.makeFunc fn first cap).run Tryz.prog w = .ok (.func fn first cap) w := fun _ _ _ _ => rfl
  have hsf : ∀ (a : Addr) (fn : Fn) (first cap : Array Value) (w : World), (store a (.func fn first cap)).run Tryz.prog w = stored Tryz.prog w a (.func fn first cap) .plain := fun a fn f c w => run_store Tryz.prog w a (.func fn f c) .plain rfl
  have hsn : ∀ (a : Addr) (w : World), (store a .nilFunc).run Tryz.prog w = stored Tryz.prog w a .nilFunc .plain := fun a w => run_store Tryz.prog w a .nilFunc .plain rfl
  clear hmf hsf hsn
  replace HB : Hid (Blk w m 181 #[pV q, .slice KA M.key.length kc, iV M.level, .int .i64 1, iV M.id, .int .u64 M.word, .int .i64 M.nd.lvl, .slice X1 M.nd.high.length k1, .int .i64 M.nd.right, .slice X3 M.nd.keys.length k3, .slice X4 M.nd.vals.length k4, .slice X5 M.nd.kids.length k5, .bool M.there, iV M.again, iV M.right]) := by have h := HB.out; rw [hn] at h; exact h
  clear hn
  unfold pV
  go_enter Tryz.func53, Tryz.ntmps53
  have HWU := Lib.hid (opWordR_u64 HJ.out M.id)
  have hpar := par_u hc
  replace hc := Lib.hid hc
  have n1 : (opErr B M.id != 0) = true := by simpa using c1
  clear c1
  have q3 := HB.out.cell 3
  have g3 := HB.out.frozen 3
  unfold pV iV at q3
  go_wp2_with fail
  clear q3 g3
  refine wp_region_canon [0, 1, 2, 3, 4, 5, 6, 7, 8, 9, 10, 11, 12, 13, 14, 15, 16] 15 (fun W => W.cell? ⟨m, 0, none⟩ = some (pV q) ∧ W.cell? ⟨m, 4, none⟩ = some (.int .i64 M.id)) (by kernel_rfl) (by kernel_rfl) rfl (by kernel_rfl) (fun _ _ d _ _ h => by cases d <;> exact h) ?_ ?_
  · exact ⟨HB.out.cell 0, HB.out.cell 4⟩
  refine canon_at (fun w1 hw => ?_)
  have hk : Keeps Nob w w1 := by rw [hw]; exact Keeps.drew _ _
  clear hw
  replace HJ := Lib.hid (HJ.out.nob hk)
  replace HB := Lib.hid (HB.out.keeps hk id)
  replace HKY := Lib.hid (HKY.out.keeps hk (fun _ _ _ => id))
  replace HH := Lib.hid (HH.out.keeps hk (fun _ _ _ => id))
  replace HD := Lib.hid (HD.out.keeps hk (fun _ _ _ => id))
  replace hk : Keeps (fun x => x = m) w w1 := hk.mono (fun _ _ h => h.elim)
  have K := Lib.hid hk
  clear hk
  iterate 9
    refine wpCanon_read (v := ?_) rfl (by kernel_rfl) (by rfl) ?_ ?_
    rotate_left
    · intro W hW
      try (obtain ⟨h1, h2⟩ : _ ∧ _ := hW)
      go_simp
      try rfl
    simp only [Act.put, List.setIfInBounds_toArray, List.set_cons_zero, List.set_cons_succ]
  refine wpCanon_act rfl (by kernel_rfl) ?_
  go_wp2_with (go_at_call 79; refine (HJ.out.wordR (ix := M.id)).mono ?_; rintro e wk ⟨rfl, rfl⟩)
  refine ⟨.inr ⟨HB.out.cell 0, HB.out.cell 4⟩, ?_⟩
  iterate 5
    refine wpCanon_read (v := ?_) rfl (by kernel_rfl) (by rfl) ?_ ?_
    rotate_left
    · intro W hW
      try (obtain ⟨h1, h2⟩ : _ ∧ _ := hW)
      go_simp
      try rfl
    simp only [Act.put, List.setIfInBounds_toArray, List.set_cons_zero, List.set_cons_succ]
  refine wpCanon_act rfl (by kernel_rfl) ?_
  have q5 := HB.out.cell 5
  have g5 := HB.out.frozen 5
  unfold pV iV at q5
  go_wp2
  clear q5 g5
  refine ⟨.inl (by kernel_rfl), ?_⟩
  refine canon_at (fun w2 hw => ?_)
  have hk : Keeps (fun x => x = m) w1 w2 := by rw [hw]; exact Keeps.setCell _ (M := fun b => b = m) rfl _
  replace HB : Hid (Blk w2 m 181 #[pV q, .slice KA M.key.length kc, iV M.level, .int .i64 1, iV M.id, .int .u64 (opWord B M.id), .int .i64 M.nd.lvl, .slice X1 M.nd.high.length k1, .int .i64 M.nd.right, .slice X3 M.nd.keys.length k3, .slice X4 M.nd.vals.length k4, .slice X5 M.nd.kids.length k5, .bool M.there, iV M.again, iV M.right]) := by rw [hw]; exact (HB.out.set_ 5 _)
  clear hw
  replace HKY := Lib.hid (HKY.out.keeps hk (fun x _ hx e => HM.out (e ▸ hx)))
  replace HH := Lib.hid (HH.out.keeps hk (fun x _ hx e => HM.out (e ▸ hx)))
  replace HD := Lib.hid (HD.out.keeps hk (fun x _ hx e => HM.out (e ▸ hx)))
  replace HJ := Lib.hid (HJ.out.keeps hk (fun x _ hx e => HG.out (e ▸ hx)))
  replace K := Lib.hid (K.out.trans hk (fun _ _ h => h))
  clear hk
  iterate 1
    refine wpCanon_read (v := ?_) rfl (by kernel_rfl) (by rfl) ?_ ?_
    rotate_left
    · intro W hW
      try (obtain ⟨h1, h2⟩ : _ ∧ _ := hW)
      go_simp
      try rfl
    simp only [Act.put, List.setIfInBounds_toArray, List.set_cons_zero, List.set_cons_succ]
  refine wpCanon_nil ?_
  unfold iV
  have q5 := HB.out.cell 5
  have g5 := HB.out.frozen 5
  have q3 := HB.out.cell 3
  have g3 := HB.out.frozen 3
  unfold pV iV at q5 q3
  go_wp2
  clear q5 g5 q3 g3
  refine post_at (fun w3 hw => ?_)
  have hk : Keeps (fun x => x = m) w2 w3 := by rw [hw]; exact (Keeps.setCell _ (M := fun b => b = m) rfl _).setCell' (fun _ => rfl) _
  replace HB : Hid (Blk w3 m 181 #[pV q, .slice KA M.key.length kc, iV M.level, .int .i64 5, iV M.id, .int .u64 (opWord B M.id), .int .i64 M.nd.lvl, .slice X1 M.nd.high.length k1, .int .i64 M.nd.right, .slice X3 M.nd.keys.length k3, .slice X4 M.nd.vals.length k4, .slice X5 M.nd.kids.length k5, .bool M.there, iV M.again, iV M.right]) := by rw [hw]; exact ((HB.out.set_ 3 _).set_ 3 _)
  clear hw
  replace HKY := Lib.hid (HKY.out.keeps hk (fun x _ hx e => HM.out (e ▸ hx)))
  replace HH := Lib.hid (HH.out.keeps hk (fun x _ hx e => HM.out (e ▸ hx)))
  replace HD := Lib.hid (HD.out.keeps hk (fun x _ hx e => HM.out (e ▸ hx)))
  replace HJ := Lib.hid (HJ.out.keeps hk (fun x _ hx e => HG.out (e ▸ hx)))
  replace K := Lib.hid (K.out.trans hk (fun _ _ h => h))
  clear hk
  go_ret
  refine ⟨rfl, ⟨S, ⟨⟨_, _, _, _, _, _, _, HB.out, HKY.out, ⟨HH.out, HD.out⟩⟩, HWU.out, HS.out⟩, fun x h => .inl h⟩, K.out⟩
set_option maxRecDepth 100000 in
set_option maxHeartbeats 1600000 in
theorem stepR_latch_e (hJ : J w G b p q A B) (hG : ¬ G m) (h : MR w m q S M) (hm : ¬ S m) (hn : M.nx = .latch) (hc : opWord B M.id % 2 = 0) (c1 : opErr B M.id = 0) : Calls Tryz.prog 53 #[pV m] w fun e w' => e = .returned (.bool false) ∧ StR w w' m q S ({ M with word := opWord B M.id, nx := .head }) := by
  obtain ⟨⟨kv, c0, c1, c2, c3, c4, c5, hb, hk, hn⟩, hu, hs⟩ := h
  obtain ⟨KA, kc, ek, _, _⟩ := hk.form
  obtain ⟨X1, k1, e1, _, _⟩ := hn.1.high.form
  obtain ⟨X3, k3, e3, _, _⟩ := hn.2.keys.form
  obtain ⟨X4, k4, e4, _, _⟩ := hn.2.vals.form
  obtain ⟨X5, k5, e5, _, _⟩ := hn.2.kids.form
  have e0 := hn.1.lvl
  have e2 := hn.1.right
  unfold iV at e0 e2
  subst ek e0 e1 e2 e3 e4 e5
  have HB := Lib.hid hb
  have HKY := Lib.hid hk
  have HH := Lib.hid hn.1
  have HD := Lib.hid hn.2
  have HU : Hid (U64 M.word) := hu
  have HS : Hid (NdSm 0 M.nd) := hs
  have HJ := Lib.hid hJ
  have HG : Hid (¬ G m) := hG
  have HM : Hid (¬ S m) := hm
  have HLT := Lib.hid hb.lt
  clear hJ hb hk hn hu hs hG hm
  have hmf : ∀ (fn : Fn) (first cap : Array Value) (w : World), (Instr.makeFunc fn first cap).run Tryz.prog w = .ok (.func fn first cap) w := fun _ _ _ _ => rfl
  have hsf : ∀ (a : Addr) (fn : Fn) (first cap : Array Value) (w : World), (store a (.func fn first cap)).run Tryz.prog w = stored Tryz.prog w a (.func fn first cap) .plain := fun a fn f c w => run_store Tryz.prog w a (.func fn f c) .plain rfl
  have hsn : ∀ (a : Addr) (w : World), (store a .nilFunc).run Tryz.prog w = stored Tryz.prog w a .nilFunc .plain := fun a w => run_store Tryz.prog w a .nilFunc .plain rfl
  clear hmf hsf hsn
  replace HB : Hid (Blk w m 181 #[pV q, .slice KA M.key.length kc, iV M.level, .int .i64 1, iV M.id, .int .u64 M.word, .int .i64 M.nd.lvl, .slice X1 M.nd.high.length k1, .int .i64 M.nd.right, .slice X3 M.nd.keys.length k3, .slice X4 M.nd.vals.length k4, .slice X5 M.nd.kids.length k5, .bool M.there, iV M.again, iV M.right]) := by have h := HB.out; rw [hn] at h; exact h
  clear hn
  unfold pV
  go_enter Tryz.func53, Tryz.ntmps53
  have HWU := Lib.hid (opWordR_u64 HJ.out M.id)
  have hpar := par_u hc
  replace hc := Lib.hid hc
  have n1 := Lib.hid c1
  clear c1
  have q3 := HB.out.cell 3
  have g3 := HB.out.frozen 3
  unfold pV iV at q3
  go_wp2_with fail
  clear q3 g3
  refine wp_region_canon [0, 1, 2, 3, 4, 5, 6, 7, 8, 9, 10, 11, 12, 13, 14, 15, 16] 15 (fun W => W.cell? ⟨m, 0, none⟩ = some (pV q) ∧ W.cell? ⟨m, 4, none⟩ = some (.int .i64 M.id)) (by kernel_rfl) (by kernel_rfl) rfl (by kernel_rfl) (fun _ _ d _ _ h => by cases d <;> exact h) ?_ ?_
  · exact ⟨HB.out.cell 0, HB.out.cell 4⟩
  refine canon_at (fun w1 hw => ?_)
  have hk : Keeps Nob w w1 := by rw [hw]; exact Keeps.drew _ _
  clear hw
  replace HJ := Lib.hid (HJ.out.nob hk)
  replace HB := Lib.hid (HB.out.keeps hk id)
  replace HKY := Lib.hid (HKY.out.keeps hk (fun _ _ _ => id))
  replace HH := Lib.hid (HH.out.keeps hk (fun _ _ _ => id))
  replace HD := Lib.hid (HD.out.keeps hk (fun _ _ _ => id))
  replace hk : Keeps (fun x => x = m) w w1 := hk.mono (fun _ _ h => h.elim)
  have K := Lib.hid hk
  clear hk
  iterate 9
    refine wpCanon_read (v := ?_) rfl (by kernel_rfl) (by rfl) ?_ ?_
    rotate_left
    · intro W hW
      try (obtain ⟨h1, h2⟩ : _ ∧ _ := hW)
      go_simp
      try rfl
    simp only [Act.put, List.setIfInBounds_toArray, List.set_cons_zero, List.set_cons_succ]
  refine wpCanon_act rfl (by kernel_rfl) ?_
  go_wp2_with (go_at_call 79; refine (HJ.out.wordR (ix := M.id)).mono ?_; rintro e wk ⟨rfl, rfl⟩)
  rw [n1.out]
  refine ⟨.inr ⟨HB.out.cell 0, HB.out.cell 4⟩, ?_⟩
  iterate 5
    refine wpCanon_read (v := ?_) rfl (by kernel_rfl) (by rfl) ?_ ?_
    rotate_left
    · intro W hW
      try (obtain ⟨h1, h2⟩ : _ ∧ _ := hW)
      go_simp
      try rfl
    simp only [Act.put, List.setIfInBounds_toArray, List.set_cons_zero, List.set_cons_succ]
  refine wpCanon_act rfl (by kernel_rfl) ?_
  have q5 := HB.out.cell 5
  have g5 := HB.out.frozen 5
  unfold pV iV at q5
  go_wp2
  clear q5 g5
  refine ⟨.inl (by kernel_rfl), ?_⟩
  refine canon_at (fun w2 hw => ?_)
  have hk : Keeps (fun x => x = m) w1 w2 := by rw [hw]; exact Keeps.setCell _ (M := fun b => b = m) rfl _
  replace HB : Hid (Blk w2 m 181 #[pV q, .slice KA M.key.length kc, iV M.level, .int .i64 1, iV M.id, .int .u64 (opWord B M.id), .int .i64 M.nd.lvl, .slice X1 M.nd.high.length k1, .int .i64 M.nd.right, .slice X3 M.nd.keys.length k3, .slice X4 M.nd.vals.length k4, .slice X5 M.nd.kids.length k5, .bool M.there, iV M.again, iV M.right]) := by rw [hw]; exact (HB.out.set_ 5 _)
  clear hw
  replace HKY := Lib.hid (HKY.out.keeps hk (fun x _ hx e => HM.out (e ▸ hx)))
  replace HH := Lib.hid (HH.out.keeps hk (fun x _ hx e => HM.out (e ▸ hx)))
  replace HD := Lib.hid (HD.out.keeps hk (fun x _ hx e => HM.out (e ▸ hx)))
  replace HJ := Lib.hid (HJ.out.keeps hk (fun x _ hx e => HG.out (e ▸ hx)))
  replace K := Lib.hid (K.out.trans hk (fun _ _ h => h))
  clear hk
  iterate 1
    refine wpCanon_read (v := ?_) rfl (by kernel_rfl) (by rfl) ?_ ?_
    rotate_left
    · intro W hW
      try (obtain ⟨h1, h2⟩ : _ ∧ _ := hW)
      go_simp
      try rfl
    simp only [Act.put, List.setIfInBounds_toArray, List.set_cons_zero, List.set_cons_succ]
  refine wpCanon_nil ?_
  unfold iV
  have q5 := HB.out.cell 5
  have g5 := HB.out.frozen 5
  have q3 := HB.out.cell 3
  have g3 := HB.out.frozen 3
  unfold pV iV at q5 q3
  go_wp2
  clear q5 g5 q3 g3
  refine post_at (fun w3 hw => ?_)
  have hk : Keeps (fun x => x = m) w2 w3 := by rw [hw]; exact Keeps.setCell _ (M := fun b => b = m) rfl _
  replace HB : Hid (Blk w3 m 181 #[pV q, .slice KA M.key.length kc, iV M.level, .int .i64 2, iV M.id, .int .u64 (opWord B M.id), .int .i64 M.nd.lvl, .slice X1 M.nd.high.length k1, .int .i64 M.nd.right, .slice X3 M.nd.keys.length k3, .slice X4 M.nd.vals.length k4, .slice X5 M.nd.kids.length k5, .bool M.there, iV M.again, iV M.right]) := by rw [hw]; exact (HB.out.set_ 3 _)
  clear hw
  replace HKY := Lib.hid (HKY.out.keeps hk (fun x _ hx e => HM.out (e ▸ hx)))
  replace HH := Lib.hid (HH.out.keeps hk (fun x _ hx e => HM.out (e ▸ hx)))
  replace HD := Lib.hid (HD.out.keeps hk (fun x _ hx e => HM.out (e ▸ hx)))
  replace HJ := Lib.hid (HJ.out.keeps hk (fun x _ hx e => HG.out (e ▸ hx)))
  replace K := Lib.hid (K.out.trans hk (fun _ _ h => h))
  clear hk
  go_ret
  refine ⟨rfl, ⟨S, ⟨⟨_, _, _, _, _, _, _, HB.out, HKY.out, ⟨HH.out, HD.out⟩⟩, HWU.out, HS.out⟩, fun x h => .inl h⟩, K.out⟩
set_option maxRecDepth 100000 in
set_option maxHeartbeats 1600000 in
theorem stepR_latch_ox (hJ : J w G b p q A B) (hG : ¬ G m) (h : MR w m q S M) (hm : ¬ S m) (hn : M.nx = .latch) (hc : ¬ opWord B M.id % 2 = 0) (c1 : ¬ opErr B M.id = 0) : Calls Tryz.prog 53 #[pV m] w fun e w' => e = .returned (.bool true) ∧ StR w w' m q S ({ M with word := opWord B M.id, nx := .done }) := by
  obtain ⟨⟨kv, c0, c1, c2, c3, c4, c5, hb, hk, hn⟩, hu, hs⟩ := h
  obtain ⟨KA, kc, ek, _, _⟩ := hk.form
  obtain ⟨X1, k1, e1, _, _⟩ := hn.1.high.form
  obtain ⟨X3, k3, e3, _, _⟩ := hn.2.keys.form
  obtain ⟨X4, k4, e4, _, _⟩ := hn.2.vals.form
  obtain ⟨X5, k5, e5, _, _⟩ := hn.2.kids.form
  have e0 := hn.1.lvl
  have e2 := hn.1.right
  unfold iV at e0 e2
  subst ek e0 e1 e2 e3 e4 e5
  have HB := Lib.hid hb
  have HKY := Lib.hid hk
  have HH := Lib.hid hn.1
  have HD := Lib.hid hn.2
  have HU : Hid (U64 M.word) := hu
  have HS : Hid (NdSm 0 M.nd) := hs
  have HJ := Lib.hid hJ
  have HG : Hid (¬ G m) := hG
  have HM : Hid (¬ S m) := hm
  have HLT := Lib.hid hb.lt
  clear hJ hb hk hn hu hs hG hm
  have hmf : ∀ (fn : Fn) (first cap : Array Value) (w : World), (Instr.makeFunc fn first cap).run Tryz.prog w = .ok (.func fn first cap) w := fun _ _ _ _ => rfl
  have hsf : ∀ (a : Addr) (fn : Fn) (first cap : Array Value) (w : World), (store a (.func fn first cap)).run Tryz.prog w = stored Tryz.prog w a (.func fn first cap) .plain := fun a fn f c w => run_store Tryz.prog w a (.func fn f c) .plain rfl
  have hsn : ∀ (a : Addr) (w : World), (store a .nilFunc).run Tryz.prog w = stored Tryz.prog w a .nilFunc .plain := fun a w => run_store Tryz.prog w a .nilFunc .plain rfl
  clear hmf hsf hsn
  replace HB : Hid (Blk w m 181 #[pV q, .slice KA M.key.length kc, iV M.level, .int .i64 1, iV M.id, .int .u64 M.word, .int .i64 M.nd.lvl, .slice X1 M.nd.high.length k1, .int .i64 M.nd.right, .slice X3 M.nd.keys.length k3, .slice X4 M.nd.vals.length k4, .slice X5 M.nd.kids.length k5, .bool M.there, iV M.again, iV M.right]) := by have h := HB.out; rw [hn] at h; exact h
  clear hn
  unfold pV
  go_enter Tryz.func53, Tryz.ntmps53
  have HWU := Lib.hid (opWordR_u64 HJ.out M.id)
  have hpar := par_n hc
  replace hc := Lib.hid hc
  have n1 : (opErr B M.id != 0) = true := by simpa using c1
  clear c1
  have q3 := HB.out.cell 3
  have g3 := HB.out.frozen 3
  unfold pV iV at q3
  go_wp2_with fail
  clear q3 g3
  refine wp_region_canon [0, 1, 2, 3, 4, 5, 6, 7, 8, 9, 10, 11, 12, 13, 14, 15, 16] 15 (fun W => W.cell? ⟨m, 0, none⟩ = some (pV q) ∧ W.cell? ⟨m, 4, none⟩ = some (.int .i64 M.id)) (by kernel_rfl) (by kernel_rfl) rfl (by kernel_rfl) (fun _ _ d _ _ h => by cases d <;> exact h) ?_ ?_
  · exact ⟨HB.out.cell 0, HB.out.cell 4⟩
  refine canon_at (fun w1 hw => ?_)
  have hk : Keeps Nob w w1 := by rw [hw]; exact Keeps.drew _ _
  clear hw
  replace HJ := Lib.hid (HJ.out.nob hk)
  replace HB := Lib.hid (HB.out.keeps hk id)
  replace HKY := Lib.hid (HKY.out.keeps hk (fun _ _ _ => id))
  replace HH := Lib.hid (HH.out.keeps hk (fun _ _ _ => id))
  replace HD := Lib.hid (HD.out.keeps hk (fun _ _ _ => id))
  replace hk : Keeps (fun x => x = m) w w1 := hk.mono (fun _ _ h => h.elim)
  have K := Lib.hid hk
  clear hk
  iterate 9
    refine wpCanon_read (v := ?_) rfl (by kernel_rfl) (by rfl) ?_ ?_
    rotate_left
    · intro W hW
      try (obtain ⟨h1, h2⟩ : _ ∧ _ := hW)
      go_simp
      try rfl
    simp only [Act.put, List.setIfInBounds_toArray, List.set_cons_zero, List.set_cons_succ]
  refine wpCanon_act rfl (by kernel_rfl) ?_
  go_wp2_with (go_at_call 79; refine (HJ.out.wordR (ix := M.id)).mono ?_; rintro e wk ⟨rfl, rfl⟩)
  refine ⟨.inr ⟨HB.out.cell 0, HB.out.cell 4⟩, ?_⟩
  iterate 5
    refine wpCanon_read (v := ?_) rfl (by kernel_rfl) (by rfl) ?_ ?_
    rotate_left
    · intro W hW
      try (obtain ⟨h1, h2⟩ : _ ∧ _ := hW)
      go_simp
      try rfl
    simp only [Act.put, List.setIfInBounds_toArray, List.set_cons_zero, List.set_cons_succ]
  refine wpCanon_act rfl (by kernel_rfl) ?_
  have q5 := HB.out.cell 5
  have g5 := HB.out.frozen 5
  unfold pV iV at q5
  go_wp2
  clear q5 g5
  refine ⟨.inl (by kernel_rfl), ?_⟩
  refine canon_at (fun w2 hw => ?_)
  have hk : Keeps (fun x => x = m) w1 w2 := by rw [hw]; exact Keeps.setCell _ (M := fun b => b = m) rfl _
  replace HB : Hid (Blk w2 m 181 #[pV q, .slice KA M.key.length kc, iV M.level, .int .i64 1, iV M.id, .int .u64 (opWord B M.id), .int .i64 M.nd.lvl, .slice X1 M.nd.high.length k1, .int .i64 M.nd.right, .slice X3 M.nd.keys.length k3, .slice X4 M.nd.vals.length k4, .slice X5 M.nd.kids.length k5, .bool M.there, iV M.again, iV M.right]) := by rw [hw]; exact (HB.out.set_ 5 _)
  clear hw
  replace HKY := Lib.hid (HKY.out.keeps hk (fun x _ hx e => HM.out (e ▸ hx)))
  replace HH := Lib.hid (HH.out.keeps hk (fun x _ hx e => HM.out (e ▸ hx)))
  replace HD := Lib.hid (HD.out.keeps hk (fun x _ hx e => HM.out (e ▸ hx)))
  replace HJ := Lib.hid (HJ.out.keeps hk (fun x _ hx e => HG.out (e ▸ hx)))
  replace K := Lib.hid (K.out.trans hk (fun _ _ h => h))
  clear hk
  iterate 1
    refine wpCanon_read (v := ?_) rfl (by kernel_rfl) (by rfl) ?_ ?_
    rotate_left
    · intro W hW
      try (obtain ⟨h1, h2⟩ : _ ∧ _ := hW)
      go_simp
      try rfl
    simp only [Act.put, List.setIfInBounds_toArray, List.set_cons_zero, List.set_cons_succ]
  refine wpCanon_nil ?_
  unfold iV
  have q5 := HB.out.cell 5
  have g5 := HB.out.frozen 5
  have q3 := HB.out.cell 3
  have g3 := HB.out.frozen 3
  unfold pV iV at q5 q3
  go_wp2
  clear q5 g5 q3 g3
  refine post_at (fun w3 hw => ?_)
  have hk : Keeps (fun x => x = m) w2 w3 := by rw [hw]; exact Keeps.setCell _ (M := fun b => b = m) rfl _
  replace HB : Hid (Blk w3 m 181 #[pV q, .slice KA M.key.length kc, iV M.level, .int .i64 5, iV M.id, .int .u64 (opWord B M.id), .int .i64 M.nd.lvl, .slice X1 M.nd.high.length k1, .int .i64 M.nd.right, .slice X3 M.nd.keys.length k3, .slice X4 M.nd.vals.length k4, .slice X5 M.nd.kids.length k5, .bool M.there, iV M.again, iV M.right]) := by rw [hw]; exact (HB.out.set_ 3 _)
  clear hw
  replace HKY := Lib.hid (HKY.out.keeps hk (fun x _ hx e => HM.out (e ▸ hx)))
  replace HH := Lib.hid (HH.out.keeps hk (fun x _ hx e => HM.out (e ▸ hx)))
  replace HD := Lib.hid (HD.out.keeps hk (fun x _ hx e => HM.out (e ▸ hx)))
  replace HJ := Lib.hid (HJ.out.keeps hk (fun x _ hx e => HG.out (e ▸ hx)))
  replace K := Lib.hid (K.out.trans hk (fun _ _ h => h))
  clear hk
  go_ret
  refine ⟨rfl, ⟨S, ⟨⟨_, _, _, _, _, _, _, HB.out, HKY.out, ⟨HH.out, HD.out⟩⟩, HWU.out, HS.out⟩, fun x h => .inl h⟩, K.out⟩
set_option maxRecDepth 100000 in
set_option maxHeartbeats 1600000 in
theorem stepR_latch_o (hJ : J w G b p q A B) (hG : ¬ G m) (h : MR w m q S M) (hm : ¬ S m) (hn : M.nx = .latch) (hc : ¬ opWord B M.id % 2 = 0) (c1 : opErr B M.id = 0) : Calls Tryz.prog 53 #[pV m] w fun e w' => e = .returned (.bool false) ∧ StR w w' m q S ({ M with word := opWord B M.id, nx := M.nx }) := by
  obtain ⟨⟨kv, c0, c1, c2, c3, c4, c5, hb, hk, hn⟩, hu, hs⟩ := h
  obtain ⟨KA, kc, ek, _, _⟩ := hk.form
  obtain ⟨X1, k1, e1, _, _⟩ := hn.1.high.form
  obtain ⟨X3, k3, e3, _, _⟩ := hn.2.keys.form
  obtain ⟨X4, k4, e4, _, _⟩ := hn.2.vals.form
  obtain ⟨X5, k5, e5, _, _⟩ := hn.2.kids.form
  have e0 := hn.1.lvl
  have e2 := hn.1.right
  unfold iV at e0 e2
  subst ek e0 e1 e2 e3 e4 e5
  have HB := Lib.hid hb
  have HKY := Lib.hid hk
  have HH := Lib.hid hn.1
  have HD := Lib.hid hn.2
  have HU : Hid (U64 M.word) := hu
  have HS : Hid (NdSm 0 M.nd) := hs
  have HJ := Lib.hid hJ
  have HG : Hid (¬ G m) := hG
  have HM : Hid (¬ S m) := hm
  have HLT := Lib.hid hb.lt
  clear hJ hb hk hn hu hs hG hm
  have hmf : ∀ (fn : Fn) (first cap : Array Value) (w : World), (Instr.makeFunc fn first cap).run Tryz.prog w = .ok (.func fn first cap) w := fun _ _ _ _ => rfl
  have hsf : ∀ (a : Addr) (fn : Fn) (first cap : Array Value) (w : World), (store a (.func fn first cap)).run Tryz.prog w = stored Tryz.prog w a (.func fn first cap) .plain := fun a fn f c w => run_store Tryz.prog w a (.func fn f c) .plain rfl
  have hsn : ∀ (a : Addr) (w : World), (store a .nilFunc).run Tryz.prog w = stored Tryz.prog w a .nilFunc .plain := fun a w => run_store Tryz.prog w a .nilFunc .plain rfl
  clear hmf hsf hsn
  replace HB : Hid (Blk w m 181 #[pV q, .slice KA M.key.length kc, iV M.level, .int .i64 1, iV M.id, .int .u64 M.word, .int .i64 M.nd.lvl, .slice X1 M.nd.high.length k1, .int .i64 M.nd.right, .slice X3 M.nd.keys.length k3, .slice X4 M.nd.vals.length k4, .slice X5 M.nd.kids.length k5, .bool M.there, iV M.again, iV M.right]) := by have h := HB.out; rw [hn] at h; exact h
  have hn0 := Lib.hid hn
  clear hn
  unfold pV
  go_enter Tryz.func53, Tryz.ntmps53
  have HWU := Lib.hid (opWordR_u64 HJ.out M.id)
  have hpar := par_n hc
  replace hc := Lib.hid hc
  have n1 := Lib.hid c1
  clear c1
  have q3 := HB.out.cell 3
  have g3 := HB.out.frozen 3
  unfold pV iV at q3
  go_wp2_with fail
  clear q3 g3
  refine wp_region_canon [0, 1, 2, 3, 4, 5, 6, 7, 8, 9, 10, 11, 12, 13, 14, 15, 16] 15 (fun W => W.cell? ⟨m, 0, none⟩ = some (pV q) ∧ W.cell? ⟨m, 4, none⟩ = some (.int .i64 M.id)) (by kernel_rfl) (by kernel_rfl) rfl (by kernel_rfl) (fun _ _ d _ _ h => by cases d <;> exact h) ?_ ?_
  · exact ⟨HB.out.cell 0, HB.out.cell 4⟩
  refine canon_at (fun w1 hw => ?_)
  have hk : Keeps Nob w w1 := by rw [hw]; exact Keeps.drew _ _
  clear hw
  replace HJ := Lib.hid (HJ.out.nob hk)
  replace HB := Lib.hid (HB.out.keeps hk id)
  replace HKY := Lib.hid (HKY.out.keeps hk (fun _ _ _ => id))
  replace HH := Lib.hid (HH.out.keeps hk (fun _ _ _ => id))
  replace HD := Lib.hid (HD.out.keeps hk (fun _ _ _ => id))
  replace hk : Keeps (fun x => x = m) w w1 := hk.mono (fun _ _ h => h.elim)
  have K := Lib.hid hk
  clear hk
  iterate 9
    refine wpCanon_read (v := ?_) rfl (by kernel_rfl) (by rfl) ?_ ?_
    rotate_left
    · intro W hW
      try (obtain ⟨h1, h2⟩ : _ ∧ _ := hW)
      go_simp
      try rfl
    simp only [Act.put, List.setIfInBounds_toArray, List.set_cons_zero, List.set_cons_succ]
  refine wpCanon_act rfl (by kernel_rfl) ?_
  go_wp2_with (go_at_call 79; refine (HJ.out.wordR (ix := M.id)).mono ?_; rintro e wk ⟨rfl, rfl⟩)
  rw [n1.out]
  refine ⟨.inr ⟨HB.out.cell 0, HB.out.cell 4⟩, ?_⟩
  iterate 5
    refine wpCanon_read (v := ?_) rfl (by kernel_rfl) (by rfl) ?_ ?_
    rotate_left
    · intro W hW
      try (obtain ⟨h1, h2⟩ : _ ∧ _ := hW)
      go_simp
      try rfl
    simp only [Act.put, List.setIfInBounds_toArray, List.set_cons_zero, List.set_cons_succ]
  refine wpCanon_act rfl (by kernel_rfl) ?_
  have q5 := HB.out.cell 5
  have g5 := HB.out.frozen 5
  unfold pV iV at q5
  go_wp2
  clear q5 g5
  refine ⟨.inl (by kernel_rfl), ?_⟩
  refine canon_at (fun w2 hw => ?_)
  have hk : Keeps (fun x => x = m) w1 w2 := by rw [hw]; exact Keeps.setCell _ (M := fun b => b = m) rfl _
  replace HB : Hid (Blk w2 m 181 #[pV q, .slice KA M.key.length kc, iV M.level, .int .i64 1, iV M.id, .int .u64 (opWord B M.id), .int .i64 M.nd.lvl, .slice X1 M.nd.high.length k1, .int .i64 M.nd.right, .slice X3 M.nd.keys.length k3, .slice X4 M.nd.vals.length k4, .slice X5 M.nd.kids.length k5, .bool M.there, iV M.again, iV M.right]) := by rw [hw]; exact (HB.out.set_ 5 _)
  clear hw
  replace HKY := Lib.hid (HKY.out.keeps hk (fun x _ hx e => HM.out (e ▸ hx)))
  replace HH := Lib.hid (HH.out.keeps hk (fun x _ hx e => HM.out (e ▸ hx)))
  replace HD := Lib.hid (HD.out.keeps hk (fun x _ hx e => HM.out (e ▸ hx)))
  replace HJ := Lib.hid (HJ.out.keeps hk (fun x _ hx e => HG.out (e ▸ hx)))
  replace K := Lib.hid (K.out.trans hk (fun _ _ h => h))
  clear hk
  iterate 1
    refine wpCanon_read (v := ?_) rfl (by kernel_rfl) (by rfl) ?_ ?_
    rotate_left
    · intro W hW
      try (obtain ⟨h1, h2⟩ : _ ∧ _ := hW)
      go_simp
      try rfl
    simp only [Act.put, List.setIfInBounds_toArray, List.set_cons_zero, List.set_cons_succ]
  refine wpCanon_nil ?_
  unfold iV
  have q5 := HB.out.cell 5
  have g5 := HB.out.frozen 5
  have q3 := HB.out.cell 3
  have g3 := HB.out.frozen 3
  unfold pV iV at q5 q3
  go_wp2
  go_ret
  refine ⟨rfl, ⟨S, ⟨⟨_, _, _, _, _, _, _, (by rw [hn0.out]; exact HB.out), HKY.out, ⟨HH.out, HD.out⟩⟩, HWU.out, HS.out⟩, fun x h => .inl h⟩, K.out⟩
set_option maxRecDepth 100000 in
set_option maxHeartbeats 1600000 in
theorem stepR_headx (hJ : J w G b p q A B) (hG : ¬ G m) (h : MR w m q S M) (hm : ¬ S m) (hn : M.nx = .head) (c1 : ¬ opErr B M.id = 0) : Calls Tryz.prog 53 #[pV m] w fun e w' => e = .returned (.bool true) ∧ StR w w' m q S ({ headM B M with nx := .done }) := by
  obtain ⟨⟨kv, c0, c1, c2, c3, c4, c5, hb, hk, hn⟩, hu, hs⟩ := h
  obtain ⟨KA, kc, ek, _, _⟩ := hk.form
  obtain ⟨X1, k1, e1, _, _⟩ := hn.1.high.form
  obtain ⟨X3, k3, e3, _, _⟩ := hn.2.keys.form
  obtain ⟨X4, k4, e4, _, _⟩ := hn.2.vals.form
  obtain ⟨X5, k5, e5, _, _⟩ := hn.2.kids.form
  have e0 := hn.1.lvl
  have e2 := hn.1.right
  unfold iV at e0 e2
  subst ek e0 e1 e2 e3 e4 e5
  have HB := Lib.hid hb
  have HKY := Lib.hid hk
  have HH := Lib.hid hn.1
  have HD := Lib.hid hn.2
  have HU : Hid (U64 M.word) := hu
  have HS : Hid (NdSm 0 M.nd) := hs
  have HJ := Lib.hid hJ
  have HG : Hid (¬ G m) := hG
  have HM : Hid (¬ S m) := hm
  have HLT := Lib.hid hb.lt
  clear hJ hb hk hn hu hs hG hm
  have hmf : ∀ (fn : Fn) (first cap : Array Value) (w : World), (Instr.makeFunc fn first cap).run Tryz.prog w = .ok (.func fn first cap) w := fun _ _ _ _ => rfl
  have hsf : ∀ (a : Addr) (fn : Fn) (first cap : Array Value) (w : World), (store a (.func fn first cap)).run Tryz.prog w = stored Tryz.prog w a (.func fn first cap) .plain := fun a fn f c w => run_store Tryz.prog w a (.func fn f c) .plain rfl
  have hsn : ∀ (a : Addr) (w : World), (store a .nilFunc).run Tryz.prog w = stored Tryz.prog w a .nilFunc .plain := fun a w => run_store Tryz.prog w a .nilFunc .plain rfl
  clear hmf hsf hsn
  replace HB : Hid (Blk w m 181 #[pV q, .slice KA M.key.length kc, iV M.level, .int .i64 2, iV M.id, .int .u64 M.word, .int .i64 M.nd.lvl, .slice X1 M.nd.high.length k1, .int .i64 M.nd.right, .slice X3 M.nd.keys.length k3, .slice X4 M.nd.vals.length k4, .slice X5 M.nd.kids.length k5, .bool M.there, iV M.again, iV M.right]) := by have h := HB.out; rw [hn] at h; exact h
  clear hn
  unfold pV
  go_enter Tryz.func53, Tryz.ntmps53
  have HZ := Lib.hid (opNdR_sm HJ.out M.id)
  have n1 : (opErr B M.id != 0) = true := by simpa using c1
  clear c1
  have q3 := HB.out.cell 3
  have g3 := HB.out.frozen 3
  unfold pV iV at q3
  go_wp2_with fail
  clear q3 g3
  refine wp_region_canon [0, 1, 2, 3, 4, 5, 6, 7, 8, 9, 10, 11, 12, 13, 14, 15, 16, 17] 16 (fun W => W.cell? ⟨m, 0, none⟩ = some (pV q) ∧ W.cell? ⟨m, 4, none⟩ = some (.int .i64 M.id)) (by kernel_rfl) (by kernel_rfl) rfl (by kernel_rfl) (fun _ _ d _ _ h => by cases d <;> exact h) ?_ ?_
  · exact ⟨HB.out.cell 0, HB.out.cell 4⟩
  refine canon_at (fun w1 hw => ?_)
  have hk : Keeps Nob w w1 := by rw [hw]; exact Keeps.drew _ _
  clear hw
  replace HJ := Lib.hid (HJ.out.nob hk)
  replace HB := Lib.hid (HB.out.keeps hk id)
  replace HKY := Lib.hid (HKY.out.keeps hk (fun _ _ _ => id))
  replace HH := Lib.hid (HH.out.keeps hk (fun _ _ _ => id))
  replace HD := Lib.hid (HD.out.keeps hk (fun _ _ _ => id))
  replace hk : Keeps (fun x => x = m) w w1 := hk.mono (fun _ _ h => h.elim)
  have K := Lib.hid hk
  clear hk
  iterate 9
    refine wpCanon_read (v := ?_) rfl (by kernel_rfl) (by rfl) ?_ ?_
    rotate_left
    · intro W hW
      try (obtain ⟨h1, h2⟩ : _ ∧ _ := hW)
      go_simp
      try rfl
    simp only [Act.put, List.setIfInBounds_toArray, List.set_cons_zero, List.set_cons_succ]
  refine wpCanon_act rfl (by kernel_rfl) ?_
  go_wp2_with (go_at_call 99; refine (HJ.out.headR (ix := M.id)).mono ?_; rintro e wk ⟨d0, d1, d2, rfl, hO, hj, hk⟩)
  have hsz := K.out.size
  replace HB := Lib.hid (HB.out.keeps hk id)
  replace HKY := Lib.hid (HKY.out.keeps hk (fun _ _ _ => id))
  replace HH := Lib.hid (HH.out.keeps hk (fun _ _ _ => id))
  replace HD := Lib.hid (HD.out.keeps hk (fun _ _ _ => id))
  replace HJ := Lib.hid hj
  replace hk : Keeps (fun x => x = m) w1 wk := hk.mono (fun _ _ h => h.elim)
  replace K := Lib.hid (K.out.trans hk (fun _ _ h => h))
  clear hk hj
  have HO := Lib.hid (hO.r.mono (T := Fresh w wk) (fun x _ hx => ⟨Nat.le_trans hsz hx.1, hx.2⟩))
  obtain ⟨D1, j1, f1⟩ := Own.form hO.high
  have f0 := hO.lvl
  have f2 := hO.right
  unfold iV at f0 f2
  subst f0 f1 f2
  clear hO hsz
  refine ⟨.inr ⟨HB.out.cell 0, HB.out.cell 4⟩, ?_⟩
  iterate 6
    refine wpCanon_read (v := ?_) rfl (by kernel_rfl) (by rfl) ?_ ?_
    rotate_left
    · intro W hW
      try (obtain ⟨h1, h2⟩ : _ ∧ _ := hW)
      go_simp
      try rfl
    simp only [Act.put, List.setIfInBounds_toArray, List.set_cons_zero, List.set_cons_succ]
  refine wpCanon_act rfl (by kernel_rfl) ?_
  have q6 := HB.out.cell 6
  have g6 := HB.out.frozen 6
  have q7 := HB.out.cell 7
  have g7 := HB.out.frozen 7
  have q8 := HB.out.cell 8
  have g8 := HB.out.frozen 8
  unfold pV iV at q6 q7 q8
  go_wp2
  clear q6 g6 q7 g7 q8 g8
  refine ⟨.inl (by kernel_rfl), ?_⟩
  refine canon_at (fun w2 hw => ?_)
  have hk : Keeps (fun x => x = m) wk w2 := by rw [hw]; exact ((Keeps.setCell _ (M := fun b => b = m) rfl _).setCell' (fun _ => rfl) _).setCell' (fun _ => rfl) _
  replace HB : Hid (Blk w2 m 181 #[pV q, .slice KA M.key.length kc, iV M.level, .int .i64 2, iV M.id, .int .u64 M.word, .int .i64 (opNd B M.id).lvl, .slice D1 (opNd B M.id).high.length j1, .int .i64 (opNd B M.id).right, .slice X3 M.nd.keys.length k3, .slice X4 M.nd.vals.length k4, .slice X5 M.nd.kids.length k5, .bool M.there, iV M.again, iV M.right]) := by rw [hw]; exact (((HB.out.set_ 6 _).set_ 7 _).set_ 8 _)
  clear hw
  replace HKY := Lib.hid (HKY.out.keeps hk (fun x _ hx e => HM.out (e ▸ hx)))
  replace HH := Lib.hid (HH.out.keeps hk (fun x _ hx e => HM.out (e ▸ hx)))
  replace HD := Lib.hid (HD.out.keeps hk (fun x _ hx e => HM.out (e ▸ hx)))
  replace HJ := Lib.hid (HJ.out.keeps hk (fun x _ hx e => HG.out (e ▸ hx)))
  replace HO := Lib.hid ((HO.out.keeps hk (fun x _ hx e => by have h1 := hx.1; have h2 := HLT.out; have h3 : x = m := e; omega)).mono (T := Fresh w w2) (fun x _ hx => ⟨hx.1, Nat.lt_of_lt_of_le hx.2 hk.size⟩))
  replace K := Lib.hid (K.out.trans hk (fun _ _ h => h))
  clear hk
  iterate 1
    refine wpCanon_read (v := ?_) rfl (by kernel_rfl) (by rfl) ?_ ?_
    rotate_left
    · intro W hW
      try (obtain ⟨h1, h2⟩ : _ ∧ _ := hW)
      go_simp
      try rfl
    simp only [Act.put, List.setIfInBounds_toArray, List.set_cons_zero, List.set_cons_succ]
  refine wpCanon_nil ?_
  unfold iV
  have q3 := HB.out.cell 3
  have g3 := HB.out.frozen 3
  unfold pV iV at q3
  go_wp2
  clear q3 g3
  refine post_at (fun w3 hw => ?_)
  have hk : Keeps (fun x => x = m) w2 w3 := by rw [hw]; exact (Keeps.setCell _ (M := fun b => b = m) rfl _).setCell' (fun _ => rfl) _
  replace HB : Hid (Blk w3 m 181 #[pV q, .slice KA M.key.length kc, iV M.level, .int .i64 5, iV M.id, .int .u64 M.word, .int .i64 (opNd B M.id).lvl, .slice D1 (opNd B M.id).high.length j1, .int .i64 (opNd B M.id).right, .slice X3 M.nd.keys.length k3, .slice X4 M.nd.vals.length k4, .slice X5 M.nd.kids.length k5, .bool M.there, iV M.again, iV M.right]) := by rw [hw]; exact ((HB.out.set_ 3 _).set_ 3 _)
  clear hw
  replace HKY := Lib.hid (HKY.out.keeps hk (fun x _ hx e => HM.out (e ▸ hx)))
  replace HH := Lib.hid (HH.out.keeps hk (fun x _ hx e => HM.out (e ▸ hx)))
  replace HD := Lib.hid (HD.out.keeps hk (fun x _ hx e => HM.out (e ▸ hx)))
  replace HJ := Lib.hid (HJ.out.keeps hk (fun x _ hx e => HG.out (e ▸ hx)))
  replace HO := Lib.hid ((HO.out.keeps hk (fun x _ hx e => by have h1 := hx.1; have h2 := HLT.out; have h3 : x = m := e; omega)).mono (T := Fresh w w3) (fun x _ hx => ⟨hx.1, Nat.lt_of_lt_of_le hx.2 hk.size⟩))
  replace K := Lib.hid (K.out.trans hk (fun _ _ h => h))
  clear hk
  go_ret
  refine ⟨rfl, ⟨fun x => S x ∨ Fresh w w3 x, ⟨⟨_, _, _, _, _, _, _, HB.out, HKY.out.mono (fun _ _ h => .inl h), ⟨⟨HO.out.1, HO.out.2.mono (fun _ _ h => .inr h), HO.out.3⟩, ⟨HD.out.1.mono (fun _ _ h => .inl h), HD.out.2.mono (fun _ _ h => .inl h), HD.out.3.mono (fun _ _ h => .inl h)⟩⟩⟩, HU.out, ⟨HZ.out.1, HS.out.2⟩⟩, fun x h => h⟩, K.out⟩
set_option maxRecDepth 100000 in
set_option maxHeartbeats 1600000 in
theorem stepR_head (hJ : J w G b p q A B) (hG : ¬ G m) (h : MR w m q S M) (hm : ¬ S m) (hn : M.nx = .head) (c1 : opErr B M.id = 0) : Calls Tryz.prog 53 #[pV m] w fun e w' => e = .returned (.bool false) ∧ StR w w' m q S (headM B M) := by
  obtain ⟨⟨kv, c0, c1, c2, c3, c4, c5, hb, hk, hn⟩, hu, hs⟩ := h
  obtain ⟨KA, kc, ek, _, _⟩ := hk.form
  obtain ⟨X1, k1, e1, _, _⟩ := hn.1.high.form
  obtain ⟨X3, k3, e3, _, _⟩ := hn.2.keys.form
  obtain ⟨X4, k4, e4, _, _⟩ := hn.2.vals.form
  obtain ⟨X5, k5, e5, _, _⟩ := hn.2.kids.form
  have e0 := hn.1.lvl
  have e2 := hn.1.right
  unfold iV at e0 e2
  subst ek e0 e1 e2 e3 e4 e5
  have HB := Lib.hid hb
  have HKY := Lib.hid hk
  have HH := Lib.hid hn.1
  have HD := Lib.hid hn.2
  have HU : Hid (U64 M.word) := hu
  have HS : Hid (NdSm 0 M.nd) := hs
  have HJ := Lib.hid hJ
  have HG : Hid (¬ G m) := hG
  have HM : Hid (¬ S m) := hm
  have HLT := Lib.hid hb.lt
  clear hJ hb hk hn hu hs hG hm
  have hmf : ∀ (fn : Fn) (first cap : Array Value) (w : World), (Instr.makeFunc fn first cap).run Tryz.prog w = .ok (.func fn first cap) w := fun _ _ _ _ => rfl
  have hsf : ∀ (a : Addr) (fn : Fn) (first cap : Array Value) (w : World), (store a (.func fn first cap)).run Tryz.prog w = stored Tryz.prog w a (.func fn first cap) .plain := fun a fn f c w => run_store Tryz.prog w a (.func fn f c) .plain rfl
  have hsn : ∀ (a : Addr) (w : World), (store a .nilFunc).run Tryz.prog w = stored Tryz.prog w a .nilFunc .plain := fun a w => run_store Tryz.prog w a .nilFunc .plain rfl
  clear hmf hsf hsn
  replace HB : Hid (Blk w m 181 #[pV q, .slice KA M.key.length kc, iV M.level, .int .i64 2, iV M.id, .int .u64 M.word, .int .i64 M.nd.lvl, .slice X1 M.nd.high.length k1, .int .i64 M.nd.right, .slice X3 M.nd.keys.length k3, .slice X4 M.nd.vals.length k4, .slice X5 M.nd.kids.length k5, .bool M.there, iV M.again, iV M.right]) := by have h := HB.out; rw [hn] at h; exact h
  clear hn
  unfold pV
  go_enter Tryz.func53, Tryz.ntmps53
  have HZ := Lib.hid (opNdR_sm HJ.out M.id)
  have n1 := Lib.hid c1
  clear c1
  have q3 := HB.out.cell 3
  have g3 := HB.out.frozen 3
  unfold pV iV at q3
  go_wp2_with fail
  clear q3 g3
  refine wp_region_canon [0, 1, 2, 3, 4, 5, 6, 7, 8, 9, 10, 11, 12, 13, 14, 15, 16, 17] 16 (fun W => W.cell? ⟨m, 0, none⟩ = some (pV q) ∧ W.cell? ⟨m, 4, none⟩ = some (.int .i64 M.id)) (by kernel_rfl) (by kernel_rfl) rfl (by kernel_rfl) (fun _ _ d _ _ h => by cases d <;> exact h) ?_ ?_
  · exact ⟨HB.out.cell 0, HB.out.cell 4⟩
  refine canon_at (fun w1 hw => ?_)
  have hk : Keeps Nob w w1 := by rw [hw]; exact Keeps.drew _ _
  clear hw
  replace HJ := Lib.hid (HJ.out.nob hk)
  replace HB := Lib.hid (HB.out.keeps hk id)
  replace HKY := Lib.hid (HKY.out.keeps hk (fun _ _ _ => id))
  replace HH := Lib.hid (HH.out.keeps hk (fun _ _ _ => id))
  replace HD := Lib.hid (HD.out.keeps hk (fun _ _ _ => id))
  replace hk : Keeps (fun x => x = m) w w1 := hk.mono (fun _ _ h => h.elim)
  have K := Lib.hid hk
  clear hk
  iterate 9
    refine wpCanon_read (v := ?_) rfl (by kernel_rfl) (by rfl) ?_ ?_
    rotate_left
    · intro W hW
      try (obtain ⟨h1, h2⟩ : _ ∧ _ := hW)
      go_simp
      try rfl
    simp only [Act.put, List.setIfInBounds_toArray, List.set_cons_zero, List.set_cons_succ]
  refine wpCanon_act rfl (by kernel_rfl) ?_
  go_wp2_with (go_at_call 99; refine (HJ.out.headR (ix := M.id)).mono ?_; rintro e wk ⟨d0, d1, d2, rfl, hO, hj, hk⟩)
  have hsz := K.out.size
  replace HB := Lib.hid (HB.out.keeps hk id)
  replace HKY := Lib.hid (HKY.out.keeps hk (fun _ _ _ => id))
  replace HH := Lib.hid (HH.out.keeps hk (fun _ _ _ => id))
  replace HD := Lib.hid (HD.out.keeps hk (fun _ _ _ => id))
  replace HJ := Lib.hid hj
  replace hk : Keeps (fun x => x = m) w1 wk := hk.mono (fun _ _ h => h.elim)
  replace K := Lib.hid (K.out.trans hk (fun _ _ h => h))
  clear hk hj
  rw [n1.out]
  have HO := Lib.hid (hO.r.mono (T := Fresh w wk) (fun x _ hx => ⟨Nat.le_trans hsz hx.1, hx.2⟩))
  obtain ⟨D1, j1, f1⟩ := Own.form hO.high
  have f0 := hO.lvl
  have f2 := hO.right
  unfold iV at f0 f2
  subst f0 f1 f2
  clear hO hsz
  refine ⟨.inr ⟨HB.out.cell 0, HB.out.cell 4⟩, ?_⟩
  iterate 6
    refine wpCanon_read (v := ?_) rfl (by kernel_rfl) (by rfl) ?_ ?_
    rotate_left
    · intro W hW
      try (obtain ⟨h1, h2⟩ : _ ∧ _ := hW)
      go_simp
      try rfl
    simp only [Act.put, List.setIfInBounds_toArray, List.set_cons_zero, List.set_cons_succ]
  refine wpCanon_act rfl (by kernel_rfl) ?_
  have q6 := HB.out.cell 6
  have g6 := HB.out.frozen 6
  have q7 := HB.out.cell 7
  have g7 := HB.out.frozen 7
  have q8 := HB.out.cell 8
  have g8 := HB.out.frozen 8
  unfold pV iV at q6 q7 q8
  go_wp2
  clear q6 g6 q7 g7 q8 g8
  refine ⟨.inl (by kernel_rfl), ?_⟩
  refine canon_at (fun w2 hw => ?_)
  have hk : Keeps (fun x => x = m) wk w2 := by rw [hw]; exact ((Keeps.setCell _ (M := fun b => b = m) rfl _).setCell' (fun _ => rfl) _).setCell' (fun _ => rfl) _
  replace HB : Hid (Blk w2 m 181 #[pV q, .slice KA M.key.length kc, iV M.level, .int .i64 2, iV M.id, .int .u64 M.word, .int .i64 (opNd B M.id).lvl, .slice D1 (opNd B M.id).high.length j1, .int .i64 (opNd B M.id).right, .slice X3 M.nd.keys.length k3, .slice X4 M.nd.vals.length k4, .slice X5 M.nd.kids.length k5, .bool M.there, iV M.again, iV M.right]) := by rw [hw]; exact (((HB.out.set_ 6 _).set_ 7 _).set_ 8 _)
  clear hw
  replace HKY := Lib.hid (HKY.out.keeps hk (fun x _ hx e => HM.out (e ▸ hx)))
  replace HH := Lib.hid (HH.out.keeps hk (fun x _ hx e => HM.out (e ▸ hx)))
  replace HD := Lib.hid (HD.out.keeps hk (fun x _ hx e => HM.out (e ▸ hx)))
  replace HJ := Lib.hid (HJ.out.keeps hk (fun x _ hx e => HG.out (e ▸ hx)))
  replace HO := Lib.hid ((HO.out.keeps hk (fun x _ hx e => by have h1 := hx.1; have h2 := HLT.out; have h3 : x = m := e; omega)).mono (T := Fresh w w2) (fun x _ hx => ⟨hx.1, Nat.lt_of_lt_of_le hx.2 hk.size⟩))
  replace K := Lib.hid (K.out.trans hk (fun _ _ h => h))
  clear hk
  iterate 1
    refine wpCanon_read (v := ?_) rfl (by kernel_rfl) (by rfl) ?_ ?_
    rotate_left
    · intro W hW
      try (obtain ⟨h1, h2⟩ : _ ∧ _ := hW)
      go_simp
      try rfl
    simp only [Act.put, List.setIfInBounds_toArray, List.set_cons_zero, List.set_cons_succ]
  refine wpCanon_nil ?_
  unfold iV
  have q3 := HB.out.cell 3
  have g3 := HB.out.frozen 3
  unfold pV iV at q3
  go_wp2
  clear q3 g3
  refine post_at (fun w3 hw => ?_)
  have hk : Keeps (fun x => x = m) w2 w3 := by rw [hw]; exact Keeps.setCell _ (M := fun b => b = m) rfl _
  replace HB : Hid (Blk w3 m 181 #[pV q, .slice KA M.key.length kc, iV M.level, .int .i64 3, iV M.id, .int .u64 M.word, .int .i64 (opNd B M.id).lvl, .slice D1 (opNd B M.id).high.length j1, .int .i64 (opNd B M.id).right, .slice X3 M.nd.keys.length k3, .slice X4 M.nd.vals.length k4, .slice X5 M.nd.kids.length k5, .bool M.there, iV M.again, iV M.right]) := by rw [hw]; exact (HB.out.set_ 3 _)
  clear hw
  replace HKY := Lib.hid (HKY.out.keeps hk (fun x _ hx e => HM.out (e ▸ hx)))
  replace HH := Lib.hid (HH.out.keeps hk (fun x _ hx e => HM.out (e ▸ hx)))
  replace HD := Lib.hid (HD.out.keeps hk (fun x _ hx e => HM.out (e ▸ hx)))
  replace HJ := Lib.hid (HJ.out.keeps hk (fun x _ hx e => HG.out (e ▸ hx)))
  replace HO := Lib.hid ((HO.out.keeps hk (fun x _ hx e => by have h1 := hx.1; have h2 := HLT.out; have h3 : x = m := e; omega)).mono (T := Fresh w w3) (fun x _ hx => ⟨hx.1, Nat.lt_of_lt_of_le hx.2 hk.size⟩))
  replace K := Lib.hid (K.out.trans hk (fun _ _ h => h))
  clear hk
  go_ret
  refine ⟨rfl, ⟨fun x => S x ∨ Fresh w w3 x, ⟨⟨_, _, _, _, _, _, _, HB.out, HKY.out.mono (fun _ _ h => .inl h), ⟨⟨HO.out.1, HO.out.2.mono (fun _ _ h => .inr h), HO.out.3⟩, ⟨HD.out.1.mono (fun _ _ h => .inl h), HD.out.2.mono (fun _ _ h => .inl h), HD.out.3.mono (fun _ _ h => .inl h)⟩⟩⟩, HU.out, ⟨HZ.out.1, HS.out.2⟩⟩, fun x h => h⟩, K.out⟩
set_option maxRecDepth 100000 in
set_option maxHeartbeats 1600000 in
theorem stepR_bodyx (hJ : J w G b p q A B) (hG : ¬ G m) (h : MR w m q S M) (hm : ¬ S m) (hn : M.nx = .body) (c1 : ¬ opErr B M.id = 0) : Calls Tryz.prog 53 #[pV m] w fun e w' => e = .returned (.bool true) ∧ StR w w' m q S ({ bodyM B M with nx := .done }) := by
  obtain ⟨⟨kv, c0, c1, c2, c3, c4, c5, hb, hk, hn⟩, hu, hs⟩ := h
  obtain ⟨KA, kc, ek, _, _⟩ := hk.form
  obtain ⟨X1, k1, e1, _, _⟩ := hn.1.high.form
  obtain ⟨X3, k3, e3, _, _⟩ := hn.2.keys.form
  obtain ⟨X4, k4, e4, _, _⟩ := hn.2.vals.form
  obtain ⟨X5, k5, e5, _, _⟩ := hn.2.kids.form
  have e0 := hn.1.lvl
  have e2 := hn.1.right
  unfold iV at e0 e2
  subst ek e0 e1 e2 e3 e4 e5
  have HB := Lib.hid hb
  have HKY := Lib.hid hk
  have HH := Lib.hid hn.1
  have HD := Lib.hid hn.2
  have HU : Hid (U64 M.word) := hu
  have HS : Hid (NdSm 0 M.nd) := hs
  have HJ := Lib.hid hJ
  have HG : Hid (¬ G m) := hG
  have HM : Hid (¬ S m) := hm
  have HLT := Lib.hid hb.lt
  clear hJ hb hk hn hu hs hG hm
  have hmf : ∀ (fn : Fn) (first cap : Array Value) (w : World), (Instr.makeFunc fn first cap).run Tryz.prog w = .ok (.func fn first cap) w := fun _ _ _ _ => rfl
  have hsf : ∀ (a : Addr) (fn : Fn) (first cap : Array Value) (w : World), (store a (.func fn first cap)).run Tryz.prog w = stored Tryz.prog w a (.func fn first cap) .plain := fun a fn f c w => run_store Tryz.prog w a (.func fn f c) .plain rfl
  have hsn : ∀ (a : Addr) (w : World), (store a .nilFunc).run Tryz.prog w = stored Tryz.prog w a .nilFunc .plain := fun a w => run_store Tryz.prog w a .nilFunc .plain rfl
  clear hmf hsf hsn
  replace HB : Hid (Blk w m 181 #[pV q, .slice KA M.key.length kc, iV M.level, .int .i64 3, iV M.id, .int .u64 M.word, .int .i64 M.nd.lvl, .slice X1 M.nd.high.length k1, .int .i64 M.nd.right, .slice X3 M.nd.keys.length k3, .slice X4 M.nd.vals.length k4, .slice X5 M.nd.kids.length k5, .bool M.there, iV M.again, iV M.right]) := by have h := HB.out; rw [hn] at h; exact h
  clear hn
  unfold pV
  go_enter Tryz.func53, Tryz.ntmps53
  have HZ := Lib.hid (opNdR_sm HJ.out M.id)
  have n1 : (opErr B M.id != 0) = true := by simpa using c1
  clear c1
  have q3 := HB.out.cell 3
  have g3 := HB.out.frozen 3
  unfold pV iV at q3
  go_wp2_with fail
  clear q3 g3
  refine wp_region_canon [0, 1, 2, 3, 4, 5, 6, 7, 8, 9, 10, 11, 12, 13, 14, 15, 16, 17] 16 (fun W => W.cell? ⟨m, 0, none⟩ = some (pV q) ∧ W.cell? ⟨m, 4, none⟩ = some (.int .i64 M.id)) (by kernel_rfl) (by kernel_rfl) rfl (by kernel_rfl) (fun _ _ d _ _ h => by cases d <;> exact h) ?_ ?_
  · exact ⟨HB.out.cell 0, HB.out.cell 4⟩
  refine canon_at (fun w1 hw => ?_)
  have hk : Keeps Nob w w1 := by rw [hw]; exact Keeps.drew _ _
  clear hw
  replace HJ := Lib.hid (HJ.out.nob hk)
  replace HB := Lib.hid (HB.out.keeps hk id)
  replace HKY := Lib.hid (HKY.out.keeps hk (fun _ _ _ => id))
  replace HH := Lib.hid (HH.out.keeps hk (fun _ _ _ => id))
  replace HD := Lib.hid (HD.out.keeps hk (fun _ _ _ => id))
  replace hk : Keeps (fun x => x = m) w w1 := hk.mono (fun _ _ h => h.elim)
  have K := Lib.hid hk
  clear hk
  iterate 9
    refine wpCanon_read (v := ?_) rfl (by kernel_rfl) (by rfl) ?_ ?_
    rotate_left
    · intro W hW
      try (obtain ⟨h1, h2⟩ : _ ∧ _ := hW)
      go_simp
      try rfl
    simp only [Act.put, List.setIfInBounds_toArray, List.set_cons_zero, List.set_cons_succ]
  refine wpCanon_act rfl (by kernel_rfl) ?_
  go_wp2_with (go_at_call 100; refine (HJ.out.bodyR (ix := M.id)).mono ?_; rintro e wk ⟨d0, d1, d2, rfl, hO, hj, hk⟩)
  have hsz := K.out.size
  replace HB := Lib.hid (HB.out.keeps hk id)
  replace HKY := Lib.hid (HKY.out.keeps hk (fun _ _ _ => id))
  replace HH := Lib.hid (HH.out.keeps hk (fun _ _ _ => id))
  replace HD := Lib.hid (HD.out.keeps hk (fun _ _ _ => id))
  replace HJ := Lib.hid hj
  replace hk : Keeps (fun x => x = m) w1 wk := hk.mono (fun _ _ h => h.elim)
  replace K := Lib.hid (K.out.trans hk (fun _ _ h => h))
  clear hk hj
  have HO := Lib.hid (hO.r.mono (T := Fresh w wk) (fun x _ hx => ⟨Nat.le_trans hsz hx.1, hx.2⟩))
  obtain ⟨D3, j3, f3⟩ := OTx.form hO.keys
  obtain ⟨D4, j4, f4⟩ := OTx.form hO.vals
  obtain ⟨D5, j5, f5⟩ := Own.form hO.kids
  subst f3 f4 f5
  clear hO hsz
  refine ⟨.inr ⟨HB.out.cell 0, HB.out.cell 4⟩, ?_⟩
  iterate 6
    refine wpCanon_read (v := ?_) rfl (by kernel_rfl) (by rfl) ?_ ?_
    rotate_left
    · intro W hW
      try (obtain ⟨h1, h2⟩ : _ ∧ _ := hW)
      go_simp
      try rfl
    simp only [Act.put, List.setIfInBounds_toArray, List.set_cons_zero, List.set_cons_succ]
  refine wpCanon_act rfl (by kernel_rfl) ?_
  have q9 := HB.out.cell 9
  have g9 := HB.out.frozen 9
  have q10 := HB.out.cell 10
  have g10 := HB.out.frozen 10
  have q11 := HB.out.cell 11
  have g11 := HB.out.frozen 11
  unfold pV iV at q9 q10 q11
  go_wp2
  clear q9 g9 q10 g10 q11 g11
  refine ⟨.inl (by kernel_rfl), ?_⟩
  refine canon_at (fun w2 hw => ?_)
  have hk : Keeps (fun x => x = m) wk w2 := by rw [hw]; exact ((Keeps.setCell _ (M := fun b => b = m) rfl _).setCell' (fun _ => rfl) _).setCell' (fun _ => rfl) _
  replace HB : Hid (Blk w2 m 181 #[pV q, .slice KA M.key.length kc, iV M.level, .int .i64 3, iV M.id, .int .u64 M.word, .int .i64 M.nd.lvl, .slice X1 M.nd.high.length k1, .int .i64 M.nd.right, .slice D3 (opNd B M.id).keys.length j3, .slice D4 (opNd B M.id).vals.length j4, .slice D5 (opNd B M.id).kids.length j5, .bool M.there, iV M.again, iV M.right]) := by rw [hw]; exact (((HB.out.set_ 9 _).set_ 10 _).set_ 11 _)
  clear hw
  replace HKY := Lib.hid (HKY.out.keeps hk (fun x _ hx e => HM.out (e ▸ hx)))
  replace HH := Lib.hid (HH.out.keeps hk (fun x _ hx e => HM.out (e ▸ hx)))
  replace HD := Lib.hid (HD.out.keeps hk (fun x _ hx e => HM.out (e ▸ hx)))
  replace HJ := Lib.hid (HJ.out.keeps hk (fun x _ hx e => HG.out (e ▸ hx)))
  replace HO := Lib.hid ((HO.out.keeps hk (fun x _ hx e => by have h1 := hx.1; have h2 := HLT.out; have h3 : x = m := e; omega)).mono (T := Fresh w w2) (fun x _ hx => ⟨hx.1, Nat.lt_of_lt_of_le hx.2 hk.size⟩))
  replace K := Lib.hid (K.out.trans hk (fun _ _ h => h))
  clear hk
  iterate 1
    refine wpCanon_read (v := ?_) rfl (by kernel_rfl) (by rfl) ?_ ?_
    rotate_left
    · intro W hW
      try (obtain ⟨h1, h2⟩ : _ ∧ _ := hW)
      go_simp
      try rfl
    simp only [Act.put, List.setIfInBounds_toArray, List.set_cons_zero, List.set_cons_succ]
  refine wpCanon_nil ?_
  unfold iV
  have q3 := HB.out.cell 3
  have g3 := HB.out.frozen 3
  unfold pV iV at q3
  go_wp2
  clear q3 g3
  refine post_at (fun w3 hw => ?_)
  have hk : Keeps (fun x => x = m) w2 w3 := by rw [hw]; exact (Keeps.setCell _ (M := fun b => b = m) rfl _).setCell' (fun _ => rfl) _
  replace HB : Hid (Blk w3 m 181 #[pV q, .slice KA M.key.length kc, iV M.level, .int .i64 5, iV M.id, .int .u64 M.word, .int .i64 M.nd.lvl, .slice X1 M.nd.high.length k1, .int .i64 M.nd.right, .slice D3 (opNd B M.id).keys.length j3, .slice D4 (opNd B M.id).vals.length j4, .slice D5 (opNd B M.id).kids.length j5, .bool M.there, iV M.again, iV M.right]) := by rw [hw]; exact ((HB.out.set_ 3 _).set_ 3 _)
  clear hw
  replace HKY := Lib.hid (HKY.out.keeps hk (fun x _ hx e => HM.out (e ▸ hx)))
  replace HH := Lib.hid (HH.out.keeps hk (fun x _ hx e => HM.out (e ▸ hx)))
  replace HD := Lib.hid (HD.out.keeps hk (fun x _ hx e => HM.out (e ▸ hx)))
  replace HJ := Lib.hid (HJ.out.keeps hk (fun x _ hx e => HG.out (e ▸ hx)))
  replace HO := Lib.hid ((HO.out.keeps hk (fun x _ hx e => by have h1 := hx.1; have h2 := HLT.out; have h3 : x = m := e; omega)).mono (T := Fresh w w3) (fun x _ hx => ⟨hx.1, Nat.lt_of_lt_of_le hx.2 hk.size⟩))
  replace K := Lib.hid (K.out.trans hk (fun _ _ h => h))
  clear hk
  go_ret
  refine ⟨rfl, ⟨fun x => S x ∨ Fresh w w3 x, ⟨⟨_, _, _, _, _, _, _, HB.out, HKY.out.mono (fun _ _ h => .inl h), ⟨⟨HH.out.1, HH.out.2.mono (fun _ _ h => .inl h), HH.out.3⟩, ⟨HO.out.1.mono (fun _ _ h => .inr h), HO.out.2.mono (fun _ _ h => .inr h), HO.out.3.mono (fun _ _ h => .inr h)⟩⟩⟩, HU.out, ⟨HS.out.1, HZ.out.2⟩⟩, fun x h => h⟩, K.out⟩
set_option maxRecDepth 100000 in
set_option maxHeartbeats 1600000 in
theorem stepR_body (hJ : J w G b p q A B) (hG : ¬ G m) (h : MR w m q S M) (hm : ¬ S m) (hn : M.nx = .body) (c1 : opErr B M.id = 0) : Calls Tryz.prog 53 #[pV m] w fun e w' => e = .returned (.bool false) ∧ StR w w' m q S (bodyM B M) := by
  obtain ⟨⟨kv, c0, c1, c2, c3, c4, c5, hb, hk, hn⟩, hu, hs⟩ := h
  obtain ⟨KA, kc, ek, _, _⟩ := hk.form
  obtain ⟨X1, k1, e1, _, _⟩ := hn.1.high.form
  obtain ⟨X3, k3, e3, _, _⟩ := hn.2.keys.form
  obtain ⟨X4, k4, e4, _, _⟩ := hn.2.vals.form
  obtain ⟨X5, k5, e5, _, _⟩ := hn.2.kids.form
  have e0 := hn.1.lvl
  have e2 := hn.1.right
  unfold iV at e0 e2
  subst ek e0 e1 e2 e3 e4 e5
  have HB := Lib.hid hb
  have HKY := Lib.hid hk
  have HH := Lib.hid hn.1
  have HD := Lib.hid hn.2
  have HU : Hid (U64 M.word) := hu
  have HS : Hid (NdSm 0 M.nd) := hs
  have HJ := Lib.hid hJ
  have HG : Hid (¬ G m) := hG
  have HM : Hid (¬ S m) := hm
  have HLT := Lib.hid hb.lt
  clear hJ hb hk hn hu hs hG hm
  have hmf : ∀ (fn : Fn) (first cap : Array Value) (w : World), (Instr.makeFunc fn first cap).run Tryz.prog w = .ok (.func fn first cap) w := fun _ _ _ _ => rfl
  have hsf : ∀ (a : Addr) (fn : Fn) (first cap : Array Value) (w : World), (store a (.func fn first cap)).run Tryz.prog w = stored Tryz.prog w a (.func fn first cap) .plain := fun a fn f c w => run_store Tryz.prog w a (.func fn f c) .plain rfl
  have hsn : ∀ (a : Addr) (w : World), (store a .nilFunc).run Tryz.prog w = stored Tryz.prog w a .nilFunc .plain := fun a w => run_store Tryz.prog w a .nilFunc .plain rfl
  clear hmf hsf hsn
  replace HB : Hid (Blk w m 181 #[pV q, .slice KA M.key.length kc, iV M.level, .int .i64 3, iV M.id, .int .u64 M.word, .int .i64 M.nd.lvl, .slice X1 M.nd.high.length k1, .int .i64 M.nd.right, .slice X3 M.nd.keys.length k3, .slice X4 M.nd.vals.length k4, .slice X5 M.nd.kids.length k5, .bool M.there, iV M.again, iV M.right]) := by have h := HB.out; rw [hn] at h; exact h
  clear hn
  unfold pV
  go_enter Tryz.func53, Tryz.ntmps53
  have HZ := Lib.hid (opNdR_sm HJ.out M.id)
  have n1 := Lib.hid c1
  clear c1
  have q3 := HB.out.cell 3
  have g3 := HB.out.frozen 3
  unfold pV iV at q3
  go_wp2_with fail
  clear q3 g3
  refine wp_region_canon [0, 1, 2, 3, 4, 5, 6, 7, 8, 9, 10, 11, 12, 13, 14, 15, 16, 17] 16 (fun W => W.cell? ⟨m, 0, none⟩ = some (pV q) ∧ W.cell? ⟨m, 4, none⟩ = some (.int .i64 M.id)) (by kernel_rfl) (by kernel_rfl) rfl (by kernel_rfl) (fun _ _ d _ _ h => by cases d <;> exact h) ?_ ?_
  · exact ⟨HB.out.cell 0, HB.out.cell 4⟩
  refine canon_at (fun w1 hw => ?_)
  have hk : Keeps Nob w w1 := by rw [hw]; exact Keeps.drew _ _
  clear hw
  replace HJ := Lib.hid (HJ.out.nob hk)
  replace HB := Lib.hid (HB.out.keeps hk id)
  replace HKY := Lib.hid (HKY.out.keeps hk (fun _ _ _ => id))
  replace HH := Lib.hid (HH.out.keeps hk (fun _ _ _ => id))
  replace HD := Lib.hid (HD.out.keeps hk (fun _ _ _ => id))
  replace hk : Keeps (fun x => x = m) w w1 := hk.mono (fun _ _ h => h.elim)
  have K := Lib.hid hk
  clear hk
  iterate 9
    refine wpCanon_read (v := ?_) rfl (by kernel_rfl) (by rfl) ?_ ?_
    rotate_left
    · intro W hW
      try (obtain ⟨h1, h2⟩ : _ ∧ _ := hW)
      go_simp
      try rfl
    simp only [Act.put, List.setIfInBounds_toArray, List.set_cons_zero, List.set_cons_succ]
  refine wpCanon_act rfl (by kernel_rfl) ?_
  go_wp2_with (go_at_call 100; refine (HJ.out.bodyR (ix := M.id)).mono ?_; rintro e wk ⟨d0, d1, d2, rfl, hO, hj, hk⟩)
  have hsz := K.out.size
  replace HB := Lib.hid (HB.out.keeps hk id)
  replace HKY := Lib.hid (HKY.out.keeps hk (fun _ _ _ => id))
  replace HH := Lib.hid (HH.out.keeps hk (fun _ _ _ => id))
  replace HD := Lib.hid (HD.out.keeps hk (fun _ _ _ => id))
  replace HJ := Lib.hid hj
  replace hk : Keeps (fun x => x = m) w1 wk := hk.mono (fun _ _ h => h.elim)
  replace K := Lib.hid (K.out.trans hk (fun _ _ h => h))
  clear hk hj
  rw [n1.out]
  have HO := Lib.hid (hO.r.mono (T := Fresh w wk) (fun x _ hx => ⟨Nat.le_trans hsz hx.1, hx.2⟩))
  obtain ⟨D3, j3, f3⟩ := OTx.form hO.keys
  obtain ⟨D4, j4, f4⟩ := OTx.form hO.vals
  obtain ⟨D5, j5, f5⟩ := Own.form hO.kids
  subst f3 f4 f5
  clear hO hsz
  refine ⟨.inr ⟨HB.out.cell 0, HB.out.cell 4⟩, ?_⟩
  iterate 6
    refine wpCanon_read (v := ?_) rfl (by kernel_rfl) (by rfl) ?_ ?_
    rotate_left
    · intro W hW
      try (obtain ⟨h1, h2⟩ : _ ∧ _ := hW)
      go_simp
      try rfl
    simp only [Act.put, List.setIfInBounds_toArray, List.set_cons_zero, List.set_cons_succ]
  refine wpCanon_act rfl (by kernel_rfl) ?_
  have q9 := HB.out.cell 9
  have g9 := HB.out.frozen 9
  have q10 := HB.out.cell 10
  have g10 := HB.out.frozen 10
  have q11 := HB.out.cell 11
  have g11 := HB.out.frozen 11
  unfold pV iV at q9 q10 q11
  go_wp2
  clear q9 g9 q10 g10 q11 g11
  refine ⟨.inl (by kernel_rfl), ?_⟩
  refine canon_at (fun w2 hw => ?_)
  have hk : Keeps (fun x => x = m) wk w2 := by rw [hw]; exact ((Keeps.setCell _ (M := fun b => b = m) rfl _).setCell' (fun _ => rfl) _).setCell' (fun _ => rfl) _
  replace HB : Hid (Blk w2 m 181 #[pV q, .slice KA M.key.length kc, iV M.level, .int .i64 3, iV M.id, .int .u64 M.word, .int .i64 M.nd.lvl, .slice X1 M.nd.high.length k1, .int .i64 M.nd.right, .slice D3 (opNd B M.id).keys.length j3, .slice D4 (opNd B M.id).vals.length j4, .slice D5 (opNd B M.id).kids.length j5, .bool M.there, iV M.again, iV M.right]) := by rw [hw]; exact (((HB.out.set_ 9 _).set_ 10 _).set_ 11 _)
  clear hw
  replace HKY := Lib.hid (HKY.out.keeps hk (fun x _ hx e => HM.out (e ▸ hx)))
  replace HH := Lib.hid (HH.out.keeps hk (fun x _ hx e => HM.out (e ▸ hx)))
  replace HD := Lib.hid (HD.out.keeps hk (fun x _ hx e => HM.out (e ▸ hx)))
  replace HJ := Lib.hid (HJ.out.keeps hk (fun x _ hx e => HG.out (e ▸ hx)))
  replace HO := Lib.hid ((HO.out.keeps hk (fun x _ hx e => by have h1 := hx.1; have h2 := HLT.out; have h3 : x = m := e; omega)).mono (T := Fresh w w2) (fun x _ hx => ⟨hx.1, Nat.lt_of_lt_of_le hx.2 hk.size⟩))
  replace K := Lib.hid (K.out.trans hk (fun _ _ h => h))
  clear hk
  iterate 1
    refine wpCanon_read (v := ?_) rfl (by kernel_rfl) (by rfl) ?_ ?_
    rotate_left
    · intro W hW
      try (obtain ⟨h1, h2⟩ : _ ∧ _ := hW)
      go_simp
      try rfl
    simp only [Act.put, List.setIfInBounds_toArray, List.set_cons_zero, List.set_cons_succ]
  refine wpCanon_nil ?_
  unfold iV
  have q3 := HB.out.cell 3
  have g3 := HB.out.frozen 3
  unfold pV iV at q3
  go_wp2
  clear q3 g3
  refine post_at (fun w3 hw => ?_)
  have hk : Keeps (fun x => x = m) w2 w3 := by rw [hw]; exact Keeps.setCell _ (M := fun b => b = m) rfl _
  replace HB : Hid (Blk w3 m 181 #[pV q, .slice KA M.key.length kc, iV M.level, .int .i64 4, iV M.id, .int .u64 M.word, .int .i64 M.nd.lvl, .slice X1 M.nd.high.length k1, .int .i64 M.nd.right, .slice D3 (opNd B M.id).keys.length j3, .slice D4 (opNd B M.id).vals.length j4, .slice D5 (opNd B M.id).kids.length j5, .bool M.there, iV M.again, iV M.right]) := by rw [hw]; exact (HB.out.set_ 3 _)
  clear hw
  replace HKY := Lib.hid (HKY.out.keeps hk (fun x _ hx e => HM.out (e ▸ hx)))
  replace HH := Lib.hid (HH.out.keeps hk (fun x _ hx e => HM.out (e ▸ hx)))
  replace HD := Lib.hid (HD.out.keeps hk (fun x _ hx e => HM.out (e ▸ hx)))
  replace HJ := Lib.hid (HJ.out.keeps hk (fun x _ hx e => HG.out (e ▸ hx)))
  replace HO := Lib.hid ((HO.out.keeps hk (fun x _ hx e => by have h1 := hx.1; have h2 := HLT.out; have h3 : x = m := e; omega)).mono (T := Fresh w w3) (fun x _ hx => ⟨hx.1, Nat.lt_of_lt_of_le hx.2 hk.size⟩))
  replace K := Lib.hid (K.out.trans hk (fun _ _ h => h))
  clear hk
  go_ret
  refine ⟨rfl, ⟨fun x => S x ∨ Fresh w w3 x, ⟨⟨_, _, _, _, _, _, _, HB.out, HKY.out.mono (fun _ _ h => .inl h), ⟨⟨HH.out.1, HH.out.2.mono (fun _ _ h => .inl h), HH.out.3⟩, ⟨HO.out.1.mono (fun _ _ h => .inr h), HO.out.2.mono (fun _ _ h => .inr h), HO.out.3.mono (fun _ _ h => .inr h)⟩⟩⟩, HU.out, ⟨HS.out.1, HZ.out.2⟩⟩, fun x h => h⟩, K.out⟩
set_option maxRecDepth 100000 in
set_option maxHeartbeats 1600000 in
theorem stepR_validx (hJ : J w G b p q A B) (hG : ¬ G m) (h : MR w m q S M) (hm : ¬ S m) (hn : M.nx = .valid) (c1 : ¬ opErr B M.id = 0) : Calls Tryz.prog 53 #[pV m] w fun e w' => e = .returned (.bool true) ∧ StR w w' m q S ({ M with nx := .done }) := by
  obtain ⟨⟨kv, c0, c1, c2, c3, c4, c5, hb, hk, hn⟩, hu, hs⟩ := h
  obtain ⟨KA, kc, ek, _, _⟩ := hk.form
  obtain ⟨X1, k1, e1, _, _⟩ := hn.1.high.form
  obtain ⟨X3, k3, e3, _, _⟩ := hn.2.keys.form
  obtain ⟨X4, k4, e4, _, _⟩ := hn.2.vals.form
  obtain ⟨X5, k5, e5, _, _⟩ := hn.2.kids.form
  have e0 := hn.1.lvl
  have e2 := hn.1.right
  unfold iV at e0 e2
  subst ek e0 e1 e2 e3 e4 e5
  have HB := Lib.hid hb
  have HKY := Lib.hid hk
  have HH := Lib.hid hn.1
  have HD := Lib.hid hn.2
  have HU : Hid (U64 M.word) := hu
  have HS : Hid (NdSm 0 M.nd) := hs
  have HJ := Lib.hid hJ
  have HG : Hid (¬ G m) := hG
  have HM : Hid (¬ S m) := hm
  have HLT := Lib.hid hb.lt
  clear hJ hb hk hn hu hs hG hm
  have hmf : ∀ (fn : Fn) (first cap : Array Value) (w : World), (Instr.makeFunc fn first cap).run Tryz.prog w = .ok (.func fn first cap) w := fun _ _ _ _ => rfl
  have hsf : ∀ (a : Addr) (fn : Fn) (first cap : Array Value) (w : World), (store a (.func fn first cap)).run Tryz.prog w = stored Tryz.prog w a (.func fn first cap) .plain := fun a fn f c w => run_store Tryz.prog w a (.func fn f c) .plain rfl
  have hsn : ∀ (a : Addr) (w : World), (store a .nilFunc).run Tryz.prog w = stored Tryz.prog w a .nilFunc .plain := fun a w => run_store Tryz.prog w a .nilFunc .plain rfl
  clear hmf hsf hsn
  replace HB : Hid (Blk w m 181 #[pV q, .slice KA M.key.length kc, iV M.level, .int .i64 4, iV M.id, .int .u64 M.word, .int .i64 M.nd.lvl, .slice X1 M.nd.high.length k1, .int .i64 M.nd.right, .slice X3 M.nd.keys.length k3, .slice X4 M.nd.vals.length k4, .slice X5 M.nd.kids.length k5, .bool M.there, iV M.again, iV M.right]) := by have h := HB.out; rw [hn] at h; exact h
  clear hn
  unfold pV
  go_enter Tryz.func53, Tryz.ntmps53
  have n1 : (opErr B M.id != 0) = true := by simpa using c1
  have n2 : (opErr B M.id == 0) = false := by simpa using c1
  clear c1
  have q3 := HB.out.cell 3
  have g3 := HB.out.frozen 3
  unfold pV iV at q3
  go_wp2_with fail
  clear q3 g3
  refine wp_region_canon [0, 1, 2, 3, 4, 5, 6, 7, 8, 9, 10, 11, 12, 13] 99 (fun W => W.cell? ⟨m, 0, none⟩ = some (pV q) ∧ W.cell? ⟨m, 4, none⟩ = some (.int .i64 M.id)) (by kernel_rfl) (by kernel_rfl) rfl (by kernel_rfl) (fun _ _ d _ _ h => by cases d <;> exact h) ?_ ?_
  · exact ⟨HB.out.cell 0, HB.out.cell 4⟩
  refine canon_at (fun w1 hw => ?_)
  have hk : Keeps Nob w w1 := by rw [hw]; exact Keeps.drew _ _
  clear hw
  replace HJ := Lib.hid (HJ.out.nob hk)
  replace HB := Lib.hid (HB.out.keeps hk id)
  replace HKY := Lib.hid (HKY.out.keeps hk (fun _ _ _ => id))
  replace HH := Lib.hid (HH.out.keeps hk (fun _ _ _ => id))
  replace HD := Lib.hid (HD.out.keeps hk (fun _ _ _ => id))
  replace hk : Keeps (fun x => x = m) w w1 := hk.mono (fun _ _ h => h.elim)
  have K := Lib.hid hk
  clear hk
  iterate 8
    refine wpCanon_read (v := ?_) rfl (by kernel_rfl) (by rfl) ?_ ?_
    rotate_left
    · intro W hW
      try (obtain ⟨h1, h2⟩ : _ ∧ _ := hW)
      go_simp
      try rfl
    simp only [Act.put, List.setIfInBounds_toArray, List.set_cons_zero, List.set_cons_succ]
  refine wpCanon_act rfl (by kernel_rfl) ?_
  go_wp2_with (go_at_call 79; refine (HJ.out.wordR (ix := M.id)).mono ?_; rintro e wk ⟨rfl, rfl⟩)
  refine ⟨.inr ⟨HB.out.cell 0, HB.out.cell 4⟩, ?_⟩
  iterate 5
    refine wpCanon_read (v := ?_) rfl (by kernel_rfl) (by rfl) ?_ ?_
    rotate_left
    · intro W hW
      try (obtain ⟨h1, h2⟩ : _ ∧ _ := hW)
      go_simp
      try rfl
    simp only [Act.put, List.setIfInBounds_toArray, List.set_cons_zero, List.set_cons_succ]
  refine wpCanon_nil ?_
  unfold iV
  have q3 := HB.out.cell 3
  have g3 := HB.out.frozen 3
  unfold pV iV at q3
  go_wp2
  clear q3 g3
  refine post_at (fun w2 hw => ?_)
  have hk : Keeps (fun x => x = m) w1 w2 := by rw [hw]; exact Keeps.setCell _ (M := fun b => b = m) rfl _
  replace HB : Hid (Blk w2 m 181 #[pV q, .slice KA M.key.length kc, iV M.level, .int .i64 5, iV M.id, .int .u64 M.word, .int .i64 M.nd.lvl, .slice X1 M.nd.high.length k1, .int .i64 M.nd.right, .slice X3 M.nd.keys.length k3, .slice X4 M.nd.vals.length k4, .slice X5 M.nd.kids.length k5, .bool M.there, iV M.again, iV M.right]) := by rw [hw]; exact (HB.out.set_ 3 _)
  clear hw
  replace HKY := Lib.hid (HKY.out.keeps hk (fun x _ hx e => HM.out (e ▸ hx)))
  replace HH := Lib.hid (HH.out.keeps hk (fun x _ hx e => HM.out (e ▸ hx)))
  replace HD := Lib.hid (HD.out.keeps hk (fun x _ hx e => HM.out (e ▸ hx)))
  replace HJ := Lib.hid (HJ.out.keeps hk (fun x _ hx e => HG.out (e ▸ hx)))
  replace K := Lib.hid (K.out.trans hk (fun _ _ h => h))
  clear hk
  go_ret
  refine ⟨rfl, ⟨S, ⟨⟨_, _, _, _, _, _, _, HB.out, HKY.out, ⟨HH.out, HD.out⟩⟩, HU.out, HS.out⟩, fun x h => .inl h⟩, K.out⟩
set_option maxRecDepth 100000 in
set_option maxHeartbeats 1600000 in
theorem stepR_valid (hJ : J w G b p q A B) (hG : ¬ G m) (h : MR w m q S M) (hm : ¬ S m) (hn : M.nx = .valid) (c1 : opErr B M.id = 0) (hlow : M.low) : Calls Tryz.prog 53 #[pV m] w fun e w' => e = .returned (.bool (decide ((decideM (opWord B M.id) M).nx = .done))) ∧ StR w w' m q S (decideM (opWord B M.id) M) := by
  obtain ⟨⟨kv, c0, c1, c2, c3, c4, c5, hb, hk, hn⟩, hu, hs⟩ := h
  obtain ⟨KA, kc, ek, _, _⟩ := hk.form
  obtain ⟨X1, k1, e1, _, _⟩ := hn.1.high.form
  obtain ⟨X3, k3, e3, _, _⟩ := hn.2.keys.form
  obtain ⟨X4, k4, e4, _, _⟩ := hn.2.vals.form
  obtain ⟨X5, k5, e5, _, _⟩ := hn.2.kids.form
  have e0 := hn.1.lvl
  have e2 := hn.1.right
  unfold iV at e0 e2
  subst ek e0 e1 e2 e3 e4 e5
  have HB := Lib.hid hb
  have HKY := Lib.hid hk
  have HH := Lib.hid hn.1
  have HD := Lib.hid hn.2
  have HU : Hid (U64 M.word) := hu
  have HS : Hid (NdSm 0 M.nd) := hs
  have HJ := Lib.hid hJ
  have HG : Hid (¬ G m) := hG
  have HM : Hid (¬ S m) := hm
  have HLT := Lib.hid hb.lt
  clear hJ hb hk hn hu hs hG hm
  have hmf : ∀ (fn : Fn) (first cap : Array Value) (w : World), (Instr.makeFunc fn first cap).run Tryz.prog w = .ok (.func fn first cap) w := fun _ _ _ _ => rfl
  have hsf : ∀ (a : Addr) (fn : Fn) (first cap : Array Value) (w : World), (store a (.func fn first cap)).run Tryz.prog w = stored Tryz.prog w a (.func fn first cap) .plain := fun a fn f c w => run_store Tryz.prog w a (.func fn f c) .plain rfl
  have hsn : ∀ (a : Addr) (w : World), (store a .nilFunc).run Tryz.prog w = stored Tryz.prog w a .nilFunc .plain := fun a w => run_store Tryz.prog w a .nilFunc .plain rfl
  clear hmf hsf hsn
  replace HB : Hid (Blk w m 181 #[pV q, .slice KA M.key.length kc, iV M.level, .int .i64 4, iV M.id, .int .u64 M.word, .int .i64 M.nd.lvl, .slice X1 M.nd.high.length k1, .int .i64 M.nd.right, .slice X3 M.nd.keys.length k3, .slice X4 M.nd.vals.length k4, .slice X5 M.nd.kids.length k5, .bool M.there, iV M.again, iV M.right]) := by have h := HB.out; rw [hn] at h; exact h
  have hn0 := Lib.hid hn
  clear hn
  have HLOW : Hid M.low := hlow
  clear hlow
  unfold pV
  go_enter Tryz.func53, Tryz.ntmps53
  have n1 := Lib.hid c1
  clear c1
  have q3 := HB.out.cell 3
  have g3 := HB.out.frozen 3
  unfold pV iV at q3
  go_wp2_with fail
  clear q3 g3
  refine wp_region_canon [0, 1, 2, 3, 4, 5, 6, 7, 8, 9, 10, 11, 12, 13] 99 (fun W => W.cell? ⟨m, 0, none⟩ = some (pV q) ∧ W.cell? ⟨m, 4, none⟩ = some (.int .i64 M.id)) (by kernel_rfl) (by kernel_rfl) rfl (by kernel_rfl) (fun _ _ d _ _ h => by cases d <;> exact h) ?_ ?_
  · exact ⟨HB.out.cell 0, HB.out.cell 4⟩
  refine canon_at (fun w1 hw => ?_)
  have hk : Keeps Nob w w1 := by rw [hw]; exact Keeps.drew _ _
  clear hw
  replace HJ := Lib.hid (HJ.out.nob hk)
  replace HB := Lib.hid (HB.out.keeps hk id)
  replace HKY := Lib.hid (HKY.out.keeps hk (fun _ _ _ => id))
  replace HH := Lib.hid (HH.out.keeps hk (fun _ _ _ => id))
  replace HD := Lib.hid (HD.out.keeps hk (fun _ _ _ => id))
  replace hk : Keeps (fun x => x = m) w w1 := hk.mono (fun _ _ h => h.elim)
  have K := Lib.hid hk
  clear hk
  iterate 8
    refine wpCanon_read (v := ?_) rfl (by kernel_rfl) (by rfl) ?_ ?_
    rotate_left
    · intro W hW
      try (obtain ⟨h1, h2⟩ : _ ∧ _ := hW)
      go_simp
      try rfl
    simp only [Act.put, List.setIfInBounds_toArray, List.set_cons_zero, List.set_cons_succ]
  refine wpCanon_act rfl (by kernel_rfl) ?_
  go_wp2_with (go_at_call 79; refine (HJ.out.wordR (ix := M.id)).mono ?_; rintro e wk ⟨rfl, rfl⟩)
  rw [n1.out]
  refine ⟨.inr ⟨HB.out.cell 0, HB.out.cell 4⟩, ?_⟩
  iterate 5
    refine wpCanon_read (v := ?_) rfl (by kernel_rfl) (by rfl) ?_ ?_
    rotate_left
    · intro W hW
      try (obtain ⟨h1, h2⟩ : _ ∧ _ := hW)
      go_simp
      try rfl
    simp only [Act.put, List.setIfInBounds_toArray, List.set_cons_zero, List.set_cons_succ]
  refine wpCanon_nil ?_
  unfold iV
  have HX : Hid (MR w1 m q S M) := Lib.hid ⟨⟨_, _, _, _, _, _, _, (by rw [hn0.out]; exact HB.out), HKY.out, HH.out, HD.out⟩, HU.out, HS.out⟩
  cases h1 : (decideM (opWord B M.id) M).nx
  all_goals
    go_wp2_with (go_at_call 101; refine (decideR_ HJ.out HG.out HX.out HM.out HLOW.out).mono ?_; rintro e w2 ⟨rfl, ⟨S', hX, hsub⟩, hk⟩; have q3 := hX.next.1; have HX2 := Lib.hid hX; have HSub := Lib.hid hsub; have HK := Lib.hid hk; clear hX hsub hk; rw [h1] at q3; simp only [nvR] at q3; unfold iV at q3)
    go_ret
    exact ⟨by simp [h1], ⟨S', HX2.out, fun x hx => (HSub.out x hx).imp id (fun h => ⟨Nat.le_trans K.out.size h.1, h.2⟩)⟩, K.out.trans HK.out (fun _ _ h => h)⟩
/-- One step of the document's machine. -/
theorem stepR_ (hJ : J w G b p q A B) (hG : ¬ G m) (h : MR w m q S M) (hm : ¬ S m) (hlow : M.low) : Calls Tryz.prog 53 #[pV m] w fun e w' => e = .returned (.bool (decide ((stepM B M).nx = .done))) ∧ StR w w' m q S (stepM B M) := by
  unfold stepM
  split
  · rename_i hn
    have := stepR_done hJ hG h hm hn
    simpa [hn] using this
  · rename_i hn; have := stepR_root hJ hG h hm hn; simpa [rootM] using this
  · rename_i hn
    by_cases c : opErr B M.id = 0
    · rw [if_pos c]
      by_cases hc : opWord B M.id % 2 = 0
      · have := stepR_latch_e hJ hG h hm hn hc c; simpa [latchM, hc] using this
      · have := stepR_latch_o hJ hG h hm hn hc c; simpa [latchM, hc, hn] using this
    · rw [if_neg c]
      by_cases hc : opWord B M.id % 2 = 0
      · have := stepR_latch_ex hJ hG h hm hn hc c; simpa [latchM, hc] using this
      · have := stepR_latch_ox hJ hG h hm hn hc c; simpa [latchM, hc] using this
  · rename_i hn
    by_cases c : opErr B M.id = 0
    · rw [if_pos c]; have := stepR_head hJ hG h hm hn c; simpa [headM] using this
    · rw [if_neg c]; have := stepR_headx hJ hG h hm hn c; simpa [headM] using this
  · rename_i hn
    by_cases c : opErr B M.id = 0
    · rw [if_pos c]; have := stepR_body hJ hG h hm hn c; simpa [bodyM] using this
    · rw [if_neg c]; have := stepR_bodyx hJ hG h hm hn c; simpa [bodyM] using this
  · rename_i hn
    by_cases c : opErr B M.id = 0
    · rw [if_pos c]; exact stepR_valid hJ hG h hm hn c hlow
    · rw [if_neg c]; have := stepR_validx hJ hG h hm hn c; simpa using this
end
end Go.Proofs.YtbhohohgojcapaaGreat
