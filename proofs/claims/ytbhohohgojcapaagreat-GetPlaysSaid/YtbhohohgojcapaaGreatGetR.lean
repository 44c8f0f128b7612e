/- The document's look-up: New, Step, Answer. -/
import Derived.Test.YtbhohohgojcapaaGreatGetX
import Derived.Test.YtbhohohgojcapaaGreatGetM
import Derived.Test.YtbhohohgojcapaaGreatDesR
namespace Go.Proofs.YtbhohohgojcapaaGreat
open Go.RowKit

section
variable {w : World} {G S : Nat → Prop} {b p q m d : Nat} {A B : Ar} {g : Gc} {v : Value} {key : List UInt8}
theorem Own.empty_ {N : Nat} {e : TypeId} {size : Nat} (hn : N = w.heap.size) (hs : S N) : Own (w.alloc (.cells #[] e)) S e size (.slice (some ⟨N, 0, none⟩) 0 0) 0 [] := by subst hn; exact Own.empty w S e size hs
set_option maxRecDepth 100000 in
set_option maxHeartbeats 1000000 in
theorem getNewR (hv : Byts w S v key) (hz : Sm 0 1 key.length) : Calls Tryz.prog 20 #[pV q, v] w fun e w' => ∃ m d, e = .returned (pV m) ∧ Fresh w w' m ∧ Fresh w w' d ∧ GR w' m d q (fun x => Fresh w w' x ∧ x ≠ m ∧ x ≠ d) (Gc.new key) ∧ Keeps Nob w w' := by
  have FD := newR (q := q) (level := 0) hv hz
  obtain ⟨VA, vc, ev, _, _⟩ := hv.form
  subst ev
  have HV := Lib.hid hv
  have HZ : Hid (Sm 0 1 key.length) := hz
  clear hv hz
  unfold pV iV at FD
  unfold pV
  go_enter Tryz.func20, Tryz.ntmps20
  go_wp2_with fail
  refine FD.mono ?_
  rintro e w1 ⟨d, rfl, hf1, hX, hk1⟩
  replace HV := Lib.hid (HV.out.keeps hk1 (fun _ _ _ => id))
  have HX := Lib.hid hX
  have HF := Lib.hid hf1
  have K := Lib.hid hk1
  clear FD hX hf1 hk1
  obtain ⟨i0, hi, hz0, hz1, hz2⟩ := info_parts Tryz.inf_u8
  go_wp2_with (at_builtin; refine wpList_app rfl (.tmp 8) (.tmp 9) 23 rfl Tryz.underlying23 hi hz0 hz1 hz2 rfl (by decide) (v := .slice (some ⟨w1.heap.size, 0, none⟩) 0 0) (n := 0) (m := key.length) (S := From w1.heap.size) (T := fun _ => True) (xs := []) (news := key.map bV) rfl ?k21 (y := .slice VA key.length vc) rfl ?k22 ?k23 ?k24 ?k25 ?k26)
  case k21 => exact Own.empty w1 _ _ _ (Nat.le_refl _)
  case k22 => exact (HV.out.g.keeps (Keeps.alloc Nob _ _) (fun _ _ _ => id)).mono (fun _ _ _ => trivial)
  case k23 => exact bV_one key
  case k24 => have := HZ.out; unfold Sm at this; unfold maxLen; omega
  case k25 => have := HZ.out; unfold Sm at this; omega
  case k26 =>
  intro v' w2 ho hk _
  try simp only [Nat.zero_add, List.nil_append] at ho
  obtain ⟨HOA, HOc, hf⟩ := ho.form
  subst hf
  have HO : Hid (OBy w2 (Fresh w1 w2) (.slice HOA key.length HOc) key) := ho.mono (fun b _ hb => by
    rcases hb with hb | hb
    · simp [Value.ownBlock] at hb; subst hb; exact ⟨Nat.le_refl _, by have := hk.size; simp at this; omega⟩
    · have h1 := hb.1; exact ⟨by first | omega | (simp at h1; omega), hb.2⟩)
  have K2 : Hid (Keeps Nob w1 w2) := (Keeps.alloc Nob w1 _).trans hk (fun b hb e => by simp [Value.ownBlock] at e; omega)
  clear ho hk HV
  go_wp2
  refine post_at (fun w3 hw => ?_)
  go_ret
  have hb : Blk w3 w2.heap.size 125 #[.pointer (some ⟨d, 0, none⟩), .slice HOA key.length HOc, .bool false, .slice none 0 0, .bool false, .int .i64 0] := by rw [hw]; exact Blk.new _ _ _
  have hk : Keeps Nob w2 w3 := by rw [hw]; exact Keeps.alloc Nob _ _
  have s1 := K.out.size
  have s2 := K2.out.size
  have s3 := hk.size
  have s4 := hb.lt
  have f1 := HF.out.1
  have f2 := HF.out.2
  refine ⟨w2.heap.size, d, rfl, ⟨by omega, s4⟩, ⟨f1, by omega⟩, ⟨⟨⟨_, _, hb, ?_, ?_⟩, by simp [Gc.new, Gc.out, Sm], HZ.out⟩, ?_, fun h => h.2.1 rfl, fun h => h.2.2 rfl, by omega⟩, (K.out.trans K2.out (fun _ _ h => h)).trans hk (fun _ _ h => h)⟩
  · exact (HO.out.r.keeps hk (fun _ _ _ => id)).mono (fun x _ hx => ⟨⟨by have := hx.1; omega, by have := hx.2; omega⟩, by have := hx.2; omega, by have := hx.1; omega⟩)
  · exact SlR.nil _ _ _ _ (by decide)
  · exact ((HX.out.keeps K2.out id (fun _ _ _ => id)).keeps hk id (fun _ _ _ => id)).mono (fun x _ hx => ⟨⟨hx.1.1, by have := hx.1.2; omega⟩, by have := hx.1.2; omega, hx.2⟩)
set_option maxRecDepth 100000 in
set_option maxHeartbeats 1000000 in
theorem stepGR_done (h : GR w m d q S g) (hr : g.res.isSome = true) : Calls Tryz.prog 22 #[pV m] w fun e w' => e = .returned (.tuple #[.bool true, .bool false]) ∧ w = w' := by
  obtain ⟨⟨⟨kv, vv, hb, _, _⟩, _, _⟩, _, _, _, _⟩ := h
  have q2 := hb.cell 2
  rw [hr] at q2
  clear hb hr
  unfold pV at q2
  unfold pV
  go_enter Tryz.func22, Tryz.ntmps22
  go_wp2
  go_ret2
  exact ⟨rfl, rfl⟩
set_option maxRecDepth 100000 in
set_option maxHeartbeats 1000000 in
theorem stepGR_bad (h : GR w m d q S g) (hr : g.res = none) (hk : keyFit g.D.key = false) : Calls Tryz.prog 22 #[pV m] w fun e w' => e = .returned (.tuple #[.bool true, .bool true]) ∧ GR w' m d q (fun x => S x ∨ Fresh w w' x) { g with res := some ⟨[], false, 3⟩ } ∧ Keeps (fun x => x = m ∨ x = d) w w' := by
  obtain ⟨⟨⟨kv, vv, hb, hkv, hvv⟩, hsm, hks⟩, hX, hm, hd, hne⟩ := h
  obtain ⟨D, res⟩ := g
  simp only at hr
  subst hr
  replace hks : Sm 0 1 D.key.length := hks
  replace hks : Sm 0 1 D.key.length := hks
  obtain ⟨KA, kc, ek, _, _⟩ := hkv.form
  obtain ⟨VA, vc, ev, _, _⟩ := hvv.form
  subst ek ev
  have HB := Lib.hid hb
  have HKV := Lib.hid hkv
  have HVV := Lib.hid hvv
  have HX := Lib.hid hX
  have HM : Hid (¬ S m) := hm
  have HD : Hid (¬ S d) := hd
  have HNE : Hid (m ≠ d) := hne
  have HSM : Hid (Sm 0 1 ([] : List UInt8).length) := hsm
  have HKS : Hid (Sm 0 1 D.key.length) := hks
  have HLT : Hid (m < w.heap.size ∧ d < w.heap.size) := ⟨hb.lt, hX.lt⟩
  have FK := keyFitR hkv
  rw [hk] at FK
  have q1 := hb.cell 1
  have q2 : w.cell? ⟨m, 2, none⟩ = some (.bool false) := hb.cell 2
  have q5 : w.cell? ⟨m, 5, none⟩ = some (.int .i64 0) := hb.cell 5
  have g2 := hb.frozen 2
  have g5 := hb.frozen 5
  clear hb hkv hvv hX hm hd hne hsm hks hk
  unfold pV
  go_enter Tryz.func22, Tryz.ntmps22
  go_wp2_with (go_at_call 11; refine FK.mono ?_; rintro e wk ⟨rfl, rfl⟩)
  go_ret2
  have K : Hid (Keeps (fun x => x = m) w ((w.setCell ⟨m, 2, none⟩ (.bool true)).setCell ⟨m, 5, none⟩ (.int .i64 3))) := (Keeps.setCell _ (M := fun x => x = m) rfl _).setCell' (fun _ => rfl) _
  refine ⟨rfl, ⟨⟨⟨_, _, (HB.out.set_ 2 _).set_ 5 _, (HKV.out.keeps K.out (fun x _ hx e => HM.out (e ▸ hx))).mono (fun _ _ h => .inl h), (HVV.out.keeps K.out (fun x _ hx e => HM.out (e ▸ hx))).mono (fun _ _ h => .inl h)⟩, HSM.out, HKS.out⟩, (HX.out.keeps K.out (fun e => HNE.out e.symm) (fun x _ hx e => HM.out (e ▸ hx))).mono (fun _ _ h => .inl h), fun h => h.elim HM.out (fun h => by have h1 := h.1; have h2 := HLT.out.1; omega), fun h => h.elim HD.out (fun h => by have h1 := h.1; have h2 := HLT.out.2; omega), HNE.out⟩, K.out.mono (fun x _ h => .inl h)⟩
set_option maxRecDepth 100000 in
set_option maxHeartbeats 1600000 in
theorem stepGR_go (hJ : J w G b p q A B) (off : ∀ x, x = m ∨ x = d ∨ S x → ¬ G x) (h : GR w m d q S g) (hlow : g.D.low) (hr : g.res = none) (hk : keyFit g.D.key = true) (hn : ¬ (stepM B g.D).nx = .done) : Calls Tryz.prog 22 #[pV m] w fun e w' => e = .returned (.tuple #[.bool false, .bool false]) ∧ GR w' m d q (fun x => S x ∨ Fresh w w' x) { g with D := stepM B g.D } ∧ Keeps (fun x => x = m ∨ x = d) w w' := by
  obtain ⟨⟨⟨kv, vv, hb, hkv, hvv⟩, hsm, hks⟩, hX, hm, hd, hne⟩ := h
  obtain ⟨D, res⟩ := g
  simp only at hr
  subst hr
  replace hks : Sm 0 1 D.key.length := hks
  replace hks : Sm 0 1 D.key.length := hks
  obtain ⟨KA, kc, ek, _, _⟩ := hkv.form
  obtain ⟨VA, vc, ev, _, _⟩ := hvv.form
  subst ek ev
  have HB := Lib.hid hb
  have HKV := Lib.hid hkv
  have HVV := Lib.hid hvv
  have HX := Lib.hid hX
  have HM : Hid (¬ S m) := hm
  have HD : Hid (¬ S d) := hd
  have HNE : Hid (m ≠ d) := hne
  have HSM : Hid (Sm 0 1 ([] : List UInt8).length) := hsm
  have HKS : Hid (Sm 0 1 D.key.length) := hks
  have HLT : Hid (m < w.heap.size ∧ d < w.heap.size) := ⟨hb.lt, hX.lt⟩
  have FK := keyFitR hkv
  rw [show keyFit D.key = true from hk] at FK
  have hlow' : D.low := hlow
  have q0 := hb.cell 0
  have q1 := hb.cell 1
  have q2 : w.cell? ⟨m, 2, none⟩ = some (.bool false) := hb.cell 2
  have FS := stepR_ hJ (off d (.inr (.inl rfl))) hX hd hlow'
  rw [decide_eq_false hn] at FS
  clear hb hkv hvv hX hm hd hne hsm hks hk hJ off hlow hlow' hn
  unfold pV at FS q0
  unfold pV
  go_enter Tryz.func22, Tryz.ntmps22
  go_wp2_with (first | (go_at_call 11; refine FK.mono ?_; rintro e wk ⟨rfl, rfl⟩) | fail)
  refine FS.mono ?_
  rintro e w1 ⟨rfl, ⟨S1, hX1, hsub⟩, hk1⟩
  clear FS FK q0 q1 q2
  have HX1 := Lib.hid hX1
  have HSUB := Lib.hid hsub
  have K := Lib.hid hk1
  clear hX1 hsub hk1
  go_wp2
  go_ret2
  refine ⟨rfl, ⟨⟨⟨_, _, HB.out.keeps K.out HNE.out, ?_, (HVV.out.keeps K.out (fun x _ hx e => HD.out (e ▸ hx))).mono (fun _ _ h => .inl h)⟩, HSM.out, ?_⟩, HX1.out.mono (fun x _ hx => HSUB.out x hx), fun h => h.elim HM.out (fun h => by have h1 := h.1; have h2 := HLT.out.1; omega), fun h => h.elim HD.out (fun h => by have h1 := h.1; have h2 := HLT.out.2; omega), HNE.out⟩, K.out.mono (fun x _ h => .inr h)⟩
  · show Byts w1 _ _ (stepM B D).key
    rw [stepM_key]
    exact (HKV.out.keeps K.out (fun x _ hx e => HD.out (e ▸ hx))).mono (fun _ _ h => .inl h)
  · show Sm 0 1 (stepM B D).key.length
    rw [stepM_key]; exact HKS.out
set_option maxRecDepth 100000 in
set_option maxHeartbeats 3200000 in
theorem stepGR_end0 (hJ : J w G b p q A B) (off : ∀ x, x = m ∨ x = d ∨ S x → ¬ G x) (h : GR w m d q S g) (hlow : g.D.low) (hr : g.res = none) (hk : keyFit g.D.key = true) (hn : (stepM B g.D).nx = .done) (hi : (stepM B g.D).outId = 0) : Calls Tryz.prog 22 #[pV m] w fun e w' => e = .returned (.tuple #[.bool true, .bool false]) ∧ GR w' m d q (fun x => S x ∨ Fresh w w' x) ⟨stepM B g.D, some (endG (stepM B g.D))⟩ ∧ Keeps (fun x => x = m ∨ x = d) w w' := by
  obtain ⟨⟨⟨kv, vv, hb, hkv, hvv⟩, hsm, hks⟩, hX, hm, hd, hne⟩ := h
  obtain ⟨D, res⟩ := g
  simp only at hr
  subst hr
  replace hks : Sm 0 1 D.key.length := hks
  replace hks : Sm 0 1 D.key.length := hks
  obtain ⟨KA, kc, ek, _, _⟩ := hkv.form
  obtain ⟨VA, vc, ev, _, _⟩ := hvv.form
  subst ek ev
  have HB := Lib.hid hb
  have HKV := Lib.hid hkv
  have HVV := Lib.hid hvv
  have HX := Lib.hid hX
  have HM : Hid (¬ S m) := hm
  have HD : Hid (¬ S d) := hd
  have HNE : Hid (m ≠ d) := hne
  have HSM : Hid (Sm 0 1 ([] : List UInt8).length) := hsm
  have HKS : Hid (Sm 0 1 D.key.length) := hks
  have HLT : Hid (m < w.heap.size ∧ d < w.heap.size) := ⟨hb.lt, hX.lt⟩
  have FK := keyFitR hkv
  rw [show keyFit D.key = true from hk] at FK
  have hlow' : D.low := hlow
  have q0 := hb.cell 0
  have q1 := hb.cell 1
  have q2 : w.cell? ⟨m, 2, none⟩ = some (.bool false) := hb.cell 2
  have FS := stepR_ hJ (off d (.inr (.inl rfl))) hX hd hlow'
  rw [decide_eq_true hn] at FS
  have hi' : (stepM B D).outId = 0 := hi
  have HE : Hid (endG (stepM B D) = ⟨[], false, 101⟩) := by show endG _ = _; unfold endG; rw [if_pos hi']
  have HKY : Hid ((stepM B D).key = D.key) := stepM_key B D
  clear hb hkv hvv hX hm hd hne hsm hks hk hJ off hlow hlow' hn hi
  unfold pV at FS q0
  generalize stepM B D = DM at *
  unfold pV
  go_enter Tryz.func22, Tryz.ntmps22
  go_wp2_with (first | (go_at_call 11; refine FK.mono ?_; rintro e wk ⟨rfl, rfl⟩) | fail)
  refine FS.mono ?_
  rintro e w1 ⟨rfl, ⟨S1, hX1, hsub⟩, hk1⟩
  clear FS FK q0 q1 q2
  replace HB := Lib.hid (HB.out.keeps hk1 HNE.out)
  replace HKV := Lib.hid (HKV.out.keeps hk1 (fun x _ hx e => HD.out (e ▸ hx)))
  replace HVV := Lib.hid (HVV.out.keeps hk1 (fun x _ hx e => HD.out (e ▸ hx)))
  have KN : Hid (w1.heap.size ≤ w1.heap.size) := Nat.le_refl _
  replace HX := Lib.hid hX1
  have HSUB := Lib.hid hsub
  have K : Hid (Keeps (fun x => x = m ∨ x = d) w w1) := hk1.mono (fun x _ h => .inr h)
  have SZ : Hid (w.heap.size ≤ w1.heap.size) := hk1.size
  have HMX : Hid (¬ S1 m) := fun h => (hsub m h).elim HM.out (fun h => by have h1 := h.1; have h2 := HLT.out.1; omega)
  clear hX1 hsub hk1
  have q0 : w1.cell? ⟨m, 0, none⟩ = some (.pointer (some ⟨d, 0, none⟩)) := HB.out.cell 0
  have q2 : w1.cell? ⟨m, 2, none⟩ = some (.bool false) := HB.out.cell 2
  have g2 := HB.out.frozen 2
  go_wp2_with fail
  clear q0 q2 g2
  refine calls_at (fun w2 hw => ?_)
  have hk : Keeps (fun x => x = m) w1 w2 := by rw [hw]; exact Keeps.setCell _ (M := fun x => x = m) rfl _
  replace HB : Hid (Blk w2 m 125 #[.pointer (some ⟨d, 0, none⟩), .slice KA D.key.length kc, .bool true, .slice VA 0 vc, .bool false, .int .i64 0]) := by show Blk _ _ _ _; rw [hw]; exact (HB.out.set_ 2 _)
  clear hw
  replace HKV := Lib.hid (HKV.out.keeps hk (fun x _ hx e => HM.out (e ▸ hx)))
  replace HVV := Lib.hid (HVV.out.keeps hk (fun x _ hx e => HM.out (e ▸ hx)))
  replace HX := Lib.hid (HX.out.keeps hk (fun e => HNE.out e.symm) (fun x _ hx e => HMX.out (e ▸ hx)))
  replace KN := Lib.hid (Nat.le_trans KN.out hk.size)
  replace K := Lib.hid (K.out.trans hk (fun x _ h => .inl h))
  clear hk
  have FA := atR HX.out
  unfold pV iV at FA
  rw [hi'] at FA
  refine (FA).mono ?_
  rintro e w3 ⟨d0, d1, d2, d3, d4, d5, rfl, hO, hk⟩
  clear FA
  have hs2 := Nat.le_trans KN.out hk.size
  obtain ⟨D1, dj1, f1⟩ := Own.form hO.1.high
  obtain ⟨D3, dj3, f3⟩ := OTx.form hO.2.keys
  obtain ⟨D4, dj4, f4⟩ := OTx.form hO.2.vals
  obtain ⟨D5, dj5, f5⟩ := Own.form hO.2.kids
  have f0 := hO.1.lvl
  have f2 := hO.1.right
  unfold iV at f0 f2
  subst f0 f1 f2 f3 f4 f5
  have HN : Hid (ONd w3 (fun x => w1.heap.size ≤ x ∧ x < w3.heap.size) _ _ _ _ _ _ _) := hO.mono (fun x _ hx => ⟨Nat.le_trans KN.out hx.1, hx.2⟩)
  clear hO
  replace HB := Lib.hid (HB.out.keeps hk id)
  replace HKV := Lib.hid (HKV.out.keeps hk (fun _ _ _ => id))
  replace HVV := Lib.hid (HVV.out.keeps hk (fun _ _ _ => id))
  replace HX := Lib.hid (HX.out.keeps hk id (fun _ _ _ => id))
  replace KN := Lib.hid (Nat.le_trans KN.out hk.size)
  replace K := Lib.hid (K.out.trans hk (fun _ _ h => h.elim))
  clear hk
  have KM : Hid (w3.heap.size ≤ w3.heap.size) := Nat.le_refl _
  have qHB5 := HB.out.cell 5
  have gHB5 := HB.out.frozen 5
  have lHB := HB.out.lt
  clear hs2
  go_wp2
  clear qHB5 gHB5 lHB
  skip
  refine post_at (fun w8 hw => ?_)
  have hk : Keeps (fun x => x = m) w3 w8 := by rw [hw]; exact (Keeps.setCell _ (M := fun x => x = m) rfl _).alloc' _
  replace HB : Hid (Blk w8 m 125 #[.pointer (some ⟨d, 0, none⟩), .slice KA D.key.length kc, .bool true, .slice VA 0 vc, .bool false, .int .i64 101]) := by show Blk _ _ _ _; rw [hw]; exact (HB.out.set_ 5 _).alloc _
  clear hw
  replace HKV := Lib.hid (HKV.out.keeps hk (fun x _ hx e => HM.out (e ▸ hx)))
  replace HVV := Lib.hid (HVV.out.keeps hk (fun x _ hx e => HM.out (e ▸ hx)))
  replace HX := Lib.hid (HX.out.keeps hk (fun e => HNE.out e.symm) (fun x _ hx e => HMX.out (e ▸ hx)))
  replace KN := Lib.hid (Nat.le_trans KN.out hk.size)
  replace K := Lib.hid (K.out.trans hk (fun x _ h => .inl h))
  clear hk
  go_ret2
  have s0 := SZ.out
  have s1 := HLT.out
  have s2 := KN.out
  refine ⟨rfl, ?_, K.out⟩
  rw [HE.out]
  refine ⟨⟨⟨_, _, HB.out, ?_, ?_⟩, ?_, ?_⟩, ?_, fun h => h.elim HM.out (fun h => by have h1 := h.1; omega), fun h => h.elim HD.out (fun h => by have h1 := h.1; omega), HNE.out⟩
  · show Byts _ _ _ DM.key
    rw [HKY.out]
    exact HKV.out.mono (fun _ _ h => .inl h)
  · exact HVV.out.mono (fun _ _ h => .inl h)
  · exact HSM.out
  · show Sm 0 1 DM.key.length
    rw [HKY.out]; exact HKS.out
  · exact HX.out.mono (fun x _ hx => (HSUB.out x hx).imp id (fun h => ⟨h.1, Nat.lt_of_lt_of_le h.2 s2⟩))
set_option maxRecDepth 100000 in
set_option maxHeartbeats 3200000 in
theorem stepGR_end1 (hJ : J w G b p q A B) (off : ∀ x, x = m ∨ x = d ∨ S x → ¬ G x) (h : GR w m d q S g) (hlow : g.D.low) (hr : g.res = none) (hk : keyFit g.D.key = true) (hn : (stepM B g.D).nx = .done) (hi : (stepM B g.D).outId ≠ 0) (hhas : has (stepM B g.D).outNd.keys g.D.key = false) : Calls Tryz.prog 22 #[pV m] w fun e w' => e = .returned (.tuple #[.bool true, .bool true]) ∧ GR w' m d q (fun x => S x ∨ Fresh w w' x) ⟨stepM B g.D, some (endG (stepM B g.D))⟩ ∧ Keeps (fun x => x = m ∨ x = d) w w' := by
  obtain ⟨⟨⟨kv, vv, hb, hkv, hvv⟩, hsm, hks⟩, hX, hm, hd, hne⟩ := h
  obtain ⟨D, res⟩ := g
  simp only at hr
  subst hr
  replace hks : Sm 0 1 D.key.length := hks
  replace hks : Sm 0 1 D.key.length := hks
  obtain ⟨KA, kc, ek, _, _⟩ := hkv.form
  obtain ⟨VA, vc, ev, _, _⟩ := hvv.form
  subst ek ev
  have HB := Lib.hid hb
  have HKV := Lib.hid hkv
  have HVV := Lib.hid hvv
  have HX := Lib.hid hX
  have HM : Hid (¬ S m) := hm
  have HD : Hid (¬ S d) := hd
  have HNE : Hid (m ≠ d) := hne
  have HSM : Hid (Sm 0 1 ([] : List UInt8).length) := hsm
  have HKS : Hid (Sm 0 1 D.key.length) := hks
  have HLT : Hid (m < w.heap.size ∧ d < w.heap.size) := ⟨hb.lt, hX.lt⟩
  have FK := keyFitR hkv
  rw [show keyFit D.key = true from hk] at FK
  have hlow' : D.low := hlow
  have q0 := hb.cell 0
  have q1 := hb.cell 1
  have q2 : w.cell? ⟨m, 2, none⟩ = some (.bool false) := hb.cell 2
  have FS := stepR_ hJ (off d (.inr (.inl rfl))) hX hd hlow'
  rw [decide_eq_true hn] at FS
  have hi' : ((stepM B D).outId == 0) = false := by simpa using hi
  have HHAS : Hid (has (stepM B D).outNd.keys D.key = false) := hhas
  have HE : Hid (endG (stepM B D) = ⟨[], false, 0⟩) := by
    have hh : has (stepM B D).outNd.keys D.key = false := hhas
    show endG _ = _; unfold endG valOf; rw [if_neg hi, stepM_key, hh]; rfl
  have HKY : Hid ((stepM B D).key = D.key) := stepM_key B D
  clear hb hkv hvv hX hm hd hne hsm hks hk hJ off hlow hlow' hn hi hhas
  unfold pV at FS q0
  generalize stepM B D = DM at *
  unfold pV
  go_enter Tryz.func22, Tryz.ntmps22
  go_wp2_with (first | (go_at_call 11; refine FK.mono ?_; rintro e wk ⟨rfl, rfl⟩) | fail)
  refine FS.mono ?_
  rintro e w1 ⟨rfl, ⟨S1, hX1, hsub⟩, hk1⟩
  clear FS FK q0 q1 q2
  replace HB := Lib.hid (HB.out.keeps hk1 HNE.out)
  replace HKV := Lib.hid (HKV.out.keeps hk1 (fun x _ hx e => HD.out (e ▸ hx)))
  replace HVV := Lib.hid (HVV.out.keeps hk1 (fun x _ hx e => HD.out (e ▸ hx)))
  have KN : Hid (w1.heap.size ≤ w1.heap.size) := Nat.le_refl _
  replace HX := Lib.hid hX1
  have HSUB := Lib.hid hsub
  have K : Hid (Keeps (fun x => x = m ∨ x = d) w w1) := hk1.mono (fun x _ h => .inr h)
  have SZ : Hid (w.heap.size ≤ w1.heap.size) := hk1.size
  have HMX : Hid (¬ S1 m) := fun h => (hsub m h).elim HM.out (fun h => by have h1 := h.1; have h2 := HLT.out.1; omega)
  clear hX1 hsub hk1
  have q0 : w1.cell? ⟨m, 0, none⟩ = some (.pointer (some ⟨d, 0, none⟩)) := HB.out.cell 0
  have q2 : w1.cell? ⟨m, 2, none⟩ = some (.bool false) := HB.out.cell 2
  have g2 := HB.out.frozen 2
  go_wp2_with fail
  clear q0 q2 g2
  refine calls_at (fun w2 hw => ?_)
  have hk : Keeps (fun x => x = m) w1 w2 := by rw [hw]; exact Keeps.setCell _ (M := fun x => x = m) rfl _
  replace HB : Hid (Blk w2 m 125 #[.pointer (some ⟨d, 0, none⟩), .slice KA D.key.length kc, .bool true, .slice VA 0 vc, .bool false, .int .i64 0]) := by show Blk _ _ _ _; rw [hw]; exact (HB.out.set_ 2 _)
  clear hw
  replace HKV := Lib.hid (HKV.out.keeps hk (fun x _ hx e => HM.out (e ▸ hx)))
  replace HVV := Lib.hid (HVV.out.keeps hk (fun x _ hx e => HM.out (e ▸ hx)))
  replace HX := Lib.hid (HX.out.keeps hk (fun e => HNE.out e.symm) (fun x _ hx e => HMX.out (e ▸ hx)))
  replace KN := Lib.hid (Nat.le_trans KN.out hk.size)
  replace K := Lib.hid (K.out.trans hk (fun x _ h => .inl h))
  clear hk
  have FA := atR HX.out
  unfold pV iV at FA
  refine (FA).mono ?_
  rintro e w3 ⟨d0, d1, d2, d3, d4, d5, rfl, hO, hk⟩
  clear FA
  have hs2 := Nat.le_trans KN.out hk.size
  obtain ⟨D1, dj1, f1⟩ := Own.form hO.1.high
  obtain ⟨D3, dj3, f3⟩ := OTx.form hO.2.keys
  obtain ⟨D4, dj4, f4⟩ := OTx.form hO.2.vals
  obtain ⟨D5, dj5, f5⟩ := Own.form hO.2.kids
  have f0 := hO.1.lvl
  have f2 := hO.1.right
  unfold iV at f0 f2
  subst f0 f1 f2 f3 f4 f5
  have HN : Hid (ONd w3 (fun x => w1.heap.size ≤ x ∧ x < w3.heap.size) _ _ _ _ _ _ _) := hO.mono (fun x _ hx => ⟨Nat.le_trans KN.out hx.1, hx.2⟩)
  clear hO
  replace HB := Lib.hid (HB.out.keeps hk id)
  replace HKV := Lib.hid (HKV.out.keeps hk (fun _ _ _ => id))
  replace HVV := Lib.hid (HVV.out.keeps hk (fun _ _ _ => id))
  replace HX := Lib.hid (HX.out.keeps hk id (fun _ _ _ => id))
  replace KN := Lib.hid (Nat.le_trans KN.out hk.size)
  replace K := Lib.hid (K.out.trans hk (fun _ _ h => h.elim))
  clear hk
  have KM : Hid (w3.heap.size ≤ w3.heap.size) := Nat.le_refl _
  go_wp2_with fail
  refine code_at (fun w4 hw => ?_)
  have hk : Keeps Nob w3 w4 := by rw [hw]; exact Keeps.alloc _ _ _
  have HN6 : Hid (Blk w4 w3.heap.size 35 #[.int .i64 DM.outNd.lvl, .slice D1 DM.outNd.high.length dj1, .int .i64 DM.outNd.right, .slice D3 DM.outNd.keys.length dj3, .slice D4 DM.outNd.vals.length dj4, .slice D5 DM.outNd.kids.length dj5]) := by show Blk _ _ _ _; rw [hw]; exact Blk.new _ _ _
  clear hw
  replace HB := Lib.hid (HB.out.keeps hk id)
  replace HKV := Lib.hid (HKV.out.keeps hk (fun _ _ _ => id))
  replace HVV := Lib.hid (HVV.out.keeps hk (fun _ _ _ => id))
  replace HX := Lib.hid (HX.out.keeps hk id (fun _ _ _ => id))
  replace HN := Lib.hid (HN.out.keeps hk (fun _ _ _ => id))
  replace KN := Lib.hid (Nat.le_trans KN.out hk.size)
  replace KM := Lib.hid (Nat.le_trans KM.out hk.size)
  replace K := Lib.hid (K.out.trans hk (fun _ _ h => h.elim))
  clear hk
  obtain ⟨N, hN⟩ : ∃ N, w3.heap.size = N := ⟨_, rfl⟩
  rw [hN] at HN6 ⊢
  have HNW : Hid (w1.heap.size ≤ N) := by show _ ≤ _; rw [← hN]; exact hs2
  clear hN hs2
  refine wp_region_canon [0, 1, 2, 3, 4, 5, 6, 7, 8, 9, 10] 5 (fun W => W.cell? ⟨N, 0, none⟩ = some (.int .i64 DM.outNd.lvl) ∧ W.cell? ⟨N, 1, none⟩ = some (.slice D1 DM.outNd.high.length dj1) ∧ W.cell? ⟨N, 2, none⟩ = some (.int .i64 DM.outNd.right) ∧ W.cell? ⟨N, 3, none⟩ = some (.slice D3 DM.outNd.keys.length dj3) ∧ W.cell? ⟨N, 4, none⟩ = some (.slice D4 DM.outNd.vals.length dj4) ∧ W.cell? ⟨N, 5, none⟩ = some (.slice D5 DM.outNd.kids.length dj5) ∧ W.cell? ⟨m, 1, none⟩ = some (.slice KA D.key.length kc)) (by kernel_rfl) (by kernel_rfl) rfl (by kernel_rfl) (fun _ _ d _ _ h => by cases d <;> exact h) ?_ ?_
  · exact ⟨HN6.out.cell 0, HN6.out.cell 1, HN6.out.cell 2, HN6.out.cell 3, HN6.out.cell 4, HN6.out.cell 5, HB.out.cell 1⟩
  refine canon_at (fun w5 hw => ?_)
  have hk : Keeps Nob w4 w5 := by rw [hw]; exact Keeps.drew _ _
  clear hw
  replace HB := Lib.hid (HB.out.keeps hk id)
  replace HKV := Lib.hid (HKV.out.keeps hk (fun _ _ _ => id))
  replace HVV := Lib.hid (HVV.out.keeps hk (fun _ _ _ => id))
  replace HX := Lib.hid (HX.out.keeps hk id (fun _ _ _ => id))
  replace HN := Lib.hid (HN.out.keeps hk (fun _ _ _ => id))
  replace HN6 := Lib.hid (HN6.out.keeps hk id)
  replace KN := Lib.hid (Nat.le_trans KN.out hk.size)
  replace KM := Lib.hid (Nat.le_trans KM.out hk.size)
  replace K := Lib.hid (K.out.trans hk (fun _ _ h => h.elim))
  clear hk
  iterate 5
    refine wpCanon_read (v := ?_) rfl (by kernel_rfl) (by rfl) ?_ ?_
    rotate_left
    · intro W hW
      try (obtain ⟨z1, z2, z3, z4, z5, z6, z7⟩ : _ ∧ _ ∧ _ ∧ _ ∧ _ ∧ _ ∧ _ := hW)
      go_simp
      try rfl
    simp only [Act.put, List.setIfInBounds_toArray, List.set_cons_zero, List.set_cons_succ]
  have FF := fun wx S3 S4 (h1 : Txts wx S3 (.slice D3 DM.outNd.keys.length dj3) DM.outNd.keys) (h2 : Byts wx S4 (.slice KA D.key.length kc) D.key) => findR (c0 := .int .i64 DM.outNd.lvl) (c1 := .slice D1 DM.outNd.high.length dj1) (c2 := .int .i64 DM.outNd.right) (c4 := .slice D4 DM.outNd.vals.length dj4) (c5 := .slice D5 DM.outNd.kids.length dj5) h1 h2
  rw [HHAS.out] at FF
  refine wpCanon_act rfl (by kernel_rfl) ?_
  go_wp2_with (go_at_call 55; refine (FF _ _ _ HN.out.2.keys.r HKV.out).mono ?_; rintro e w6 ⟨rfl, hk⟩)
  clear FF
  replace HB := Lib.hid (HB.out.keeps hk id)
  replace HKV := Lib.hid (HKV.out.keeps hk (fun _ _ _ => id))
  replace HVV := Lib.hid (HVV.out.keeps hk (fun _ _ _ => id))
  replace HX := Lib.hid (HX.out.keeps hk id (fun _ _ _ => id))
  replace HN := Lib.hid (HN.out.keeps hk (fun _ _ _ => id))
  replace HN6 := Lib.hid (HN6.out.keeps hk id)
  replace KN := Lib.hid (Nat.le_trans KN.out hk.size)
  replace KM := Lib.hid (Nat.le_trans KM.out hk.size)
  replace K := Lib.hid (K.out.trans hk (fun _ _ h => h.elim))
  clear hk
  refine ⟨.inl (by kernel_rfl), ?_⟩
  iterate 5
    refine wpCanon_read (v := ?_) rfl (by kernel_rfl) (by rfl) ?_ ?_
    rotate_left
    · intro W hW
      try (obtain ⟨z1, z2, z3, z4, z5, z6, z7⟩ : _ ∧ _ ∧ _ ∧ _ ∧ _ ∧ _ ∧ _ := hW)
      go_simp
      try rfl
    simp only [Act.put, List.setIfInBounds_toArray, List.set_cons_zero, List.set_cons_succ]
  refine wpCanon_nil ?_
  have hNm : ¬ N = m := fun e => by have h1 := HNW.out; have h2 := HLT.out.1; have h3 := SZ.out; omega
  have hmN : ¬ m = N := fun e => hNm e.symm
  have qHB4 := HB.out.cell 4
  have gHB4 := HB.out.frozen 4
  go_wp2
  clear qHB4 gHB4
  clear hNm hmN
  refine post_at (fun w7 hw => ?_)
  have hk : Keeps (fun x => x = m) w6 w7 := by rw [hw]; exact Keeps.setCell _ (M := fun x => x = m) rfl _
  replace HB : Hid (Blk w7 m 125 #[.pointer (some ⟨d, 0, none⟩), .slice KA D.key.length kc, .bool true, .slice VA 0 vc, .bool false, .int .i64 0]) := by show Blk _ _ _ _; rw [hw]; exact (HB.out.set_ 4 _)
  clear hw
  replace HKV := Lib.hid (HKV.out.keeps hk (fun x _ hx e => HM.out (e ▸ hx)))
  replace HVV := Lib.hid (HVV.out.keeps hk (fun x _ hx e => HM.out (e ▸ hx)))
  replace HX := Lib.hid (HX.out.keeps hk (fun e => HNE.out e.symm) (fun x _ hx e => HMX.out (e ▸ hx)))
  replace HN := Lib.hid (HN.out.keeps hk (fun x _ hx e => by have h1 := hx.1; have h2 := HLT.out.1; have h3 := SZ.out; have h4 : x = m := e; omega))
  replace HN6 := Lib.hid (HN6.out.keeps hk (fun e => by have h1 := HNW.out; have h2 := HLT.out.1; have h3 := SZ.out; have h4 : _ = m := e; omega))
  replace KN := Lib.hid (Nat.le_trans KN.out hk.size)
  replace KM := Lib.hid (Nat.le_trans KM.out hk.size)
  replace K := Lib.hid (K.out.trans hk (fun x _ h => .inl h))
  clear hk
  go_ret2
  have s0 := SZ.out
  have s1 := HLT.out
  have s2 := KN.out
  refine ⟨rfl, ?_, K.out⟩
  rw [HE.out]
  refine ⟨⟨⟨_, _, HB.out, ?_, ?_⟩, ?_, ?_⟩, ?_, fun h => h.elim HM.out (fun h => by have h1 := h.1; omega), fun h => h.elim HD.out (fun h => by have h1 := h.1; omega), HNE.out⟩
  · show Byts _ _ _ DM.key
    rw [HKY.out]
    exact HKV.out.mono (fun _ _ h => .inl h)
  · exact HVV.out.mono (fun _ _ h => .inl h)
  · exact HSM.out
  · show Sm 0 1 DM.key.length
    rw [HKY.out]; exact HKS.out
  · exact HX.out.mono (fun x _ hx => (HSUB.out x hx).imp id (fun h => ⟨h.1, Nat.lt_of_lt_of_le h.2 s2⟩))
set_option maxRecDepth 100000 in
set_option maxHeartbeats 3200000 in
theorem stepGR_end2 (hJ : J w G b p q A B) (off : ∀ x, x = m ∨ x = d ∨ S x → ¬ G x) (h : GR w m d q S g) (hlow : g.D.low) (hr : g.res = none) (hk : keyFit g.D.key = true) (hn : (stepM B g.D).nx = .done) (hi : (stepM B g.D).outId ≠ 0) (hhas : has (stepM B g.D).outNd.keys g.D.key = true) (hbl : ¬ below (stepM B g.D).outNd.keys g.D.key < (stepM B g.D).outNd.vals.length) : Calls Tryz.prog 22 #[pV m] w fun e w' => e = .returned (.tuple #[.bool true, .bool true]) ∧ GR w' m d q (fun x => S x ∨ Fresh w w' x) ⟨stepM B g.D, some (endG (stepM B g.D))⟩ ∧ Keeps (fun x => x = m ∨ x = d) w w' := by
  obtain ⟨⟨⟨kv, vv, hb, hkv, hvv⟩, hsm, hks⟩, hX, hm, hd, hne⟩ := h
  obtain ⟨D, res⟩ := g
  simp only at hr
  subst hr
  replace hks : Sm 0 1 D.key.length := hks
  replace hks : Sm 0 1 D.key.length := hks
  obtain ⟨KA, kc, ek, _, _⟩ := hkv.form
  obtain ⟨VA, vc, ev, _, _⟩ := hvv.form
  subst ek ev
  have HB := Lib.hid hb
  have HKV := Lib.hid hkv
  have HVV := Lib.hid hvv
  have HX := Lib.hid hX
  have HM : Hid (¬ S m) := hm
  have HD : Hid (¬ S d) := hd
  have HNE : Hid (m ≠ d) := hne
  have HSM : Hid (Sm 0 1 ([] : List UInt8).length) := hsm
  have HKS : Hid (Sm 0 1 D.key.length) := hks
  have HLT : Hid (m < w.heap.size ∧ d < w.heap.size) := ⟨hb.lt, hX.lt⟩
  have FK := keyFitR hkv
  rw [show keyFit D.key = true from hk] at FK
  have hlow' : D.low := hlow
  have q0 := hb.cell 0
  have q1 := hb.cell 1
  have q2 : w.cell? ⟨m, 2, none⟩ = some (.bool false) := hb.cell 2
  have FS := stepR_ hJ (off d (.inr (.inl rfl))) hX hd hlow'
  rw [decide_eq_true hn] at FS
  have hi' : ((stepM B D).outId == 0) = false := by simpa using hi
  have HHAS : Hid (has (stepM B D).outNd.keys D.key = true) := hhas
  have HBL : Hid (¬ ((below (stepM B D).outNd.keys D.key : Nat) : Int) < ((stepM B D).outNd.vals.length : Int)) := by show ¬ _; have h : ¬ below (stepM B D).outNd.keys D.key < (stepM B D).outNd.vals.length := hbl; omega
  have HE : Hid (endG (stepM B D) = ⟨[], true, 0⟩) := by
    have hh : has (stepM B D).outNd.keys D.key = true := hhas
    show endG _ = _; unfold endG valOf; rw [if_neg hi, stepM_key, hh, if_neg (fun h => hbl h.2)]
  have HKY : Hid ((stepM B D).key = D.key) := stepM_key B D
  clear hb hkv hvv hX hm hd hne hsm hks hk hJ off hlow hlow' hn hi hhas hbl
  unfold pV at FS q0
  generalize stepM B D = DM at *
  unfold pV
  go_enter Tryz.func22, Tryz.ntmps22
  go_wp2_with (first | (go_at_call 11; refine FK.mono ?_; rintro e wk ⟨rfl, rfl⟩) | fail)
  refine FS.mono ?_
  rintro e w1 ⟨rfl, ⟨S1, hX1, hsub⟩, hk1⟩
  clear FS FK q0 q1 q2
  replace HB := Lib.hid (HB.out.keeps hk1 HNE.out)
  replace HKV := Lib.hid (HKV.out.keeps hk1 (fun x _ hx e => HD.out (e ▸ hx)))
  replace HVV := Lib.hid (HVV.out.keeps hk1 (fun x _ hx e => HD.out (e ▸ hx)))
  have KN : Hid (w1.heap.size ≤ w1.heap.size) := Nat.le_refl _
  replace HX := Lib.hid hX1
  have HSUB := Lib.hid hsub
  have K : Hid (Keeps (fun x => x = m ∨ x = d) w w1) := hk1.mono (fun x _ h => .inr h)
  have SZ : Hid (w.heap.size ≤ w1.heap.size) := hk1.size
  have HMX : Hid (¬ S1 m) := fun h => (hsub m h).elim HM.out (fun h => by have h1 := h.1; have h2 := HLT.out.1; omega)
  clear hX1 hsub hk1
  have q0 : w1.cell? ⟨m, 0, none⟩ = some (.pointer (some ⟨d, 0, none⟩)) := HB.out.cell 0
  have q2 : w1.cell? ⟨m, 2, none⟩ = some (.bool false) := HB.out.cell 2
  have g2 := HB.out.frozen 2
  go_wp2_with fail
  clear q0 q2 g2
  refine calls_at (fun w2 hw => ?_)
  have hk : Keeps (fun x => x = m) w1 w2 := by rw [hw]; exact Keeps.setCell _ (M := fun x => x = m) rfl _
  replace HB : Hid (Blk w2 m 125 #[.pointer (some ⟨d, 0, none⟩), .slice KA D.key.length kc, .bool true, .slice VA 0 vc, .bool false, .int .i64 0]) := by show Blk _ _ _ _; rw [hw]; exact (HB.out.set_ 2 _)
  clear hw
  replace HKV := Lib.hid (HKV.out.keeps hk (fun x _ hx e => HM.out (e ▸ hx)))
  replace HVV := Lib.hid (HVV.out.keeps hk (fun x _ hx e => HM.out (e ▸ hx)))
  replace HX := Lib.hid (HX.out.keeps hk (fun e => HNE.out e.symm) (fun x _ hx e => HMX.out (e ▸ hx)))
  replace KN := Lib.hid (Nat.le_trans KN.out hk.size)
  replace K := Lib.hid (K.out.trans hk (fun x _ h => .inl h))
  clear hk
  have FA := atR HX.out
  unfold pV iV at FA
  refine (FA).mono ?_
  rintro e w3 ⟨d0, d1, d2, d3, d4, d5, rfl, hO, hk⟩
  clear FA
  have hs2 := Nat.le_trans KN.out hk.size
  obtain ⟨D1, dj1, f1⟩ := Own.form hO.1.high
  obtain ⟨D3, dj3, f3⟩ := OTx.form hO.2.keys
  obtain ⟨D4, dj4, f4⟩ := OTx.form hO.2.vals
  obtain ⟨D5, dj5, f5⟩ := Own.form hO.2.kids
  have f0 := hO.1.lvl
  have f2 := hO.1.right
  unfold iV at f0 f2
  subst f0 f1 f2 f3 f4 f5
  have HN : Hid (ONd w3 (fun x => w1.heap.size ≤ x ∧ x < w3.heap.size) _ _ _ _ _ _ _) := hO.mono (fun x _ hx => ⟨Nat.le_trans KN.out hx.1, hx.2⟩)
  clear hO
  replace HB := Lib.hid (HB.out.keeps hk id)
  replace HKV := Lib.hid (HKV.out.keeps hk (fun _ _ _ => id))
  replace HVV := Lib.hid (HVV.out.keeps hk (fun _ _ _ => id))
  replace HX := Lib.hid (HX.out.keeps hk id (fun _ _ _ => id))
  replace KN := Lib.hid (Nat.le_trans KN.out hk.size)
  replace K := Lib.hid (K.out.trans hk (fun _ _ h => h.elim))
  clear hk
  have KM : Hid (w3.heap.size ≤ w3.heap.size) := Nat.le_refl _
  go_wp2_with fail
  refine code_at (fun w4 hw => ?_)
  have hk : Keeps Nob w3 w4 := by rw [hw]; exact Keeps.alloc _ _ _
  have HN6 : Hid (Blk w4 w3.heap.size 35 #[.int .i64 DM.outNd.lvl, .slice D1 DM.outNd.high.length dj1, .int .i64 DM.outNd.right, .slice D3 DM.outNd.keys.length dj3, .slice D4 DM.outNd.vals.length dj4, .slice D5 DM.outNd.kids.length dj5]) := by show Blk _ _ _ _; rw [hw]; exact Blk.new _ _ _
  clear hw
  replace HB := Lib.hid (HB.out.keeps hk id)
  replace HKV := Lib.hid (HKV.out.keeps hk (fun _ _ _ => id))
  replace HVV := Lib.hid (HVV.out.keeps hk (fun _ _ _ => id))
  replace HX := Lib.hid (HX.out.keeps hk id (fun _ _ _ => id))
  replace HN := Lib.hid (HN.out.keeps hk (fun _ _ _ => id))
  replace KN := Lib.hid (Nat.le_trans KN.out hk.size)
  replace KM := Lib.hid (Nat.le_trans KM.out hk.size)
  replace K := Lib.hid (K.out.trans hk (fun _ _ h => h.elim))
  clear hk
  obtain ⟨N, hN⟩ : ∃ N, w3.heap.size = N := ⟨_, rfl⟩
  rw [hN] at HN6 ⊢
  have HNW : Hid (w1.heap.size ≤ N) := by show _ ≤ _; rw [← hN]; exact hs2
  clear hN hs2
  refine wp_region_canon [0, 1, 2, 3, 4, 5, 6, 7, 8, 9, 10] 5 (fun W => W.cell? ⟨N, 0, none⟩ = some (.int .i64 DM.outNd.lvl) ∧ W.cell? ⟨N, 1, none⟩ = some (.slice D1 DM.outNd.high.length dj1) ∧ W.cell? ⟨N, 2, none⟩ = some (.int .i64 DM.outNd.right) ∧ W.cell? ⟨N, 3, none⟩ = some (.slice D3 DM.outNd.keys.length dj3) ∧ W.cell? ⟨N, 4, none⟩ = some (.slice D4 DM.outNd.vals.length dj4) ∧ W.cell? ⟨N, 5, none⟩ = some (.slice D5 DM.outNd.kids.length dj5) ∧ W.cell? ⟨m, 1, none⟩ = some (.slice KA D.key.length kc)) (by kernel_rfl) (by kernel_rfl) rfl (by kernel_rfl) (fun _ _ d _ _ h => by cases d <;> exact h) ?_ ?_
  · exact ⟨HN6.out.cell 0, HN6.out.cell 1, HN6.out.cell 2, HN6.out.cell 3, HN6.out.cell 4, HN6.out.cell 5, HB.out.cell 1⟩
  refine canon_at (fun w5 hw => ?_)
  have hk : Keeps Nob w4 w5 := by rw [hw]; exact Keeps.drew _ _
  clear hw
  replace HB := Lib.hid (HB.out.keeps hk id)
  replace HKV := Lib.hid (HKV.out.keeps hk (fun _ _ _ => id))
  replace HVV := Lib.hid (HVV.out.keeps hk (fun _ _ _ => id))
  replace HX := Lib.hid (HX.out.keeps hk id (fun _ _ _ => id))
  replace HN := Lib.hid (HN.out.keeps hk (fun _ _ _ => id))
  replace HN6 := Lib.hid (HN6.out.keeps hk id)
  replace KN := Lib.hid (Nat.le_trans KN.out hk.size)
  replace KM := Lib.hid (Nat.le_trans KM.out hk.size)
  replace K := Lib.hid (K.out.trans hk (fun _ _ h => h.elim))
  clear hk
  iterate 5
    refine wpCanon_read (v := ?_) rfl (by kernel_rfl) (by rfl) ?_ ?_
    rotate_left
    · intro W hW
      try (obtain ⟨z1, z2, z3, z4, z5, z6, z7⟩ : _ ∧ _ ∧ _ ∧ _ ∧ _ ∧ _ ∧ _ := hW)
      go_simp
      try rfl
    simp only [Act.put, List.setIfInBounds_toArray, List.set_cons_zero, List.set_cons_succ]
  have FF := fun wx S3 S4 (h1 : Txts wx S3 (.slice D3 DM.outNd.keys.length dj3) DM.outNd.keys) (h2 : Byts wx S4 (.slice KA D.key.length kc) D.key) => findR (c0 := .int .i64 DM.outNd.lvl) (c1 := .slice D1 DM.outNd.high.length dj1) (c2 := .int .i64 DM.outNd.right) (c4 := .slice D4 DM.outNd.vals.length dj4) (c5 := .slice D5 DM.outNd.kids.length dj5) h1 h2
  rw [HHAS.out] at FF
  refine wpCanon_act rfl (by kernel_rfl) ?_
  go_wp2_with (go_at_call 55; refine (FF _ _ _ HN.out.2.keys.r HKV.out).mono ?_; rintro e w6 ⟨rfl, hk⟩)
  clear FF
  replace HB := Lib.hid (HB.out.keeps hk id)
  replace HKV := Lib.hid (HKV.out.keeps hk (fun _ _ _ => id))
  replace HVV := Lib.hid (HVV.out.keeps hk (fun _ _ _ => id))
  replace HX := Lib.hid (HX.out.keeps hk id (fun _ _ _ => id))
  replace HN := Lib.hid (HN.out.keeps hk (fun _ _ _ => id))
  replace HN6 := Lib.hid (HN6.out.keeps hk id)
  replace KN := Lib.hid (Nat.le_trans KN.out hk.size)
  replace KM := Lib.hid (Nat.le_trans KM.out hk.size)
  replace K := Lib.hid (K.out.trans hk (fun _ _ h => h.elim))
  clear hk
  refine ⟨.inl (by kernel_rfl), ?_⟩
  iterate 5
    refine wpCanon_read (v := ?_) rfl (by kernel_rfl) (by rfl) ?_ ?_
    rotate_left
    · intro W hW
      try (obtain ⟨z1, z2, z3, z4, z5, z6, z7⟩ : _ ∧ _ ∧ _ ∧ _ ∧ _ ∧ _ ∧ _ := hW)
      go_simp
      try rfl
    simp only [Act.put, List.setIfInBounds_toArray, List.set_cons_zero, List.set_cons_succ]
  refine wpCanon_nil ?_
  have hNm : ¬ N = m := fun e => by have h1 := HNW.out; have h2 := HLT.out.1; have h3 := SZ.out; omega
  have hmN : ¬ m = N := fun e => hNm e.symm
  have qHB4 := HB.out.cell 4
  have gHB4 := HB.out.frozen 4
  have qHN64 := HN6.out.cell 4
  have hbl := HBL.out
  go_wp2
  clear qHB4 gHB4 qHN64
  clear hNm hmN hbl
  refine post_at (fun w7 hw => ?_)
  have hk : Keeps (fun x => x = m) w6 w7 := by rw [hw]; exact Keeps.setCell _ (M := fun x => x = m) rfl _
  replace HB : Hid (Blk w7 m 125 #[.pointer (some ⟨d, 0, none⟩), .slice KA D.key.length kc, .bool true, .slice VA 0 vc, .bool true, .int .i64 0]) := by show Blk _ _ _ _; rw [hw]; exact (HB.out.set_ 4 _)
  clear hw
  replace HKV := Lib.hid (HKV.out.keeps hk (fun x _ hx e => HM.out (e ▸ hx)))
  replace HVV := Lib.hid (HVV.out.keeps hk (fun x _ hx e => HM.out (e ▸ hx)))
  replace HX := Lib.hid (HX.out.keeps hk (fun e => HNE.out e.symm) (fun x _ hx e => HMX.out (e ▸ hx)))
  replace HN := Lib.hid (HN.out.keeps hk (fun x _ hx e => by have h1 := hx.1; have h2 := HLT.out.1; have h3 := SZ.out; have h4 : x = m := e; omega))
  replace HN6 := Lib.hid (HN6.out.keeps hk (fun e => by have h1 := HNW.out; have h2 := HLT.out.1; have h3 := SZ.out; have h4 : _ = m := e; omega))
  replace KN := Lib.hid (Nat.le_trans KN.out hk.size)
  replace KM := Lib.hid (Nat.le_trans KM.out hk.size)
  replace K := Lib.hid (K.out.trans hk (fun x _ h => .inl h))
  clear hk
  go_ret2
  have s0 := SZ.out
  have s1 := HLT.out
  have s2 := KN.out
  refine ⟨rfl, ?_, K.out⟩
  rw [HE.out]
  refine ⟨⟨⟨_, _, HB.out, ?_, ?_⟩, ?_, ?_⟩, ?_, fun h => h.elim HM.out (fun h => by have h1 := h.1; omega), fun h => h.elim HD.out (fun h => by have h1 := h.1; omega), HNE.out⟩
  · show Byts _ _ _ DM.key
    rw [HKY.out]
    exact HKV.out.mono (fun _ _ h => .inl h)
  · exact HVV.out.mono (fun _ _ h => .inl h)
  · exact HSM.out
  · show Sm 0 1 DM.key.length
    rw [HKY.out]; exact HKS.out
  · exact HX.out.mono (fun x _ hx => (HSUB.out x hx).imp id (fun h => ⟨h.1, Nat.lt_of_lt_of_le h.2 s2⟩))
set_option maxRecDepth 100000 in
set_option maxHeartbeats 3200000 in
theorem stepGR_end3 (hJ : J w G b p q A B) (off : ∀ x, x = m ∨ x = d ∨ S x → ¬ G x) (h : GR w m d q S g) (hlow : g.D.low) (hr : g.res = none) (hk : keyFit g.D.key = true) (hn : (stepM B g.D).nx = .done) (hi : (stepM B g.D).outId ≠ 0) (hhas : has (stepM B g.D).outNd.keys g.D.key = true) (hbl : below (stepM B g.D).outNd.keys g.D.key < (stepM B g.D).outNd.vals.length) (hvs : ∀ v ∈ (stepM B g.D).outNd.vals, Sm 0 1 v.length) : Calls Tryz.prog 22 #[pV m] w fun e w' => e = .returned (.tuple #[.bool true, .bool true]) ∧ GR w' m d q (fun x => S x ∨ Fresh w w' x) ⟨stepM B g.D, some (endG (stepM B g.D))⟩ ∧ Keeps (fun x => x = m ∨ x = d) w w' := by
  obtain ⟨⟨⟨kv, vv, hb, hkv, hvv⟩, hsm, hks⟩, hX, hm, hd, hne⟩ := h
  obtain ⟨D, res⟩ := g
  simp only at hr
  subst hr
  replace hks : Sm 0 1 D.key.length := hks
  replace hks : Sm 0 1 D.key.length := hks
  obtain ⟨KA, kc, ek, _, _⟩ := hkv.form
  obtain ⟨VA, vc, ev, _, _⟩ := hvv.form
  subst ek ev
  have HB := Lib.hid hb
  have HKV := Lib.hid hkv
  have HVV := Lib.hid hvv
  have HX := Lib.hid hX
  have HM : Hid (¬ S m) := hm
  have HD : Hid (¬ S d) := hd
  have HNE : Hid (m ≠ d) := hne
  have HSM : Hid (Sm 0 1 ([] : List UInt8).length) := hsm
  have HKS : Hid (Sm 0 1 D.key.length) := hks
  have HLT : Hid (m < w.heap.size ∧ d < w.heap.size) := ⟨hb.lt, hX.lt⟩
  have FK := keyFitR hkv
  rw [show keyFit D.key = true from hk] at FK
  have hlow' : D.low := hlow
  have q0 := hb.cell 0
  have q1 := hb.cell 1
  have q2 : w.cell? ⟨m, 2, none⟩ = some (.bool false) := hb.cell 2
  have FS := stepR_ hJ (off d (.inr (.inl rfl))) hX hd hlow'
  rw [decide_eq_true hn] at FS
  have hi' : ((stepM B D).outId == 0) = false := by simpa using hi
  have HHAS : Hid (has (stepM B D).outNd.keys D.key = true) := hhas
  have HBL : Hid (below (stepM B D).outNd.keys D.key < (stepM B D).outNd.vals.length) := hbl
  have HVAL : Hid ((stepM B D).outNd.vals[below (stepM B D).outNd.keys D.key]? = some ((stepM B D).outNd.vals.getD (below (stepM B D).outNd.keys D.key) [])) := by
    have hbl' : below (stepM B D).outNd.keys D.key < (stepM B D).outNd.vals.length := hbl
    show _ = _
    rw [List.getD_eq_getElem?_getD, List.getElem?_eq_getElem hbl']; rfl
  have HVS : Hid (Sm 0 1 ((stepM B D).outNd.vals.getD (below (stepM B D).outNd.keys D.key) []).length) := hvs _ (List.mem_of_getElem? HVAL.out)
  have HE : Hid (endG (stepM B D) = ⟨(stepM B D).outNd.vals.getD (below (stepM B D).outNd.keys D.key) [], true, 0⟩) := by
    have hh : has (stepM B D).outNd.keys D.key = true := hhas
    show endG _ = _; unfold endG valOf; rw [if_neg hi, stepM_key, hh, if_pos ⟨rfl, hbl⟩]
  have HKY : Hid ((stepM B D).key = D.key) := stepM_key B D
  clear hb hkv hvv hX hm hd hne hsm hks hk hJ off hlow hlow' hn hi hhas hbl hvs
  unfold pV at FS q0
  generalize stepM B D = DM at *
  unfold pV
  go_enter Tryz.func22, Tryz.ntmps22
  go_wp2_with (first | (go_at_call 11; refine FK.mono ?_; rintro e wk ⟨rfl, rfl⟩) | fail)
  refine FS.mono ?_
  rintro e w1 ⟨rfl, ⟨S1, hX1, hsub⟩, hk1⟩
  clear FS FK q0 q1 q2
  replace HB := Lib.hid (HB.out.keeps hk1 HNE.out)
  replace HKV := Lib.hid (HKV.out.keeps hk1 (fun x _ hx e => HD.out (e ▸ hx)))
  replace HVV := Lib.hid (HVV.out.keeps hk1 (fun x _ hx e => HD.out (e ▸ hx)))
  have KN : Hid (w1.heap.size ≤ w1.heap.size) := Nat.le_refl _
  replace HX := Lib.hid hX1
  have HSUB := Lib.hid hsub
  have K : Hid (Keeps (fun x => x = m ∨ x = d) w w1) := hk1.mono (fun x _ h => .inr h)
  have SZ : Hid (w.heap.size ≤ w1.heap.size) := hk1.size
  have HMX : Hid (¬ S1 m) := fun h => (hsub m h).elim HM.out (fun h => by have h1 := h.1; have h2 := HLT.out.1; omega)
  clear hX1 hsub hk1
  have q0 : w1.cell? ⟨m, 0, none⟩ = some (.pointer (some ⟨d, 0, none⟩)) := HB.out.cell 0
  have q2 : w1.cell? ⟨m, 2, none⟩ = some (.bool false) := HB.out.cell 2
  have g2 := HB.out.frozen 2
  go_wp2_with fail
  clear q0 q2 g2
  refine calls_at (fun w2 hw => ?_)
  have hk : Keeps (fun x => x = m) w1 w2 := by rw [hw]; exact Keeps.setCell _ (M := fun x => x = m) rfl _
  replace HB : Hid (Blk w2 m 125 #[.pointer (some ⟨d, 0, none⟩), .slice KA D.key.length kc, .bool true, .slice VA 0 vc, .bool false, .int .i64 0]) := by show Blk _ _ _ _; rw [hw]; exact (HB.out.set_ 2 _)
  clear hw
  replace HKV := Lib.hid (HKV.out.keeps hk (fun x _ hx e => HM.out (e ▸ hx)))
  replace HVV := Lib.hid (HVV.out.keeps hk (fun x _ hx e => HM.out (e ▸ hx)))
  replace HX := Lib.hid (HX.out.keeps hk (fun e => HNE.out e.symm) (fun x _ hx e => HMX.out (e ▸ hx)))
  replace KN := Lib.hid (Nat.le_trans KN.out hk.size)
  replace K := Lib.hid (K.out.trans hk (fun x _ h => .inl h))
  clear hk
  have FA := atR HX.out
  unfold pV iV at FA
  refine (FA).mono ?_
  rintro e w3 ⟨d0, d1, d2, d3, d4, d5, rfl, hO, hk⟩
  clear FA
  have hs2 := Nat.le_trans KN.out hk.size
  obtain ⟨D1, dj1, f1⟩ := Own.form hO.1.high
  obtain ⟨D3, dj3, f3⟩ := OTx.form hO.2.keys
  obtain ⟨D4, dj4, f4⟩ := OTx.form hO.2.vals
  obtain ⟨D5, dj5, f5⟩ := Own.form hO.2.kids
  have f0 := hO.1.lvl
  have f2 := hO.1.right
  unfold iV at f0 f2
  subst f0 f1 f2 f3 f4 f5
  have HN : Hid (ONd w3 (fun x => w1.heap.size ≤ x ∧ x < w3.heap.size) _ _ _ _ _ _ _) := hO.mono (fun x _ hx => ⟨Nat.le_trans KN.out hx.1, hx.2⟩)
  clear hO
  replace HB := Lib.hid (HB.out.keeps hk id)
  replace HKV := Lib.hid (HKV.out.keeps hk (fun _ _ _ => id))
  replace HVV := Lib.hid (HVV.out.keeps hk (fun _ _ _ => id))
  replace HX := Lib.hid (HX.out.keeps hk id (fun _ _ _ => id))
  replace KN := Lib.hid (Nat.le_trans KN.out hk.size)
  replace K := Lib.hid (K.out.trans hk (fun _ _ h => h.elim))
  clear hk
  have KM : Hid (w3.heap.size ≤ w3.heap.size) := Nat.le_refl _
  go_wp2_with fail
  refine code_at (fun w4 hw => ?_)
  have hk : Keeps Nob w3 w4 := by rw [hw]; exact Keeps.alloc _ _ _
  have HN6 : Hid (Blk w4 w3.heap.size 35 #[.int .i64 DM.outNd.lvl, .slice D1 DM.outNd.high.length dj1, .int .i64 DM.outNd.right, .slice D3 DM.outNd.keys.length dj3, .slice D4 DM.outNd.vals.length dj4, .slice D5 DM.outNd.kids.length dj5]) := by show Blk _ _ _ _; rw [hw]; exact Blk.new _ _ _
  clear hw
  replace HB := Lib.hid (HB.out.keeps hk id)
  replace HKV := Lib.hid (HKV.out.keeps hk (fun _ _ _ => id))
  replace HVV := Lib.hid (HVV.out.keeps hk (fun _ _ _ => id))
  replace HX := Lib.hid (HX.out.keeps hk id (fun _ _ _ => id))
  replace HN := Lib.hid (HN.out.keeps hk (fun _ _ _ => id))
  replace KN := Lib.hid (Nat.le_trans KN.out hk.size)
  replace KM := Lib.hid (Nat.le_trans KM.out hk.size)
  replace K := Lib.hid (K.out.trans hk (fun _ _ h => h.elim))
  clear hk
  obtain ⟨N, hN⟩ : ∃ N, w3.heap.size = N := ⟨_, rfl⟩
  rw [hN] at HN6 ⊢
  have HNW : Hid (w1.heap.size ≤ N) := by show _ ≤ _; rw [← hN]; exact hs2
  clear hN hs2
  refine wp_region_canon [0, 1, 2, 3, 4, 5, 6, 7, 8, 9, 10] 5 (fun W => W.cell? ⟨N, 0, none⟩ = some (.int .i64 DM.outNd.lvl) ∧ W.cell? ⟨N, 1, none⟩ = some (.slice D1 DM.outNd.high.length dj1) ∧ W.cell? ⟨N, 2, none⟩ = some (.int .i64 DM.outNd.right) ∧ W.cell? ⟨N, 3, none⟩ = some (.slice D3 DM.outNd.keys.length dj3) ∧ W.cell? ⟨N, 4, none⟩ = some (.slice D4 DM.outNd.vals.length dj4) ∧ W.cell? ⟨N, 5, none⟩ = some (.slice D5 DM.outNd.kids.length dj5) ∧ W.cell? ⟨m, 1, none⟩ = some (.slice KA D.key.length kc)) (by kernel_rfl) (by kernel_rfl) rfl (by kernel_rfl) (fun _ _ d _ _ h => by cases d <;> exact h) ?_ ?_
  · exact ⟨HN6.out.cell 0, HN6.out.cell 1, HN6.out.cell 2, HN6.out.cell 3, HN6.out.cell 4, HN6.out.cell 5, HB.out.cell 1⟩
  refine canon_at (fun w5 hw => ?_)
  have hk : Keeps Nob w4 w5 := by rw [hw]; exact Keeps.drew _ _
  clear hw
  replace HB := Lib.hid (HB.out.keeps hk id)
  replace HKV := Lib.hid (HKV.out.keeps hk (fun _ _ _ => id))
  replace HVV := Lib.hid (HVV.out.keeps hk (fun _ _ _ => id))
  replace HX := Lib.hid (HX.out.keeps hk id (fun _ _ _ => id))
  replace HN := Lib.hid (HN.out.keeps hk (fun _ _ _ => id))
  replace HN6 := Lib.hid (HN6.out.keeps hk id)
  replace KN := Lib.hid (Nat.le_trans KN.out hk.size)
  replace KM := Lib.hid (Nat.le_trans KM.out hk.size)
  replace K := Lib.hid (K.out.trans hk (fun _ _ h => h.elim))
  clear hk
  iterate 5
    refine wpCanon_read (v := ?_) rfl (by kernel_rfl) (by rfl) ?_ ?_
    rotate_left
    · intro W hW
      try (obtain ⟨z1, z2, z3, z4, z5, z6, z7⟩ : _ ∧ _ ∧ _ ∧ _ ∧ _ ∧ _ ∧ _ := hW)
      go_simp
      try rfl
    simp only [Act.put, List.setIfInBounds_toArray, List.set_cons_zero, List.set_cons_succ]
  have FF := fun wx S3 S4 (h1 : Txts wx S3 (.slice D3 DM.outNd.keys.length dj3) DM.outNd.keys) (h2 : Byts wx S4 (.slice KA D.key.length kc) D.key) => findR (c0 := .int .i64 DM.outNd.lvl) (c1 := .slice D1 DM.outNd.high.length dj1) (c2 := .int .i64 DM.outNd.right) (c4 := .slice D4 DM.outNd.vals.length dj4) (c5 := .slice D5 DM.outNd.kids.length dj5) h1 h2
  rw [HHAS.out] at FF
  refine wpCanon_act rfl (by kernel_rfl) ?_
  go_wp2_with (go_at_call 55; refine (FF _ _ _ HN.out.2.keys.r HKV.out).mono ?_; rintro e w6 ⟨rfl, hk⟩)
  clear FF
  replace HB := Lib.hid (HB.out.keeps hk id)
  replace HKV := Lib.hid (HKV.out.keeps hk (fun _ _ _ => id))
  replace HVV := Lib.hid (HVV.out.keeps hk (fun _ _ _ => id))
  replace HX := Lib.hid (HX.out.keeps hk id (fun _ _ _ => id))
  replace HN := Lib.hid (HN.out.keeps hk (fun _ _ _ => id))
  replace HN6 := Lib.hid (HN6.out.keeps hk id)
  replace KN := Lib.hid (Nat.le_trans KN.out hk.size)
  replace KM := Lib.hid (Nat.le_trans KM.out hk.size)
  replace K := Lib.hid (K.out.trans hk (fun _ _ h => h.elim))
  clear hk
  refine ⟨.inl (by kernel_rfl), ?_⟩
  iterate 5
    refine wpCanon_read (v := ?_) rfl (by kernel_rfl) (by rfl) ?_ ?_
    rotate_left
    · intro W hW
      try (obtain ⟨z1, z2, z3, z4, z5, z6, z7⟩ : _ ∧ _ ∧ _ ∧ _ ∧ _ ∧ _ ∧ _ := hW)
      go_simp
      try rfl
    simp only [Act.put, List.setIfInBounds_toArray, List.set_cons_zero, List.set_cons_succ]
  refine wpCanon_nil ?_
  have hNm : ¬ N = m := fun e => by have h1 := HNW.out; have h2 := HLT.out.1; have h3 := SZ.out; omega
  have hmN : ¬ m = N := fun e => hNm e.symm
  have qHB4 := HB.out.cell 4
  have gHB4 := HB.out.frozen 4
  have qHN64 := HN6.out.cell 4
  generalize DM.outNd.vals.getD (below DM.outNd.keys D.key) [] = VL at *
  obtain ⟨ad, ea, had, hcc⟩ := Txts.cells HN.out.2.vals.r HBL.out
  obtain ⟨u, hu1, hu2⟩ := hcc _ _ HVAL.out
  obtain ⟨UA, uc, eu, _, _⟩ := hu2.form
  subst ea eu
  have HU2 := Lib.hid hu2
  have hu3 : ∀ o, ((w6.setCell ⟨m, 4, none⟩ (.bool true)).alloc o).cell? (ad.add (below DM.outNd.keys D.key)) = some (.slice UA VL.length uc) := fun o => (Keeps.alloc Nob _ _).cell ((Keeps.setCell w6 (M := fun x => x = m) (p := ⟨m, 4, none⟩) rfl _).cell hu1 (fun e => by rw [blk_add] at e; have h1 := had.1; have h2 := HLT.out.1; have h3 := SZ.out; have e2 : ad.block = m := e; omega)) id
  clear hu1 hu2
  have hbl := HBL.out
  have lN := HN6.out.lt
  have lm := HB.out.lt
  have hadl : ad.block < w6.heap.size := Nat.lt_of_lt_of_le had.2 KM.out
  clear hcc
  obtain ⟨i0, hi0, hz0, hz1, hz2⟩ := info_parts Tryz.inf_u8
  go_wp2_with (at_builtin; refine list_at (fun wd hwd => ?_); refine wpList_app rfl (.tmp 75) (.tmp 81) 23 rfl Tryz.underlying23 hi0 hz0 hz1 hz2 rfl (by decide) (v := .slice (some ⟨w6.heap.size, 0, none⟩) 0 0) (n := 0) (m := VL.length) (S := From w6.heap.size) (T := fun _ => True) (xs := []) (news := VL.map bV) (by first | rfl | (simp; done) | skip) ?c1 (y := .slice UA VL.length uc) rfl ?c2 ?c3 ?c4 ?c5 ?c6)
  clear qHB4 gHB4 qHN64
  case c1 => rw [hwd]; exact Own.empty_ (by simp) (Nat.le_refl _)
  case c2 => rw [hwd]; exact ((HU2.out.keeps (Keeps.setCell _ (M := fun x => x = m) rfl _) (fun x _ hx e => by have h1 := hx.1; have h2 := HLT.out.1; have h3 := SZ.out; have h4 : x = m := e; omega)).keeps (Keeps.alloc Nob _ _) (fun _ _ _ => id)).g.mono (fun _ _ _ => trivial)
  case c3 => exact bV_one VL
  case c4 => have := HVS.out; unfold Sm at this; unfold maxLen; omega
  case c5 => have := HVS.out; unfold Sm at this; omega
  case c6 =>
  intro v' w7 ho hk _
  try rw [← hwd] at hk
  try rw [← hwd] at ho
  try simp only [Nat.zero_add, List.nil_append] at ho
  obtain ⟨OA, oc, hf⟩ := ho.form
  subst hf
  have hk0 : Keeps (fun x => x = m) w6 wd := by rw [hwd]; exact (Keeps.setCell _ (M := fun x => x = m) rfl _).alloc' _
  have hb0 : Blk wd m 125 #[.pointer (some ⟨d, 0, none⟩), .slice KA D.key.length kc, .bool true, .slice VA 0 vc, .bool true, .int .i64 0] := by rw [hwd]; exact (HB.out.set_ 4 _).alloc _
  have hsz : wd.heap.size = w6.heap.size + 1 := by rw [hwd]; simp
  have hlm := HB.out.lt
  replace HB : Hid (Blk w7 m 125 #[.pointer (some ⟨d, 0, none⟩), .slice KA D.key.length kc, .bool true, .slice VA 0 vc, .bool true, .int .i64 0]) := hb0.keeps hk (by simp [Value.ownBlock]; omega)
  have HO : Hid (OBy w7 (fun x => w1.heap.size ≤ x ∧ x < w7.heap.size) (.slice OA VL.length oc) VL) := ho.mono (fun x hx h => by
    have h3 := Nat.le_trans KN.out (Nat.le_refl _)
    rcases h with h | h
    · simp [Value.ownBlock] at h; exact ⟨by omega, hx⟩
    · have h1 := h.1; exact ⟨by omega, hx⟩)
  replace hk : Keeps (fun x => x = m) w6 w7 := hk0.trans hk (fun b hb e => by simp [Value.ownBlock] at e; omega)
  clear hk0 hb0 hsz hlm ho hwd
  clear hu3 hbl lN lm hadl hNm hmN HU2 HN HN6 had
  replace HKV := Lib.hid (HKV.out.keeps hk (fun x _ hx e => HM.out (e ▸ hx)))
  replace HVV := Lib.hid (HVV.out.keeps hk (fun x _ hx e => HM.out (e ▸ hx)))
  replace HX := Lib.hid (HX.out.keeps hk (fun e => HNE.out e.symm) (fun x _ hx e => HMX.out (e ▸ hx)))
  replace KN := Lib.hid (Nat.le_trans KN.out hk.size)
  replace K := Lib.hid (K.out.trans hk (fun x _ h => .inl h))
  clear hk
  have qHB3 := HB.out.cell 3
  have gHB3 := HB.out.frozen 3
  go_wp2
  clear qHB3 gHB3
  have HWO : Hid True := trivial
  refine post_at (fun w8 hw => ?_)
  have hk : Keeps (fun x => x = m) w7 w8 := by rw [hw]; exact Keeps.setCell _ (M := fun x => x = m) rfl _
  replace HB : Hid (Blk w8 m 125 #[.pointer (some ⟨d, 0, none⟩), .slice KA D.key.length kc, .bool true, .slice OA VL.length oc, .bool true, .int .i64 0]) := by show Blk _ _ _ _; rw [hw]; exact HB.out.set_ 3 _
  clear hw
  replace HO := Lib.hid (HO.out.keeps hk (fun x _ hx e => by have h1 := hx.1; have h2 := HLT.out.1; have h3 := SZ.out; have h4 : x = m := e; omega))
  have hs78 := hk.size
  replace HKV := Lib.hid (HKV.out.keeps hk (fun x _ hx e => HM.out (e ▸ hx)))
  replace HVV := Lib.hid (HVV.out.keeps hk (fun x _ hx e => HM.out (e ▸ hx)))
  replace HX := Lib.hid (HX.out.keeps hk (fun e => HNE.out e.symm) (fun x _ hx e => HMX.out (e ▸ hx)))
  replace KN := Lib.hid (Nat.le_trans KN.out hk.size)
  replace K := Lib.hid (K.out.trans hk (fun x _ h => .inl h))
  clear hk
  have HS78 := Lib.hid hs78
  clear hs78
  go_ret2
  have s78 := HS78.out
  have s0 := SZ.out
  have s1 := HLT.out
  have s2 := KN.out
  refine ⟨rfl, ?_, K.out⟩
  rw [HE.out]
  refine ⟨⟨⟨_, _, HB.out, ?_, ?_⟩, ?_, ?_⟩, ?_, fun h => h.elim HM.out (fun h => by have h1 := h.1; omega), fun h => h.elim HD.out (fun h => by have h1 := h.1; omega), HNE.out⟩
  · show Byts _ _ _ DM.key
    rw [HKY.out]
    exact HKV.out.mono (fun _ _ h => .inl h)
  · exact HO.out.r.mono (fun x _ h => .inr ⟨by have h1 := h.1; omega, by have h1 := h.2; omega⟩)
  · exact HVS.out
  · show Sm 0 1 DM.key.length
    rw [HKY.out]; exact HKS.out
  · exact HX.out.mono (fun x _ hx => (HSUB.out x hx).imp id (fun h => ⟨h.1, Nat.lt_of_lt_of_le h.2 s2⟩))
/-- A step of a look-up. -/
theorem stepGR (hJ : J w G b p q A B) (off : ∀ x, x = m ∨ x = d ∨ S x → ¬ G x) (h : GR w m d q S g) (hlow : g.D.low) : Calls Tryz.prog 22 #[pV m] w fun e w' => e = .returned (.tuple #[.bool (stepG B g).1.1, .bool (stepG B g).1.2]) ∧ GR w' m d q (fun x => S x ∨ Fresh w w' x) (stepG B g).2 ∧ Keeps (fun x => x = m ∨ x = d) w w' := by
  by_cases hr : g.res.isSome = true
  · refine (stepGR_done h hr).mono ?_
    rintro e w' ⟨rfl, rfl⟩
    rw [Gc.step_some hr]
    exact ⟨rfl, ⟨h.1.mono (fun _ _ h => .inl h), h.2.mono (fun _ _ h => .inl h), fun hs => hs.elim h.nm (fun hf => by have h1 := hf.1; have h2 := hf.2; omega), fun hs => hs.elim h.nd (fun hf => by have h1 := hf.1; have h2 := hf.2; omega), h.ne⟩, Keeps.refl _ _⟩
  have hr' : g.res = none := by cases hh : g.res with | none => rfl | some r => rw [hh] at hr; exact absurd rfl hr
  cases hk : keyFit g.D.key with
  | false =>
    rw [Gc.step_bad hr' hk]
    exact stepGR_bad h hr' hk
  | true =>
    by_cases hn : (stepM B g.D).nx = .done
    · rw [Gc.step_end hr' hk hn]
      by_cases hi : (stepM B g.D).outId = 0
      · rw [decide_eq_true hi]
        exact stepGR_end0 hJ off h hlow hr' hk hn hi
      · rw [decide_eq_false hi]
        cases hh : has (stepM B g.D).outNd.keys g.D.key with
        | false => exact stepGR_end1 hJ off h hlow hr' hk hn hi hh
        | true =>
          by_cases hb : below (stepM B g.D).outNd.keys g.D.key < (stepM B g.D).outNd.vals.length
          · exact stepGR_end3 hJ off h hlow hr' hk hn hi hh hb (outNd_sm (stepM_sm h.mw.sm (opNdR_sm hJ))).2.2.1.2
          · exact stepGR_end2 hJ off h hlow hr' hk hn hi hh hb
    · rw [Gc.step_go hr' hk hn]
      exact stepGR_go hJ off h hlow hr' hk hn
set_option maxRecDepth 100000 in
set_option maxHeartbeats 1000000 in
theorem answerGR (h : GR w m d q S g) : Calls Tryz.prog 56 #[pV m] w fun e w' => ∃ VA vc, e = .returned (.tuple #[.slice VA g.out.value.length vc, .bool g.out.there, iV g.out.err]) ∧ OBy w' (Fresh w w') (.slice VA g.out.value.length vc) g.out.value ∧ Keeps Nob w w' := by
  obtain ⟨⟨⟨kv, vv, hb, hkv, hvv⟩, hsm, hks⟩, _⟩ := h
  obtain ⟨VA, vc, ev, _, _⟩ := hvv.form
  subst ev
  have HB := Lib.hid hb
  have HVV := Lib.hid hvv
  have HSM : Hid (Sm 0 1 g.out.value.length) := hsm
  clear hb hkv hvv hsm hks
  generalize g.out = R at *
  unfold pV iV
  go_enter Tryz.func56, Tryz.ntmps56
  go_wp2_with fail
  refine wp_region_canon [1, 2, 3, 4, 6, 7, 8, 9, 10, 11, 12, 13, 0, 5, 14, 15, 16] 17 (fun W => W.cell? ⟨m, 3, none⟩ = some (.slice VA R.value.length vc) ∧ W.cell? ⟨m, 4, none⟩ = some (.bool R.there) ∧ W.cell? ⟨m, 5, none⟩ = some (.int .i64 R.err)) (by kernel_rfl) (by kernel_rfl) rfl (by kernel_rfl) (fun _ _ d _ _ h => by cases d <;> exact h) ?_ ?_
  · exact ⟨HB.out.cell 3, HB.out.cell 4, HB.out.cell 5⟩
  refine canon_at (fun w1 hw => ?_)
  have hk : Keeps Nob w w1 := by rw [hw]; exact Keeps.drew _ _
  clear hw
  replace HB := Lib.hid (HB.out.keeps hk id)
  replace HVV := Lib.hid (HVV.out.keeps hk (fun _ _ _ => id))
  have K := Lib.hid hk
  clear hk
  iterate 12
    refine wpCanon_read (v := ?_) rfl (by kernel_rfl) (by rfl) ?_ ?_
    rotate_left
    · intro W hW
      try (obtain ⟨z1, z2, z3⟩ : _ ∧ _ ∧ _ := hW)
      go_simp
      try rfl
    simp only [Act.put, List.setIfInBounds_toArray, List.set_cons_zero, List.set_cons_succ]
  refine wpCanon_act rfl (by kernel_rfl) ?_
  go_wp2
  refine canon_at' (fun w2 hw => ?_)
  have ho0 : Own w2 (From w1.heap.size) 5 1 (.slice (some ⟨w1.heap.size, 0, none⟩) 0 0) 0 [] := by rw [hw]; exact Own.empty_ rfl (Nat.le_refl _)
  have hk : Keeps Nob w1 w2 := by rw [hw]; exact Keeps.alloc _ _ _
  have hs12 : w2.heap.size = w1.heap.size + 1 := by rw [hw]; simp
  clear hw
  have hs01 := K.out.size
  replace HB := Lib.hid (HB.out.keeps hk id)
  replace HVV := Lib.hid (HVV.out.keeps hk (fun _ _ _ => id))
  replace K := Lib.hid (K.out.trans hk (fun _ _ h => h.elim))
  clear hk
  have HO0 := Lib.hid ho0
  have HS01 : Hid (w.heap.size ≤ w1.heap.size ∧ w2.heap.size = w1.heap.size + 1) := ⟨hs01, hs12⟩
  obtain ⟨N, hN⟩ : ∃ N, w1.heap.size = N := ⟨_, rfl⟩
  rw [hN] at HO0 HS01 ⊢
  clear ho0 hs01 hs12 hN
  refine ⟨.inr ⟨HB.out.cell 3, HB.out.cell 4, HB.out.cell 5⟩, ?_⟩
  refine wpCanon_act rfl (by kernel_rfl) ?_
  obtain ⟨i0, hi, hz0, hz1, hz2⟩ := info_parts Tryz.inf_u8
  go_wp2_with (at_builtin; refine wpList_app rfl (.tmp 5) (.tmp 9) 23 rfl Tryz.underlying23 hi hz0 hz1 hz2 rfl (by decide) (v := .slice (some ⟨N, 0, none⟩) 0 0) (n := 0) (m := R.value.length) (S := From N) (T := S) (xs := []) (news := R.value.map bV) rfl ?c1 (y := .slice VA R.value.length vc) rfl ?c2 ?c3 ?c4 ?c5 ?c6)
  case c1 => exact HO0.out
  case c2 => exact HVV.out.g
  case c3 => exact bV_one R.value
  case c4 => have := HSM.out; unfold Sm at this; unfold maxLen; omega
  case c5 => have := HSM.out; unfold Sm at this; omega
  case c6 =>
  intro v' w3 ho hk _
  try simp only [Nat.zero_add, List.nil_append] at ho
  obtain ⟨OA, oc, hf⟩ := ho.form
  subst hf
  have HO : Hid (OBy w3 (Fresh w w3) (.slice OA R.value.length oc) R.value) := ho.mono (fun x hx h => by
    have h3 := HS01.out
    rcases h with h | h
    · simp [Value.ownBlock] at h; exact ⟨by omega, hx⟩
    · have h1 := h.1; exact ⟨by omega, hx⟩)
  replace K : Hid (Keeps Nob w w3) := K.out.trans hk (fun b hb e => by have h3 := HS01.out; simp [Value.ownBlock] at e; omega)
  have hnm : ¬ N = m := fun e => by have h1 := HO0.out; subst e; exact absurd (h1.ownBlk (b := N) rfl) (fun ⟨cs, hb⟩ => Blk.ne_ hb HB.out (by decide) rfl)
  replace HB := Lib.hid (HB.out.keeps hk (fun e => by simp [Value.ownBlock] at e; exact hnm e))
  clear ho hk hnm
  refine ⟨.inr ⟨HB.out.cell 3, HB.out.cell 4, HB.out.cell 5⟩, ?_⟩
  iterate 3
    refine wpCanon_read (v := ?_) rfl (by kernel_rfl) (by rfl) ?_ ?_
    rotate_left
    · intro W hW
      try (obtain ⟨z1, z2, z3⟩ : _ ∧ _ ∧ _ := hW)
      go_simp
      try rfl
    simp only [Act.put, List.setIfInBounds_toArray, List.set_cons_zero, List.set_cons_succ]
  refine wpCanon_nil ?_
  go_wp2
  go_ret3
  exact ⟨_, _, rfl, HO.out, K.out⟩
end
end Go.Proofs.YtbhohohgojcapaaGreat
