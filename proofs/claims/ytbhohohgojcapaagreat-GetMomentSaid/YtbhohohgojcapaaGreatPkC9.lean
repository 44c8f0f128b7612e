import Derived.Test.YtbhohohgojcapaaGreatPkC8
import Derived.Test.YtbhohohgojcapaaGreatPkC5
import Derived.Test.YtbhohohgojcapaaGreatPkC4
import Derived.BigQuiet
set_option maxHeartbeats 64000000
namespace Go.Proofs.YtbhohohgojcapaaGreat
open Go.RowKit
section
variable {w : World} {G S : Nat -> Prop} {b p q m d : Nat} {A B : Ar} {g : Gc} {v : Value} {key : List UInt8}
set_option maxRecDepth 100000 in
theorem endsX {cs : Array Value} {took : Bool} {er : Int} (hb : Blk w m 112 cs) (hs : cs.size = 6) : Calls Tryz.prog 46 #[pV m, .int .i64 er, .bool took] w λ e w' => e = .returned (.tuple #[.bool true, .bool took]) /\ Blk w' m 112 ((cs.setIfInBounds 2 (.bool true)).setIfInBounds 5 (.int .i64 er)) /\ Keeps (λ x => x = m) w w' := by
 obtain ⟨x2, h2⟩ : ∃ x, cs[2]? = some x := ⟨_, Array.getElem?_eq_getElem (by omega)⟩
 obtain ⟨x5, h5⟩ : ∃ x, cs[5]? = some x := ⟨_, Array.getElem?_eq_getElem (by omega)⟩
 have q2 := hb.cell 2
 have q5 := hb.cell 5
 rw [h2] at q2
 rw [h5] at q5
 have g2 := hb.frozen 2
 have g5 := hb.frozen 5
 have HB := Hd hb
 clear hb h2 h5 hs
 unfold pV
 go_enter Tryz.func46, Tryz.ntmps46
 go_wp2
 go_ret2
 exact ⟨rfl, (HB.out.set_ 2 _).set_ 5 _, (Keeps.setCell _ (M := λ x => x = m) rfl _).setCell' (λ _ => rfl) _⟩
set_option maxRecDepth 100000 in
theorem getNewX (hv : Byts w S v key) (hz : Sm 0 1 key.length) : Calls Tryz.prog 14 #[pV p, v] w λ e w' => ∃ m d, e = .returned (pV m) /\ Fresh w w' m /\ Fresh w w' d /\ GX w' m d p (λ x => Fresh w w' x /\ x ≠ m /\ x ≠ d) (Gc.new key) /\ Keeps Nob w w' := by
 have FD := newX (p := p) (level := 0) hv hz
 have FC := λ wx (h : Byts wx S v key) => cloneB h hz
 have HV := Hd hv
 have HZ : Hid (Sm 0 1 key.length) := hz
 clear hv hz
 unfold pV iV at FD
 unfold pV
 go_enter Tryz.func14, Tryz.ntmps14
 go_wp2_with fail
 refine FD.mono ?_
 rintro e w1 ⟨d, rfl, hf1, hX, hk1⟩
 replace HV := Hd (HV.out.keeps hk1 (λ _ _ _ => id))
 have HX := Hd hX
 have HF := Hd hf1
 have K := Hd hk1
 clear FD hX hf1 hk1
 go_wp2_with fail
 refine (FC _ HV.out).mono ?_
 rintro e w2 ⟨v1, rfl, hO, hk2⟩
 obtain ⟨B1, d1, hf⟩ := hO.form
 subst hf
 have HO := Hd hO
 have K2 := Hd hk2
 clear FC hO hk2 HV
 go_wp2
 refine post_at (λ w3 hw => ?_)
 go_ret
 have hb : Blk w3 w2.heap.size 112 #[.pointer (some ⟨d, 0, none⟩), .slice B1 key.length d1, .bool false, .slice none 0 0, .bool false, .int .i64 0] := by rw [hw]; exact Blk.new _ _ _
 have hk : Keeps Nob w2 w3 := by rw [hw]; exact Keeps.alloc Nob _ _
 have s1 := K.out.size
 have s2 := K2.out.size
 have s3 := hk.size
 have s4 := hb.lt
 have f1 := HF.out.1
 have f2 := HF.out.2
 refine ⟨w2.heap.size, d, rfl, ⟨by omega, s4⟩, ⟨f1, by omega⟩, ⟨⟨⟨_, _, hb, ?_, ?_⟩, by simp [Gc.new, Gc.out, Sm], HZ.out⟩, ?_, λ h => h.2.1 rfl, λ h => h.2.2 rfl, by omega⟩, (K.out.trans K2.out (λ _ _ h => h)).trans hk (λ _ _ h => h)⟩
 ·exact (HO.out.r.keeps hk (λ _ _ _ => id)).mono (λ x _ hx => ⟨⟨by have := hx.1; omega, by have := hx.2; omega⟩, by have := hx.2; omega, by have := hx.1; omega⟩)
 ·exact SlR.nil _ _ _ _ (by decide)
 ·exact ((HX.out.keeps K2.out id (λ _ _ _ => id)).keeps hk id (λ _ _ _ => id)).mono (λ x _ hx => ⟨⟨hx.1.1, by have := hx.1.2; omega⟩, by have := hx.1.2; omega, hx.2⟩)
set_option maxRecDepth 100000 in
theorem stepGX_done (h : GX w m d p S g) (hr : g.res.isSome = true) : Calls Tryz.prog 17 #[pV m] w λ e w' => e = .returned (.tuple #[.bool true, .bool false]) /\ w = w' := by
 obtain ⟨⟨⟨kv, vv, hb, _, _⟩, _, _⟩, _, _, _, _⟩ := h
 have q2 := hb.cell 2
 rw [hr] at q2
 clear hb hr
 unfold pV at q2
 unfold pV
 go_enter Tryz.func17, Tryz.ntmps17
 go_wp2
 go_ret2
 exact ⟨rfl, rfl⟩
set_option maxRecDepth 100000 in
theorem stepGX_short (h : GX w m d p S g) (hr : g.res = none) (hk : g.D.key.length = 0) : Calls Tryz.prog 17 #[pV m] w λ e w' => e = .returned (.tuple #[.bool true, .bool true]) /\ GX w' m d p (λ x => S x \/ Fresh w w' x) { g with res := some ⟨[], false, 3⟩ } /\ Keeps (λ x => x = m \/ x = d) w w' := by
 obtain ⟨⟨⟨kv, vv, hb, hkv, hvv⟩, hsm, hks⟩, hX, hm, hd, hne⟩ := h
 obtain ⟨D, res⟩ := g
 simp only at hr
 subst hr
 replace hks : Sm 0 1 D.key.length := hks
 obtain ⟨KA, kc, ek, _, _⟩ := hkv.form
 obtain ⟨VA, vc, ev, _, _⟩ := hvv.form
 subst ek ev
 simp only at hk
 have HB := Hd hb
 have HKV := Hd hkv
 have HVV := Hd hvv
 have HX := Hd hX
 have HM : Hid (¬ S m) := hm
 have HD : Hid (¬ S d) := hd
 have HNE : Hid (m ≠ d) := hne
 have HSM : Hid (Sm 0 1 ([] : List UInt8).length) := hsm
 have HKS : Hid (Sm 0 1 D.key.length) := hks
 have HLT : Hid (m < w.heap.size /\ d < w.heap.size) := ⟨hb.lt, hX.lt⟩
 have hl : D.key.length <= 9223372036854775807 := by unfold Sm at hks; omega
 have h1 : (D.key.length : Int) < 1 := by omega
 have q1 := hb.cell 1
 have q2 : w.cell? ⟨m, 2, none⟩ = some (.bool false) := hb.cell 2
 have FE := endsX (took := true) (er := 3) hb rfl
 clear hb hkv hvv hX hm hd hne hsm hks hk
 unfold pV at FE q1
 unfold pV
 go_enter Tryz.func17, Tryz.ntmps17
 go_wp2_with fail
 refine FE.mono ?_
 rintro e w1 ⟨rfl, hb1, hk1⟩
 clear FE q1 q2
 have HB1 := Hd hb1
 have K := Hd hk1
 clear hb1 hk1
 go_wp2
 go_ret2
 refine ⟨rfl, ⟨⟨⟨_, _, HB1.out, (HKV.out.keeps K.out (λ x _ hx e => HM.out (e ▸ hx))).mono (λ _ _ h => .inl h), (HVV.out.keeps K.out (λ x _ hx e => HM.out (e ▸ hx))).mono (λ _ _ h => .inl h)⟩, HSM.out, HKS.out⟩, (HX.out.keeps K.out (λ e => HNE.out e.symm) (λ x _ hx e => HM.out (e ▸ hx))).mono (λ _ _ h => .inl h), λ h => h.elim HM.out (λ h => by have h1 := h.1; have h2 := HLT.out.1; omega), λ h => h.elim HD.out (λ h => by have h1 := h.1; have h2 := HLT.out.2; omega), HNE.out⟩, K.out.mono (λ x _ h => .inl h)⟩
set_option maxRecDepth 100000 in
theorem stepGX_long (h : GX w m d p S g) (hr : g.res = none) (hk : 64 < g.D.key.length) : Calls Tryz.prog 17 #[pV m] w λ e w' => e = .returned (.tuple #[.bool true, .bool true]) /\ GX w' m d p (λ x => S x \/ Fresh w w' x) { g with res := some ⟨[], false, 3⟩ } /\ Keeps (λ x => x = m \/ x = d) w w' := by
 obtain ⟨⟨⟨kv, vv, hb, hkv, hvv⟩, hsm, hks⟩, hX, hm, hd, hne⟩ := h
 obtain ⟨D, res⟩ := g
 simp only at hr
 subst hr
 replace hks : Sm 0 1 D.key.length := hks
 obtain ⟨KA, kc, ek, _, _⟩ := hkv.form
 obtain ⟨VA, vc, ev, _, _⟩ := hvv.form
 subst ek ev
 simp only at hk
 have HB := Hd hb
 have HKV := Hd hkv
 have HVV := Hd hvv
 have HX := Hd hX
 have HM : Hid (¬ S m) := hm
 have HD : Hid (¬ S d) := hd
 have HNE : Hid (m ≠ d) := hne
 have HSM : Hid (Sm 0 1 ([] : List UInt8).length) := hsm
 have HKS : Hid (Sm 0 1 D.key.length) := hks
 have HLT : Hid (m < w.heap.size /\ d < w.heap.size) := ⟨hb.lt, hX.lt⟩
 have hl : D.key.length <= 9223372036854775807 := by unfold Sm at hks; omega
 have h1 : ¬ (D.key.length : Int) < 1 := by omega
 have h2 : (64 : Int) < (D.key.length : Int) := by omega
 have q1 := hb.cell 1
 have q2 : w.cell? ⟨m, 2, none⟩ = some (.bool false) := hb.cell 2
 have FE := endsX (took := true) (er := 3) hb rfl
 clear hb hkv hvv hX hm hd hne hsm hks hk
 unfold pV at FE q1
 unfold pV
 go_enter Tryz.func17, Tryz.ntmps17
 go_wp2_with fail
 refine FE.mono ?_
 rintro e w1 ⟨rfl, hb1, hk1⟩
 clear FE q1 q2
 have HB1 := Hd hb1
 have K := Hd hk1
 clear hb1 hk1
 go_wp2
 go_ret2
 refine ⟨rfl, ⟨⟨⟨_, _, HB1.out, (HKV.out.keeps K.out (λ x _ hx e => HM.out (e ▸ hx))).mono (λ _ _ h => .inl h), (HVV.out.keeps K.out (λ x _ hx e => HM.out (e ▸ hx))).mono (λ _ _ h => .inl h)⟩, HSM.out, HKS.out⟩, (HX.out.keeps K.out (λ e => HNE.out e.symm) (λ x _ hx e => HM.out (e ▸ hx))).mono (λ _ _ h => .inl h), λ h => h.elim HM.out (λ h => by have h1 := h.1; have h2 := HLT.out.1; omega), λ h => h.elim HD.out (λ h => by have h1 := h.1; have h2 := HLT.out.2; omega), HNE.out⟩, K.out.mono (λ x _ h => .inl h)⟩
set_option maxRecDepth 100000 in
theorem stepGX_go (hJ : J w G b p q A B) (off : ∀ x, x = m \/ x = d \/ S x -> ¬ G x) (h : GX w m d p S g) (hlow : g.D.low) (hr : g.res = none) (hk : keyFit g.D.key = true) (hn : ¬ (stepM A g.D).nx = .done) : Calls Tryz.prog 17 #[pV m] w λ e w' => e = .returned (.tuple #[.bool false, .bool false]) /\ GX w' m d p (λ x => S x \/ Fresh w w' x) { g with D := stepM A g.D } /\ Keeps (λ x => x = m \/ x = d) w w' := by
 obtain ⟨⟨⟨kv, vv, hb, hkv, hvv⟩, hsm, hks⟩, hX, hm, hd, hne⟩ := h
 obtain ⟨D, res⟩ := g
 simp only at hr
 subst hr
 replace hks : Sm 0 1 D.key.length := hks
 obtain ⟨KA, kc, ek, _, _⟩ := hkv.form
 obtain ⟨VA, vc, ev, _, _⟩ := hvv.form
 subst ek ev
 simp only at hk hlow hn
 have HB := Hd hb
 have HKV := Hd hkv
 have HVV := Hd hvv
 have HX := Hd hX
 have HM : Hid (¬ S m) := hm
 have HD : Hid (¬ S d) := hd
 have HNE : Hid (m ≠ d) := hne
 have HSM : Hid (Sm 0 1 ([] : List UInt8).length) := hsm
 have HKS : Hid (Sm 0 1 D.key.length) := hks
 have HLT : Hid (m < w.heap.size /\ d < w.heap.size) := ⟨hb.lt, hX.lt⟩
 have h1 : ¬ (D.key.length : Int) < 1 := by unfold keyFit at hk; simp only [Bool.and_eq_true, decide_eq_true_eq] at hk; omega
 have h2 : ¬ (64 : Int) < (D.key.length : Int) := by unfold keyFit at hk; simp only [Bool.and_eq_true, decide_eq_true_eq] at hk; omega
 have hl : D.key.length <= 9223372036854775807 := by unfold Sm at hks; omega
 have q0 := hb.cell 0
 have q1 := hb.cell 1
 have q2 : w.cell? ⟨m, 2, none⟩ = some (.bool false) := hb.cell 2
 have FS := stepX_ hJ (off d (.inr (.inl rfl))) hX hd hlow
 rw [decide_eq_false hn] at FS
 clear hb hkv hvv hX hm hd hne hsm hks hk hJ off hlow hn
 unfold pV at FS q0 q1
 unfold pV
 go_enter Tryz.func17, Tryz.ntmps17
 go_wp2_with fail
 refine FS.mono ?_
 rintro e w1 ⟨rfl, ⟨S1, hX1, hsub⟩, hk1⟩
 clear FS q0 q1 q2
 have HX1 := Hd hX1
 have HSUB := Hd hsub
 have K := Hd hk1
 clear hX1 hsub hk1
 go_wp2
 go_ret2
 refine ⟨rfl, ⟨⟨⟨_, _, HB.out.keeps K.out HNE.out, ?_, (HVV.out.keeps K.out (λ x _ hx e => HD.out (e ▸ hx))).mono (λ _ _ h => .inl h)⟩, HSM.out, ?_⟩, HX1.out.mono (λ x _ hx => HSUB.out x hx), λ h => h.elim HM.out (λ h => by have h1 := h.1; have h2 := HLT.out.1; omega), λ h => h.elim HD.out (λ h => by have h1 := h.1; have h2 := HLT.out.2; omega), HNE.out⟩, K.out.mono (λ x _ h => .inr h)⟩
 ·show Byts w1 _ _ (stepM A D).key
  rw [stepM_key]
  exact (HKV.out.keeps K.out (λ x _ hx e => HD.out (e ▸ hx))).mono (λ _ _ h => .inl h)
 ·show Sm 0 1 (stepM A D).key.length
  rw [stepM_key]; exact HKS.out
set_option maxRecDepth 100000 in
theorem stepGX_end0 (hJ : J w G b p q A B) (off : ∀ x, x = m \/ x = d \/ S x -> ¬ G x) (h : GX w m d p S g) (hlow : g.D.low) (hr : g.res = none) (hk : keyFit g.D.key = true) (hn : (stepM A g.D).nx = .done) (hi : (stepM A g.D).outId = 0) : Calls Tryz.prog 17 #[pV m] w λ e w' => e = .returned (.tuple #[.bool true, .bool false]) /\ GX w' m d p (λ x => S x \/ Fresh w w' x) ⟨stepM A g.D, some (endG (stepM A g.D))⟩ /\ Keeps (λ x => x = m \/ x = d) w w' := by
 obtain ⟨⟨⟨kv, vv, hb, hkv, hvv⟩, hsm, hks⟩, hX, hm, hd, hne⟩ := h
 obtain ⟨D, res⟩ := g
 simp only at hr
 subst hr
 replace hks : Sm 0 1 D.key.length := hks
 obtain ⟨KA, kc, ek, _, _⟩ := hkv.form
 obtain ⟨VA, vc, ev, _, _⟩ := hvv.form
 subst ek ev
 have HB := Hd hb
 have HKV := Hd hkv
 have HVV := Hd hvv
 have HX := Hd hX
 have HM : Hid (¬ S m) := hm
 have HD : Hid (¬ S d) := hd
 have HNE : Hid (m ≠ d) := hne
 have HSM : Hid (Sm 0 1 ([] : List UInt8).length) := hsm
 have HKS : Hid (Sm 0 1 D.key.length) := hks
 have HLT : Hid (m < w.heap.size /\ d < w.heap.size) := ⟨hb.lt, hX.lt⟩
 have h1 : ¬ (D.key.length : Int) < 1 := by unfold keyFit at hk; simp only [Bool.and_eq_true, decide_eq_true_eq] at hk; omega
 have h2 : ¬ (64 : Int) < (D.key.length : Int) := by unfold keyFit at hk; simp only [Bool.and_eq_true, decide_eq_true_eq] at hk; omega
 have hl : D.key.length <= 9223372036854775807 := by unfold Sm at hks; omega
 have hlow' : D.low := hlow
 have hi' : (stepM A D).outId = 0 := hi
 have HE : Hid (endG (stepM A D) = ⟨[], false, 101⟩) := by show endG _ = _; unfold endG; rw [if_pos hi']
 have q0 := hb.cell 0
 have q1 := hb.cell 1
 have q2 : w.cell? ⟨m, 2, none⟩ = some (.bool false) := hb.cell 2
 have FS := stepX_ hJ (off d (.inr (.inl rfl))) hX hd hlow'
 rw [decide_eq_true hn] at FS
 have HKY : Hid ((stepM A D).key = D.key) := stepM_key A D
 have HU : Hid True := trivial
 clear hi
 clear hb hkv hvv hX hm hd hne hsm hks hk hJ off hlow hlow' hn
 unfold pV at FS q0 q1
 generalize stepM A D = DM at *
 unfold pV
 go_enter Tryz.func17, Tryz.ntmps17
 go_wp2_with fail
 refine FS.mono ?_
 rintro e w1 ⟨rfl, ⟨S1, hX1, hsub⟩, hk1⟩
 clear FS q0 q1 q2
 replace HB := Hd (HB.out.keeps hk1 HNE.out)
 replace HKV := Hd (HKV.out.keeps hk1 (λ x _ hx e => HD.out (e ▸ hx)))
 replace HVV := Hd (HVV.out.keeps hk1 (λ x _ hx e => HD.out (e ▸ hx)))
 have KN := Hd (Keeps.refl Nob w1)
 replace HX := Hd hX1
 have HSUB := Hd hsub
 have K : Hid (Keeps (λ x => x = m \/ x = d) w w1) := hk1.mono (λ x _ h => .inr h)
 have SZ : Hid (w.heap.size <= w1.heap.size) := hk1.size
 clear hX1 hsub hk1
 have qHB0 := HB.out.cell 0
 have qd : w1.cell? ⟨m, 0, none⟩ = some (.pointer (some ⟨d, 0, none⟩)) := qHB0
 clear qHB0
 have FA := atX HX.out
 rw [hi'] at FA
 unfold pV iV at FA
 go_wp2_with fail
 refine (FA).mono ?_
 rintro e w2 ⟨d0, d1, d2, d3, d4, d5, rfl, hO, hk⟩
 clear qd
 clear FA
 have hs2 : w1.heap.size <= w2.heap.size := hk.size
 obtain ⟨D1, dj1, f1⟩ := Own.form hO.1.high
 obtain ⟨D3, dj3, f3⟩ := OTx.form hO.2.keys
 obtain ⟨D4, dj4, f4⟩ := OTx.form hO.2.vals
 obtain ⟨D5, dj5, f5⟩ := Own.form hO.2.kids
 have f0 := hO.1.lvl
 have f2 := hO.1.right
 unfold iV at f0 f2
 subst f0 f1 f2 f3 f4 f5
 have HN := Hd hO
 clear hO
 replace KN := tr_ KN hk
 replace HB := Hd (HB.out.keeps hk id)
 replace HKV := Hd (HKV.out.keeps hk (λ _ _ _ => id))
 replace HVV := Hd (HVV.out.keeps hk (λ _ _ _ => id))
 replace HX := Hd (HX.out.keeps hk id (λ _ _ _ => id))
 replace K := tr_ K hk
 clear hk
 go_wp2_with fail
 refine calls_at (λ w3 hw => ?_)
 have hk : Keeps Nob w2 w3 := by rw [hw]; exact Keeps.alloc _ _ _
 have HN6 : Hid (Blk w3 w2.heap.size 35 #[.int .i64 DM.outNd.lvl, .slice D1 DM.outNd.high.length dj1, .int .i64 DM.outNd.right, .slice D3 DM.outNd.keys.length dj3, .slice D4 DM.outNd.vals.length dj4, .slice D5 DM.outNd.kids.length dj5]) := by show Blk _ _ _ _; rw [hw]; exact Blk.new _ _ _
 clear hw
 replace KN := tr_ KN hk
 replace HB := Hd (HB.out.keeps hk id)
 replace HKV := Hd (HKV.out.keeps hk (λ _ _ _ => id))
 replace HVV := Hd (HVV.out.keeps hk (λ _ _ _ => id))
 replace HX := Hd (HX.out.keeps hk id (λ _ _ _ => id))
 replace HN := Hd (HN.out.keeps hk (λ _ _ _ => id))
 replace K := tr_ K hk
 clear hk
 refine (endsX (took := false) (er := 101) HB.out rfl).mono ?_
 rintro e w9 ⟨rfl, hb9, hk9⟩
 have HB9 := Hd hb9
 have K9 := Hd hk9
 clear hb9 hk9
 go_wp2
 go_ret2
 have S19 := (Hd (Nat.le_trans KN.out.size K9.out.size))
 have s0 := SZ.out
 have s1 := HLT.out
 have s9 := K9.out.size
 have s19 := S19.out
 have hs9 : w.heap.size <= w9.heap.size := (K.out.trans K9.out (λ x _ h => .inl h)).size
 refine ⟨rfl, ?_, K.out.trans K9.out (λ x _ h => .inl h)⟩
 rw [HE.out]
 refine ⟨⟨⟨_, _, HB9.out, ?_, ?_⟩, ?_, ?_⟩, ?_, λ h => h.elim HM.out (λ h => by have h1 := h.1; omega), λ h => h.elim HD.out (λ h => by have h1 := h.1; omega), HNE.out⟩
 ·show Byts w9 _ _ DM.key
  rw [HKY.out]
  exact (HKV.out.keeps K9.out (λ x _ hx e => HM.out (e ▸ hx))).mono (λ _ _ h => .inl h)
 ·exact (HVV.out.keeps K9.out (λ x _ hx e => HM.out (e ▸ hx))).mono (λ _ _ h => .inl h)
 ·exact HSM.out
 ·show Sm 0 1 DM.key.length
  rw [HKY.out]; exact HKS.out
 ·refine (HX.out.keeps K9.out (λ e => HNE.out e.symm) (λ x _ hx e => ?_)).mono (λ x _ hx => (HSUB.out x hx).imp id (λ h => ⟨h.1, Nat.lt_of_lt_of_le h.2 s19⟩))
  rcases HSUB.out x hx with h | h
  ·exact HM.out (e ▸ h)
  ·have h1 := h.1; have h2 : x = m := e; omega
set_option maxRecDepth 100000 in
theorem stepGX_end1 (hJ : J w G b p q A B) (off : ∀ x, x = m \/ x = d \/ S x -> ¬ G x) (h : GX w m d p S g) (hlow : g.D.low) (hr : g.res = none) (hk : keyFit g.D.key = true) (hn : (stepM A g.D).nx = .done) (hi : (stepM A g.D).outId ≠ 0) (hhas : has (stepM A g.D).outNd.keys g.D.key = false) : Calls Tryz.prog 17 #[pV m] w λ e w' => e = .returned (.tuple #[.bool true, .bool true]) /\ GX w' m d p (λ x => S x \/ Fresh w w' x) ⟨stepM A g.D, some (endG (stepM A g.D))⟩ /\ Keeps (λ x => x = m \/ x = d) w w' := by
 obtain ⟨⟨⟨kv, vv, hb, hkv, hvv⟩, hsm, hks⟩, hX, hm, hd, hne⟩ := h
 obtain ⟨D, res⟩ := g
 simp only at hr
 subst hr
 replace hks : Sm 0 1 D.key.length := hks
 obtain ⟨KA, kc, ek, _, _⟩ := hkv.form
 obtain ⟨VA, vc, ev, _, _⟩ := hvv.form
 subst ek ev
 have HB := Hd hb
 have HKV := Hd hkv
 have HVV := Hd hvv
 have HX := Hd hX
 have HM : Hid (¬ S m) := hm
 have HD : Hid (¬ S d) := hd
 have HNE : Hid (m ≠ d) := hne
 have HSM : Hid (Sm 0 1 ([] : List UInt8).length) := hsm
 have HKS : Hid (Sm 0 1 D.key.length) := hks
 have HLT : Hid (m < w.heap.size /\ d < w.heap.size) := ⟨hb.lt, hX.lt⟩
 have h1 : ¬ (D.key.length : Int) < 1 := by unfold keyFit at hk; simp only [Bool.and_eq_true, decide_eq_true_eq] at hk; omega
 have h2 : ¬ (64 : Int) < (D.key.length : Int) := by unfold keyFit at hk; simp only [Bool.and_eq_true, decide_eq_true_eq] at hk; omega
 have hl : D.key.length <= 9223372036854775807 := by unfold Sm at hks; omega
 have hlow' : D.low := hlow
 have hi' : ((stepM A D).outId == 0) = false := by simpa using hi
 have HHAS : Hid (has (stepM A D).outNd.keys D.key = false) := hhas
 have HE : Hid (endG (stepM A D) = ⟨[], false, 0⟩) := by
  have hh : has (stepM A D).outNd.keys D.key = false := hhas
  show endG _ = _; unfold endG valOf; rw [if_neg hi, stepM_key, hh]; rfl
 have q0 := hb.cell 0
 have q1 := hb.cell 1
 have q2 : w.cell? ⟨m, 2, none⟩ = some (.bool false) := hb.cell 2
 have FS := stepX_ hJ (off d (.inr (.inl rfl))) hX hd hlow'
 rw [decide_eq_true hn] at FS
 have HKY : Hid ((stepM A D).key = D.key) := stepM_key A D
 have HU : Hid True := trivial
 clear hi hhas
 clear hb hkv hvv hX hm hd hne hsm hks hk hJ off hlow hlow' hn
 unfold pV at FS q0 q1
 generalize stepM A D = DM at *
 unfold pV
 go_enter Tryz.func17, Tryz.ntmps17
 go_wp2_with fail
 refine FS.mono ?_
 rintro e w1 ⟨rfl, ⟨S1, hX1, hsub⟩, hk1⟩
 clear FS q0 q1 q2
 replace HB := Hd (HB.out.keeps hk1 HNE.out)
 replace HKV := Hd (HKV.out.keeps hk1 (λ x _ hx e => HD.out (e ▸ hx)))
 replace HVV := Hd (HVV.out.keeps hk1 (λ x _ hx e => HD.out (e ▸ hx)))
 have KN := Hd (Keeps.refl Nob w1)
 replace HX := Hd hX1
 have HSUB := Hd hsub
 have K : Hid (Keeps (λ x => x = m \/ x = d) w w1) := hk1.mono (λ x _ h => .inr h)
 have SZ : Hid (w.heap.size <= w1.heap.size) := hk1.size
 clear hX1 hsub hk1
 have qHB0 := HB.out.cell 0
 have qd : w1.cell? ⟨m, 0, none⟩ = some (.pointer (some ⟨d, 0, none⟩)) := qHB0
 clear qHB0
 have FA := atX HX.out
 unfold pV iV at FA
 go_wp2_with fail
 refine (FA).mono ?_
 rintro e w2 ⟨d0, d1, d2, d3, d4, d5, rfl, hO, hk⟩
 clear qd
 clear FA
 have hs2 : w1.heap.size <= w2.heap.size := hk.size
 obtain ⟨D1, dj1, f1⟩ := Own.form hO.1.high
 obtain ⟨D3, dj3, f3⟩ := OTx.form hO.2.keys
 obtain ⟨D4, dj4, f4⟩ := OTx.form hO.2.vals
 obtain ⟨D5, dj5, f5⟩ := Own.form hO.2.kids
 have f0 := hO.1.lvl
 have f2 := hO.1.right
 unfold iV at f0 f2
 subst f0 f1 f2 f3 f4 f5
 have HN := Hd hO
 clear hO
 replace KN := tr_ KN hk
 replace HB := Hd (HB.out.keeps hk id)
 replace HKV := Hd (HKV.out.keeps hk (λ _ _ _ => id))
 replace HVV := Hd (HVV.out.keeps hk (λ _ _ _ => id))
 replace HX := Hd (HX.out.keeps hk id (λ _ _ _ => id))
 replace K := tr_ K hk
 clear hk
 go_wp2_with fail
 refine code_at (λ w3 hw => ?_)
 have hk : Keeps Nob w2 w3 := by rw [hw]; exact Keeps.alloc _ _ _
 have HN6 : Hid (Blk w3 w2.heap.size 35 #[.int .i64 DM.outNd.lvl, .slice D1 DM.outNd.high.length dj1, .int .i64 DM.outNd.right, .slice D3 DM.outNd.keys.length dj3, .slice D4 DM.outNd.vals.length dj4, .slice D5 DM.outNd.kids.length dj5]) := by show Blk _ _ _ _; rw [hw]; exact Blk.new _ _ _
 clear hw
 replace KN := tr_ KN hk
 replace HB := Hd (HB.out.keeps hk id)
 replace HKV := Hd (HKV.out.keeps hk (λ _ _ _ => id))
 replace HVV := Hd (HVV.out.keeps hk (λ _ _ _ => id))
 replace HX := Hd (HX.out.keeps hk id (λ _ _ _ => id))
 replace HN := Hd (HN.out.keeps hk (λ _ _ _ => id))
 replace K := tr_ K hk
 clear hk
 obtain ⟨N, hN⟩ : ∃ N, w2.heap.size = N := ⟨_, rfl⟩
 rw [hN] at HN6 ⊢
 have HNW : Hid (w1.heap.size <= N) := by show _ <= _; rw [<- hN]; exact hs2
 clear hN hs2
 refine rC_ [0, 1, 2, 3, 4, 5, 6, 7, 8, 9, 10] 5 (λ W => W.cell? ⟨N, 0, none⟩ = some (.int .i64 DM.outNd.lvl) /\ W.cell? ⟨N, 1, none⟩ = some (.slice D1 DM.outNd.high.length dj1) /\ W.cell? ⟨N, 2, none⟩ = some (.int .i64 DM.outNd.right) /\ W.cell? ⟨N, 3, none⟩ = some (.slice D3 DM.outNd.keys.length dj3) /\ W.cell? ⟨N, 4, none⟩ = some (.slice D4 DM.outNd.vals.length dj4) /\ W.cell? ⟨N, 5, none⟩ = some (.slice D5 DM.outNd.kids.length dj5) /\ W.cell? ⟨m, 1, none⟩ = some (.slice KA D.key.length kc)) ?_ ?_
 ·exact ⟨HN6.out.cell 0, HN6.out.cell 1, HN6.out.cell 2, HN6.out.cell 3, HN6.out.cell 4, HN6.out.cell 5, HB.out.cell 1⟩
 refine canon_at (λ w4 hw => ?_)
 have hk : Keeps Nob w3 w4 := by rw [hw]; exact Keeps.drew _ _
 clear hw
 replace KN := tr_ KN hk
 replace HB := Hd (HB.out.keeps hk id)
 replace HKV := Hd (HKV.out.keeps hk (λ _ _ _ => id))
 replace HVV := Hd (HVV.out.keeps hk (λ _ _ _ => id))
 replace HX := Hd (HX.out.keeps hk id (λ _ _ _ => id))
 replace HN := Hd (HN.out.keeps hk (λ _ _ _ => id))
 replace HN6 := Hd (HN6.out.keeps hk id)
 replace K := tr_ K hk
 clear hk
 iterate 5
  refine cR_ (v := ?_) rfl ?_ ?_
  rotate_left
  ·intro W hW
   try (obtain ⟨z1, z2, z3, z4, z5, z6, z7⟩ : _ /\ _ /\ _ /\ _ /\ _ /\ _ /\ _ := hW)
   go_simp
   try rfl
  simp only [Act.put, sa_, sb_, sc_]
 have FF := λ wx S3 S4 (h1 : Txts wx S3 (.slice D3 DM.outNd.keys.length dj3) DM.outNd.keys) (h2 : Byts wx S4 (.slice KA D.key.length kc) D.key) => findP (c0 := .int .i64 DM.outNd.lvl) (c1 := .slice D1 DM.outNd.high.length dj1) (c2 := .int .i64 DM.outNd.right) (c4 := .slice D4 DM.outNd.vals.length dj4) (c5 := .slice D5 DM.outNd.kids.length dj5) h1 h2
 rw [HHAS.out] at FF
 refine cA_ rfl ?_
 go_wp2_with (go_at_call 49; refine (FF _ _ _ HN.out.2.keys.r HKV.out).mono ?_; rintro e w5 ⟨rfl, hk⟩)
 clear FF
 replace KN := tr_ KN hk
 replace HB := Hd (HB.out.keeps hk id)
 replace HKV := Hd (HKV.out.keeps hk (λ _ _ _ => id))
 replace HVV := Hd (HVV.out.keeps hk (λ _ _ _ => id))
 replace HX := Hd (HX.out.keeps hk id (λ _ _ _ => id))
 replace HN := Hd (HN.out.keeps hk (λ _ _ _ => id))
 replace HN6 := Hd (HN6.out.keeps hk id)
 replace K := tr_ K hk
 clear hk
 refine ⟨.inl (by kernel_rfl), ?_⟩
 iterate 5
  refine cR_ (v := ?_) rfl ?_ ?_
  rotate_left
  ·intro W hW
   try (obtain ⟨z1, z2, z3, z4, z5, z6, z7⟩ : _ /\ _ /\ _ /\ _ /\ _ /\ _ /\ _ := hW)
   go_simp
   try rfl
  simp only [Act.put, sa_, sb_, sc_]
 refine wpCanon_nil ?_
 have HMX : Hid (∀ S1 : Nat -> Prop, (∀ x, S1 x -> S x \/ Fresh w w1 x) -> ¬ S1 m) := λ S1 hs h => (hs m h).elim HM.out (λ h => by have h1 := h.1; have h2 := HLT.out.1; omega)
 have hNm : ¬ N = m := λ e => by have h1 := HNW.out; have h2 := HLT.out.1; have h3 := SZ.out; omega
 have hmN : ¬ m = N := λ e => hNm e.symm
 have qHB3 := HB.out.cell 3
 have qHB4 := HB.out.cell 4
 have gHB3 := HB.out.frozen 3
 have gHB4 := HB.out.frozen 4
 go_wp2_with fail
 clear qHB3 qHB4 gHB3 gHB4
 clear hNm hmN
 refine calls_at (λ w6 hw => ?_)
 have hk : Keeps (λ x => x = m) w5 w6 := by rw [hw]; exact Keeps.setCell _ (M := λ x => x = m) rfl _
 replace HB : Hid (Blk w6 m 112 #[.pointer (some ⟨d, 0, none⟩), .slice KA D.key.length kc, .bool false, .slice VA 0 vc, .bool false, .int .i64 0]) := by show Blk _ _ _ _; rw [hw]; exact (HB.out.set_ 4 _)
 clear hw
 refine (endsX (took := true) (er := 0) HB.out rfl).mono ?_
 rintro e w9 ⟨rfl, hb9, hk9⟩
 replace hk9 : Keeps (λ x => x = m) w5 w9 := hk.trans hk9 (λ _ _ h => h)
 clear hk
 have HB9 := Hd hb9
 have K9 := Hd hk9
 clear hb9 hk9
 go_wp2
 go_ret2
 have KE : Hid (w5.heap.size <= w9.heap.size) := K9.out.size
 have S19 := (Hd (Nat.le_trans KN.out.size K9.out.size))
 have s0 := SZ.out
 have s1 := HLT.out
 have s9 := K9.out.size
 have s19 := S19.out
 have hs9 : w.heap.size <= w9.heap.size := (K.out.trans K9.out (λ x _ h => .inl h)).size
 refine ⟨rfl, ?_, K.out.trans K9.out (λ x _ h => .inl h)⟩
 rw [HE.out]
 refine ⟨⟨⟨_, _, HB9.out, ?_, ?_⟩, ?_, ?_⟩, ?_, λ h => h.elim HM.out (λ h => by have h1 := h.1; omega), λ h => h.elim HD.out (λ h => by have h1 := h.1; omega), HNE.out⟩
 ·show Byts w9 _ _ DM.key
  rw [HKY.out]
  exact (HKV.out.keeps K9.out (λ x _ hx e => HM.out (e ▸ hx))).mono (λ _ _ h => .inl h)
 ·exact (HVV.out.keeps K9.out (λ x _ hx e => HM.out (e ▸ hx))).mono (λ _ _ h => .inl h)
 ·exact HSM.out
 ·show Sm 0 1 DM.key.length
  rw [HKY.out]; exact HKS.out
 ·refine (HX.out.keeps K9.out (λ e => HNE.out e.symm) (λ x _ hx e => ?_)).mono (λ x _ hx => (HSUB.out x hx).imp id (λ h => ⟨h.1, Nat.lt_of_lt_of_le h.2 s19⟩))
  rcases HSUB.out x hx with h | h
  ·exact HM.out (e ▸ h)
  ·have h1 := h.1; have h2 : x = m := e; omega
set_option maxRecDepth 100000 in
theorem stepGX_end2 (hJ : J w G b p q A B) (off : ∀ x, x = m \/ x = d \/ S x -> ¬ G x) (h : GX w m d p S g) (hlow : g.D.low) (hr : g.res = none) (hk : keyFit g.D.key = true) (hn : (stepM A g.D).nx = .done) (hi : (stepM A g.D).outId ≠ 0) (hhas : has (stepM A g.D).outNd.keys g.D.key = true) (hbl : ¬ below (stepM A g.D).outNd.keys g.D.key < (stepM A g.D).outNd.vals.length) : Calls Tryz.prog 17 #[pV m] w λ e w' => e = .returned (.tuple #[.bool true, .bool true]) /\ GX w' m d p (λ x => S x \/ Fresh w w' x) ⟨stepM A g.D, some (endG (stepM A g.D))⟩ /\ Keeps (λ x => x = m \/ x = d) w w' := by
 obtain ⟨⟨⟨kv, vv, hb, hkv, hvv⟩, hsm, hks⟩, hX, hm, hd, hne⟩ := h
 obtain ⟨D, res⟩ := g
 simp only at hr
 subst hr
 replace hks : Sm 0 1 D.key.length := hks
 obtain ⟨KA, kc, ek, _, _⟩ := hkv.form
 obtain ⟨VA, vc, ev, _, _⟩ := hvv.form
 subst ek ev
 have HB := Hd hb
 have HKV := Hd hkv
 have HVV := Hd hvv
 have HX := Hd hX
 have HM : Hid (¬ S m) := hm
 have HD : Hid (¬ S d) := hd
 have HNE : Hid (m ≠ d) := hne
 have HSM : Hid (Sm 0 1 ([] : List UInt8).length) := hsm
 have HKS : Hid (Sm 0 1 D.key.length) := hks
 have HLT : Hid (m < w.heap.size /\ d < w.heap.size) := ⟨hb.lt, hX.lt⟩
 have h1 : ¬ (D.key.length : Int) < 1 := by unfold keyFit at hk; simp only [Bool.and_eq_true, decide_eq_true_eq] at hk; omega
 have h2 : ¬ (64 : Int) < (D.key.length : Int) := by unfold keyFit at hk; simp only [Bool.and_eq_true, decide_eq_true_eq] at hk; omega
 have hl : D.key.length <= 9223372036854775807 := by unfold Sm at hks; omega
 have hlow' : D.low := hlow
 have hi' : ((stepM A D).outId == 0) = false := by simpa using hi
 have HHAS : Hid (has (stepM A D).outNd.keys D.key = true) := hhas
 have HBL : Hid (¬ ((below (stepM A D).outNd.keys D.key : Nat) : Int) < ((stepM A D).outNd.vals.length : Int)) := by show ¬ _; have h : ¬ below (stepM A D).outNd.keys D.key < (stepM A D).outNd.vals.length := hbl; omega
 have HE : Hid (endG (stepM A D) = ⟨[], true, 0⟩) := by
  have hh : has (stepM A D).outNd.keys D.key = true := hhas
  show endG _ = _; unfold endG valOf; rw [if_neg hi, stepM_key, hh, if_neg (λ h => hbl h.2)]
 have q0 := hb.cell 0
 have q1 := hb.cell 1
 have q2 : w.cell? ⟨m, 2, none⟩ = some (.bool false) := hb.cell 2
 have FS := stepX_ hJ (off d (.inr (.inl rfl))) hX hd hlow'
 rw [decide_eq_true hn] at FS
 have HKY : Hid ((stepM A D).key = D.key) := stepM_key A D
 have HU : Hid True := trivial
 clear hi hhas hbl
 clear hb hkv hvv hX hm hd hne hsm hks hk hJ off hlow hlow' hn
 unfold pV at FS q0 q1
 generalize stepM A D = DM at *
 unfold pV
 go_enter Tryz.func17, Tryz.ntmps17
 go_wp2_with fail
 refine FS.mono ?_
 rintro e w1 ⟨rfl, ⟨S1, hX1, hsub⟩, hk1⟩
 clear FS q0 q1 q2
 replace HB := Hd (HB.out.keeps hk1 HNE.out)
 replace HKV := Hd (HKV.out.keeps hk1 (λ x _ hx e => HD.out (e ▸ hx)))
 replace HVV := Hd (HVV.out.keeps hk1 (λ x _ hx e => HD.out (e ▸ hx)))
 have KN := Hd (Keeps.refl Nob w1)
 replace HX := Hd hX1
 have HSUB := Hd hsub
 have K : Hid (Keeps (λ x => x = m \/ x = d) w w1) := hk1.mono (λ x _ h => .inr h)
 have SZ : Hid (w.heap.size <= w1.heap.size) := hk1.size
 clear hX1 hsub hk1
 have qHB0 := HB.out.cell 0
 have qd : w1.cell? ⟨m, 0, none⟩ = some (.pointer (some ⟨d, 0, none⟩)) := qHB0
 clear qHB0
 have FA := atX HX.out
 unfold pV iV at FA
 go_wp2_with fail
 refine (FA).mono ?_
 rintro e w2 ⟨d0, d1, d2, d3, d4, d5, rfl, hO, hk⟩
 clear qd
 clear FA
 have hs2 : w1.heap.size <= w2.heap.size := hk.size
 obtain ⟨D1, dj1, f1⟩ := Own.form hO.1.high
 obtain ⟨D3, dj3, f3⟩ := OTx.form hO.2.keys
 obtain ⟨D4, dj4, f4⟩ := OTx.form hO.2.vals
 obtain ⟨D5, dj5, f5⟩ := Own.form hO.2.kids
 have f0 := hO.1.lvl
 have f2 := hO.1.right
 unfold iV at f0 f2
 subst f0 f1 f2 f3 f4 f5
 have HN := Hd hO
 clear hO
 replace KN := tr_ KN hk
 replace HB := Hd (HB.out.keeps hk id)
 replace HKV := Hd (HKV.out.keeps hk (λ _ _ _ => id))
 replace HVV := Hd (HVV.out.keeps hk (λ _ _ _ => id))
 replace HX := Hd (HX.out.keeps hk id (λ _ _ _ => id))
 replace K := tr_ K hk
 clear hk
 go_wp2_with fail
 refine code_at (λ w3 hw => ?_)
 have hk : Keeps Nob w2 w3 := by rw [hw]; exact Keeps.alloc _ _ _
 have HN6 : Hid (Blk w3 w2.heap.size 35 #[.int .i64 DM.outNd.lvl, .slice D1 DM.outNd.high.length dj1, .int .i64 DM.outNd.right, .slice D3 DM.outNd.keys.length dj3, .slice D4 DM.outNd.vals.length dj4, .slice D5 DM.outNd.kids.length dj5]) := by show Blk _ _ _ _; rw [hw]; exact Blk.new _ _ _
 clear hw
 replace KN := tr_ KN hk
 replace HB := Hd (HB.out.keeps hk id)
 replace HKV := Hd (HKV.out.keeps hk (λ _ _ _ => id))
 replace HVV := Hd (HVV.out.keeps hk (λ _ _ _ => id))
 replace HX := Hd (HX.out.keeps hk id (λ _ _ _ => id))
 replace HN := Hd (HN.out.keeps hk (λ _ _ _ => id))
 replace K := tr_ K hk
 clear hk
 obtain ⟨N, hN⟩ : ∃ N, w2.heap.size = N := ⟨_, rfl⟩
 rw [hN] at HN6 ⊢
 have HNW : Hid (w1.heap.size <= N) := by show _ <= _; rw [<- hN]; exact hs2
 clear hN hs2
 refine rC_ [0, 1, 2, 3, 4, 5, 6, 7, 8, 9, 10] 5 (λ W => W.cell? ⟨N, 0, none⟩ = some (.int .i64 DM.outNd.lvl) /\ W.cell? ⟨N, 1, none⟩ = some (.slice D1 DM.outNd.high.length dj1) /\ W.cell? ⟨N, 2, none⟩ = some (.int .i64 DM.outNd.right) /\ W.cell? ⟨N, 3, none⟩ = some (.slice D3 DM.outNd.keys.length dj3) /\ W.cell? ⟨N, 4, none⟩ = some (.slice D4 DM.outNd.vals.length dj4) /\ W.cell? ⟨N, 5, none⟩ = some (.slice D5 DM.outNd.kids.length dj5) /\ W.cell? ⟨m, 1, none⟩ = some (.slice KA D.key.length kc)) ?_ ?_
 ·exact ⟨HN6.out.cell 0, HN6.out.cell 1, HN6.out.cell 2, HN6.out.cell 3, HN6.out.cell 4, HN6.out.cell 5, HB.out.cell 1⟩
 refine canon_at (λ w4 hw => ?_)
 have hk : Keeps Nob w3 w4 := by rw [hw]; exact Keeps.drew _ _
 clear hw
 replace KN := tr_ KN hk
 replace HB := Hd (HB.out.keeps hk id)
 replace HKV := Hd (HKV.out.keeps hk (λ _ _ _ => id))
 replace HVV := Hd (HVV.out.keeps hk (λ _ _ _ => id))
 replace HX := Hd (HX.out.keeps hk id (λ _ _ _ => id))
 replace HN := Hd (HN.out.keeps hk (λ _ _ _ => id))
 replace HN6 := Hd (HN6.out.keeps hk id)
 replace K := tr_ K hk
 clear hk
 iterate 5
  refine cR_ (v := ?_) rfl ?_ ?_
  rotate_left
  ·intro W hW
   try (obtain ⟨z1, z2, z3, z4, z5, z6, z7⟩ : _ /\ _ /\ _ /\ _ /\ _ /\ _ /\ _ := hW)
   go_simp
   try rfl
  simp only [Act.put, sa_, sb_, sc_]
 have FF := λ wx S3 S4 (h1 : Txts wx S3 (.slice D3 DM.outNd.keys.length dj3) DM.outNd.keys) (h2 : Byts wx S4 (.slice KA D.key.length kc) D.key) => findP (c0 := .int .i64 DM.outNd.lvl) (c1 := .slice D1 DM.outNd.high.length dj1) (c2 := .int .i64 DM.outNd.right) (c4 := .slice D4 DM.outNd.vals.length dj4) (c5 := .slice D5 DM.outNd.kids.length dj5) h1 h2
 rw [HHAS.out] at FF
 refine cA_ rfl ?_
 go_wp2_with (go_at_call 49; refine (FF _ _ _ HN.out.2.keys.r HKV.out).mono ?_; rintro e w5 ⟨rfl, hk⟩)
 clear FF
 replace KN := tr_ KN hk
 replace HB := Hd (HB.out.keeps hk id)
 replace HKV := Hd (HKV.out.keeps hk (λ _ _ _ => id))
 replace HVV := Hd (HVV.out.keeps hk (λ _ _ _ => id))
 replace HX := Hd (HX.out.keeps hk id (λ _ _ _ => id))
 replace HN := Hd (HN.out.keeps hk (λ _ _ _ => id))
 replace HN6 := Hd (HN6.out.keeps hk id)
 replace K := tr_ K hk
 clear hk
 refine ⟨.inl (by kernel_rfl), ?_⟩
 iterate 5
  refine cR_ (v := ?_) rfl ?_ ?_
  rotate_left
  ·intro W hW
   try (obtain ⟨z1, z2, z3, z4, z5, z6, z7⟩ : _ /\ _ /\ _ /\ _ /\ _ /\ _ /\ _ := hW)
   go_simp
   try rfl
  simp only [Act.put, sa_, sb_, sc_]
 refine wpCanon_nil ?_
 have HMX : Hid (∀ S1 : Nat -> Prop, (∀ x, S1 x -> S x \/ Fresh w w1 x) -> ¬ S1 m) := λ S1 hs h => (hs m h).elim HM.out (λ h => by have h1 := h.1; have h2 := HLT.out.1; omega)
 have hNm : ¬ N = m := λ e => by have h1 := HNW.out; have h2 := HLT.out.1; have h3 := SZ.out; omega
 have hmN : ¬ m = N := λ e => hNm e.symm
 have qHB3 := HB.out.cell 3
 have qHB4 := HB.out.cell 4
 have gHB3 := HB.out.frozen 3
 have gHB4 := HB.out.frozen 4
 have qHN64 := HN6.out.cell 4
 have hbl := HBL.out
 go_wp2_with fail
 clear qHB3 qHB4 gHB3 gHB4 qHN64
 clear hNm hmN hbl
 refine calls_at (λ w6 hw => ?_)
 have hk : Keeps (λ x => x = m) w5 w6 := by rw [hw]; exact Keeps.setCell _ (M := λ x => x = m) rfl _
 replace HB : Hid (Blk w6 m 112 #[.pointer (some ⟨d, 0, none⟩), .slice KA D.key.length kc, .bool false, .slice VA 0 vc, .bool true, .int .i64 0]) := by show Blk _ _ _ _; rw [hw]; exact (HB.out.set_ 4 _)
 clear hw
 refine (endsX (took := true) (er := 0) HB.out rfl).mono ?_
 rintro e w9 ⟨rfl, hb9, hk9⟩
 replace hk9 : Keeps (λ x => x = m) w5 w9 := hk.trans hk9 (λ _ _ h => h)
 clear hk
 have HB9 := Hd hb9
 have K9 := Hd hk9
 clear hb9 hk9
 go_wp2
 go_ret2
 have KE : Hid (w5.heap.size <= w9.heap.size) := K9.out.size
 have S19 := (Hd (Nat.le_trans KN.out.size K9.out.size))
 have s0 := SZ.out
 have s1 := HLT.out
 have s9 := K9.out.size
 have s19 := S19.out
 have hs9 : w.heap.size <= w9.heap.size := (K.out.trans K9.out (λ x _ h => .inl h)).size
 refine ⟨rfl, ?_, K.out.trans K9.out (λ x _ h => .inl h)⟩
 rw [HE.out]
 refine ⟨⟨⟨_, _, HB9.out, ?_, ?_⟩, ?_, ?_⟩, ?_, λ h => h.elim HM.out (λ h => by have h1 := h.1; omega), λ h => h.elim HD.out (λ h => by have h1 := h.1; omega), HNE.out⟩
 ·show Byts w9 _ _ DM.key
  rw [HKY.out]
  exact (HKV.out.keeps K9.out (λ x _ hx e => HM.out (e ▸ hx))).mono (λ _ _ h => .inl h)
 ·exact (HVV.out.keeps K9.out (λ x _ hx e => HM.out (e ▸ hx))).mono (λ _ _ h => .inl h)
 ·exact HSM.out
 ·show Sm 0 1 DM.key.length
  rw [HKY.out]; exact HKS.out
 ·refine (HX.out.keeps K9.out (λ e => HNE.out e.symm) (λ x _ hx e => ?_)).mono (λ x _ hx => (HSUB.out x hx).imp id (λ h => ⟨h.1, Nat.lt_of_lt_of_le h.2 s19⟩))
  rcases HSUB.out x hx with h | h
  ·exact HM.out (e ▸ h)
  ·have h1 := h.1; have h2 : x = m := e; omega
set_option maxRecDepth 100000 in
theorem stepGX_end3 (hJ : J w G b p q A B) (off : ∀ x, x = m \/ x = d \/ S x -> ¬ G x) (h : GX w m d p S g) (hlow : g.D.low) (hr : g.res = none) (hk : keyFit g.D.key = true) (hn : (stepM A g.D).nx = .done) (hi : (stepM A g.D).outId ≠ 0) (hhas : has (stepM A g.D).outNd.keys g.D.key = true) (hbl : below (stepM A g.D).outNd.keys g.D.key < (stepM A g.D).outNd.vals.length) (hvs : ∀ v ∈ (stepM A g.D).outNd.vals, Sm 0 1 v.length) : Calls Tryz.prog 17 #[pV m] w λ e w' => e = .returned (.tuple #[.bool true, .bool true]) /\ GX w' m d p (λ x => S x \/ Fresh w w' x) ⟨stepM A g.D, some (endG (stepM A g.D))⟩ /\ Keeps (λ x => x = m \/ x = d) w w' := by
 obtain ⟨⟨⟨kv, vv, hb, hkv, hvv⟩, hsm, hks⟩, hX, hm, hd, hne⟩ := h
 obtain ⟨D, res⟩ := g
 simp only at hr
 subst hr
 replace hks : Sm 0 1 D.key.length := hks
 obtain ⟨KA, kc, ek, _, _⟩ := hkv.form
 obtain ⟨VA, vc, ev, _, _⟩ := hvv.form
 subst ek ev
 have HB := Hd hb
 have HKV := Hd hkv
 have HVV := Hd hvv
 have HX := Hd hX
 have HM : Hid (¬ S m) := hm
 have HD : Hid (¬ S d) := hd
 have HNE : Hid (m ≠ d) := hne
 have HSM : Hid (Sm 0 1 ([] : List UInt8).length) := hsm
 have HKS : Hid (Sm 0 1 D.key.length) := hks
 have HLT : Hid (m < w.heap.size /\ d < w.heap.size) := ⟨hb.lt, hX.lt⟩
 have h1 : ¬ (D.key.length : Int) < 1 := by unfold keyFit at hk; simp only [Bool.and_eq_true, decide_eq_true_eq] at hk; omega
 have h2 : ¬ (64 : Int) < (D.key.length : Int) := by unfold keyFit at hk; simp only [Bool.and_eq_true, decide_eq_true_eq] at hk; omega
 have hl : D.key.length <= 9223372036854775807 := by unfold Sm at hks; omega
 have hlow' : D.low := hlow
 have hi' : ((stepM A D).outId == 0) = false := by simpa using hi
 have HHAS : Hid (has (stepM A D).outNd.keys D.key = true) := hhas
 have HBL : Hid (below (stepM A D).outNd.keys D.key < (stepM A D).outNd.vals.length) := hbl
 have HVAL : Hid ((stepM A D).outNd.vals[below (stepM A D).outNd.keys D.key]? = some ((stepM A D).outNd.vals.getD (below (stepM A D).outNd.keys D.key) [])) := by
  have hbl' : below (stepM A D).outNd.keys D.key < (stepM A D).outNd.vals.length := hbl
  show _ = _
  rw [List.getD_eq_getElem?_getD, List.getElem?_eq_getElem hbl']; rfl
 have HVS : Hid (Sm 0 1 ((stepM A D).outNd.vals.getD (below (stepM A D).outNd.keys D.key) []).length) := hvs _ (List.mem_of_getElem? HVAL.out)
 have HE : Hid (endG (stepM A D) = ⟨(stepM A D).outNd.vals.getD (below (stepM A D).outNd.keys D.key) [], true, 0⟩) := by
  have hh : has (stepM A D).outNd.keys D.key = true := hhas
  show endG _ = _; unfold endG valOf; rw [if_neg hi, stepM_key, hh, if_pos ⟨rfl, hbl⟩]
 have q0 := hb.cell 0
 have q1 := hb.cell 1
 have q2 : w.cell? ⟨m, 2, none⟩ = some (.bool false) := hb.cell 2
 have FS := stepX_ hJ (off d (.inr (.inl rfl))) hX hd hlow'
 rw [decide_eq_true hn] at FS
 have HKY : Hid ((stepM A D).key = D.key) := stepM_key A D
 have HU : Hid True := trivial
 clear hi hhas hbl hvs
 clear hb hkv hvv hX hm hd hne hsm hks hk hJ off hlow hlow' hn
 unfold pV at FS q0 q1
 generalize stepM A D = DM at *
 unfold pV
 go_enter Tryz.func17, Tryz.ntmps17
 go_wp2_with fail
 refine FS.mono ?_
 rintro e w1 ⟨rfl, ⟨S1, hX1, hsub⟩, hk1⟩
 clear FS q0 q1 q2
 replace HB := Hd (HB.out.keeps hk1 HNE.out)
 replace HKV := Hd (HKV.out.keeps hk1 (λ x _ hx e => HD.out (e ▸ hx)))
 replace HVV := Hd (HVV.out.keeps hk1 (λ x _ hx e => HD.out (e ▸ hx)))
 have KN := Hd (Keeps.refl Nob w1)
 replace HX := Hd hX1
 have HSUB := Hd hsub
 have K : Hid (Keeps (λ x => x = m \/ x = d) w w1) := hk1.mono (λ x _ h => .inr h)
 have SZ : Hid (w.heap.size <= w1.heap.size) := hk1.size
 clear hX1 hsub hk1
 have qHB0 := HB.out.cell 0
 have qd : w1.cell? ⟨m, 0, none⟩ = some (.pointer (some ⟨d, 0, none⟩)) := qHB0
 clear qHB0
 have FA := atX HX.out
 unfold pV iV at FA
 go_wp2_with fail
 refine (FA).mono ?_
 rintro e w2 ⟨d0, d1, d2, d3, d4, d5, rfl, hO, hk⟩
 clear qd
 clear FA
 have hs2 : w1.heap.size <= w2.heap.size := hk.size
 obtain ⟨D1, dj1, f1⟩ := Own.form hO.1.high
 obtain ⟨D3, dj3, f3⟩ := OTx.form hO.2.keys
 obtain ⟨D4, dj4, f4⟩ := OTx.form hO.2.vals
 obtain ⟨D5, dj5, f5⟩ := Own.form hO.2.kids
 have f0 := hO.1.lvl
 have f2 := hO.1.right
 unfold iV at f0 f2
 subst f0 f1 f2 f3 f4 f5
 have HN := Hd hO
 clear hO
 replace KN := tr_ KN hk
 replace HB := Hd (HB.out.keeps hk id)
 replace HKV := Hd (HKV.out.keeps hk (λ _ _ _ => id))
 replace HVV := Hd (HVV.out.keeps hk (λ _ _ _ => id))
 replace HX := Hd (HX.out.keeps hk id (λ _ _ _ => id))
 replace K := tr_ K hk
 clear hk
 go_wp2_with fail
 refine code_at (λ w3 hw => ?_)
 have hk : Keeps Nob w2 w3 := by rw [hw]; exact Keeps.alloc _ _ _
 have HN6 : Hid (Blk w3 w2.heap.size 35 #[.int .i64 DM.outNd.lvl, .slice D1 DM.outNd.high.length dj1, .int .i64 DM.outNd.right, .slice D3 DM.outNd.keys.length dj3, .slice D4 DM.outNd.vals.length dj4, .slice D5 DM.outNd.kids.length dj5]) := by show Blk _ _ _ _; rw [hw]; exact Blk.new _ _ _
 clear hw
 replace KN := tr_ KN hk
 replace HB := Hd (HB.out.keeps hk id)
 replace HKV := Hd (HKV.out.keeps hk (λ _ _ _ => id))
 replace HVV := Hd (HVV.out.keeps hk (λ _ _ _ => id))
 replace HX := Hd (HX.out.keeps hk id (λ _ _ _ => id))
 replace HN := Hd (HN.out.keeps hk (λ _ _ _ => id))
 replace K := tr_ K hk
 clear hk
 obtain ⟨N, hN⟩ : ∃ N, w2.heap.size = N := ⟨_, rfl⟩
 rw [hN] at HN6 ⊢
 have HNW : Hid (w1.heap.size <= N) := by show _ <= _; rw [<- hN]; exact hs2
 clear hN hs2
 refine rC_ [0, 1, 2, 3, 4, 5, 6, 7, 8, 9, 10] 5 (λ W => W.cell? ⟨N, 0, none⟩ = some (.int .i64 DM.outNd.lvl) /\ W.cell? ⟨N, 1, none⟩ = some (.slice D1 DM.outNd.high.length dj1) /\ W.cell? ⟨N, 2, none⟩ = some (.int .i64 DM.outNd.right) /\ W.cell? ⟨N, 3, none⟩ = some (.slice D3 DM.outNd.keys.length dj3) /\ W.cell? ⟨N, 4, none⟩ = some (.slice D4 DM.outNd.vals.length dj4) /\ W.cell? ⟨N, 5, none⟩ = some (.slice D5 DM.outNd.kids.length dj5) /\ W.cell? ⟨m, 1, none⟩ = some (.slice KA D.key.length kc)) ?_ ?_
 ·exact ⟨HN6.out.cell 0, HN6.out.cell 1, HN6.out.cell 2, HN6.out.cell 3, HN6.out.cell 4, HN6.out.cell 5, HB.out.cell 1⟩
 refine canon_at (λ w4 hw => ?_)
 have hk : Keeps Nob w3 w4 := by rw [hw]; exact Keeps.drew _ _
 clear hw
 replace KN := tr_ KN hk
 replace HB := Hd (HB.out.keeps hk id)
 replace HKV := Hd (HKV.out.keeps hk (λ _ _ _ => id))
 replace HVV := Hd (HVV.out.keeps hk (λ _ _ _ => id))
 replace HX := Hd (HX.out.keeps hk id (λ _ _ _ => id))
 replace HN := Hd (HN.out.keeps hk (λ _ _ _ => id))
 replace HN6 := Hd (HN6.out.keeps hk id)
 replace K := tr_ K hk
 clear hk
 iterate 5
  refine cR_ (v := ?_) rfl ?_ ?_
  rotate_left
  ·intro W hW
   try (obtain ⟨z1, z2, z3, z4, z5, z6, z7⟩ : _ /\ _ /\ _ /\ _ /\ _ /\ _ /\ _ := hW)
   go_simp
   try rfl
  simp only [Act.put, sa_, sb_, sc_]
 have FF := λ wx S3 S4 (h1 : Txts wx S3 (.slice D3 DM.outNd.keys.length dj3) DM.outNd.keys) (h2 : Byts wx S4 (.slice KA D.key.length kc) D.key) => findP (c0 := .int .i64 DM.outNd.lvl) (c1 := .slice D1 DM.outNd.high.length dj1) (c2 := .int .i64 DM.outNd.right) (c4 := .slice D4 DM.outNd.vals.length dj4) (c5 := .slice D5 DM.outNd.kids.length dj5) h1 h2
 rw [HHAS.out] at FF
 refine cA_ rfl ?_
 go_wp2_with (go_at_call 49; refine (FF _ _ _ HN.out.2.keys.r HKV.out).mono ?_; rintro e w5 ⟨rfl, hk⟩)
 clear FF
 replace KN := tr_ KN hk
 replace HB := Hd (HB.out.keeps hk id)
 replace HKV := Hd (HKV.out.keeps hk (λ _ _ _ => id))
 replace HVV := Hd (HVV.out.keeps hk (λ _ _ _ => id))
 replace HX := Hd (HX.out.keeps hk id (λ _ _ _ => id))
 replace HN := Hd (HN.out.keeps hk (λ _ _ _ => id))
 replace HN6 := Hd (HN6.out.keeps hk id)
 replace K := tr_ K hk
 clear hk
 refine ⟨.inl (by kernel_rfl), ?_⟩
 iterate 5
  refine cR_ (v := ?_) rfl ?_ ?_
  rotate_left
  ·intro W hW
   try (obtain ⟨z1, z2, z3, z4, z5, z6, z7⟩ : _ /\ _ /\ _ /\ _ /\ _ /\ _ /\ _ := hW)
   go_simp
   try rfl
  simp only [Act.put, sa_, sb_, sc_]
 refine wpCanon_nil ?_
 have HMX : Hid (∀ S1 : Nat -> Prop, (∀ x, S1 x -> S x \/ Fresh w w1 x) -> ¬ S1 m) := λ S1 hs h => (hs m h).elim HM.out (λ h => by have h1 := h.1; have h2 := HLT.out.1; omega)
 have hNm : ¬ N = m := λ e => by have h1 := HNW.out; have h2 := HLT.out.1; have h3 := SZ.out; omega
 have hmN : ¬ m = N := λ e => hNm e.symm
 have qHB3 := HB.out.cell 3
 have qHB4 := HB.out.cell 4
 have gHB3 := HB.out.frozen 3
 have gHB4 := HB.out.frozen 4
 have qHN64 := HN6.out.cell 4
 generalize DM.outNd.vals.getD (below DM.outNd.keys D.key) [] = VL at *
 obtain ⟨ad, ea, had, hcc⟩ := Txts.cells HN.out.2.vals.r HBL.out
 obtain ⟨u, hu1, hu2⟩ := hcc _ _ HVAL.out
 obtain ⟨UA, uc, eu, _, _⟩ := hu2.form
 subst ea eu
 have HU2 := Hd hu2
 have hu3 : (w5.setCell ⟨m, 4, none⟩ (.bool true)).cell? (ad.add (below DM.outNd.keys D.key)) = some (.slice UA VL.length uc) := (Keeps.setCell w5 (M := λ x => x = m) (p := ⟨m, 4, none⟩) rfl _).cell hu1 (λ e => by rw [blk_add] at e; have h1 := had.1; have h2 := HLT.out.1; have h3 := SZ.out; have e2 : ad.block = m := e; omega)
 clear hu1 hu2 had hcc
 have hbl := HBL.out
 go_wp2_with fail
 clear qHB3 qHB4 gHB3 gHB4 qHN64
 clear hNm hmN hu3 hbl
 refine calls_at (λ w6 hw => ?_)
 have hk : Keeps (λ x => x = m) w5 w6 := by rw [hw]; exact (Keeps.setCell _ (M := λ x => x = m) rfl _).setCell' (λ _ => rfl) _
 replace HB : Hid (Blk w6 m 112 #[.pointer (some ⟨d, 0, none⟩), .slice KA D.key.length kc, .bool false, .slice UA VL.length uc, .bool true, .int .i64 0]) := by show Blk _ _ _ _; rw [hw]; exact ((HB.out.set_ 4 _).set_ 3 _)
 clear hw
 refine (endsX (took := true) (er := 0) HB.out rfl).mono ?_
 rintro e w9 ⟨rfl, hb9, hk9⟩
 replace hk9 : Keeps (λ x => x = m) w5 w9 := hk.trans hk9 (λ _ _ h => h)
 clear hk
 have HB9 := Hd hb9
 have K9 := Hd hk9
 clear hb9 hk9
 go_wp2
 go_ret2
 have KE : Hid (w5.heap.size <= w9.heap.size) := K9.out.size
 have S19 := (Hd (Nat.le_trans KN.out.size K9.out.size))
 have s0 := SZ.out
 have s1 := HLT.out
 have s9 := K9.out.size
 have s19 := S19.out
 have hs9 : w.heap.size <= w9.heap.size := (K.out.trans K9.out (λ x _ h => .inl h)).size
 refine ⟨rfl, ?_, K.out.trans K9.out (λ x _ h => .inl h)⟩
 rw [HE.out]
 refine ⟨⟨⟨_, _, HB9.out, ?_, ?_⟩, ?_, ?_⟩, ?_, λ h => h.elim HM.out (λ h => by have h1 := h.1; omega), λ h => h.elim HD.out (λ h => by have h1 := h.1; omega), HNE.out⟩
 ·show Byts w9 _ _ DM.key
  rw [HKY.out]
  exact (HKV.out.keeps K9.out (λ x _ hx e => HM.out (e ▸ hx))).mono (λ _ _ h => .inl h)
 ·exact (HU2.out.keeps K9.out (λ x _ hx e => by have h1 := hx.1; have h2 : x = m := e; omega)).mono (λ x _ h => .inr ⟨by have h1 := h.1; omega, by have h1 := h.2; have h2 := KE.out; omega⟩)
 ·exact HVS.out
 ·show Sm 0 1 DM.key.length
  rw [HKY.out]; exact HKS.out
 ·refine (HX.out.keeps K9.out (λ e => HNE.out e.symm) (λ x _ hx e => ?_)).mono (λ x _ hx => (HSUB.out x hx).imp id (λ h => ⟨h.1, Nat.lt_of_lt_of_le h.2 s19⟩))
  rcases HSUB.out x hx with h | h
  ·exact HM.out (e ▸ h)
  ·have h1 := h.1; have h2 : x = m := e; omega
theorem withHd_sm {a b : Nd} (ha : NdSm 0 a) (hb : NdSm 0 b) : NdSm 0 (withHd a b) := ⟨hb.1, ha.2.1, ha.2.2.1, ha.2.2.2⟩
theorem stepM_sm {M : Mc} (h1 : NdSm 0 M.nd) (h2 : ∀ i, NdSm 0 (opNd A i)) : NdSm 0 (stepM A M).nd := by
 unfold stepM
 split
 ·exact h1
 ·exact h1
 ·split <;> exact h1
 ·split <;> exact withHd_sm h1 (h2 _)
 ·split <;> exact withHd_sm (h2 _) h1
 ·split
  ·unfold decideM
   repeat' split
   all_goals exact h1
  ·exact h1
theorem outNd_sm {M : Mc} (h : NdSm 0 M.nd) : NdSm 0 M.outNd := by
 unfold Mc.outNd; split
 ·exact h
 ·exact sm_zero
theorem Gc.step_some {g : Gc} (h : g.res.isSome = true) : stepG A g = ((true, false), g) := by
 unfold stepG
 cases hr : g.res with
 | none => rw [hr] at h; cases h
 | some r => rfl
theorem Gc.step_bad {g : Gc} (h : g.res = none) (hk : keyFit g.D.key = false) : stepG A g = ((true, true), { g with res := some ⟨[], false, 3⟩ }) := by
 unfold stepG; rw [h]; simp only; rw [if_pos hk]
theorem Gc.step_go {g : Gc} (h : g.res = none) (hk : keyFit g.D.key = true) (hn : ¬ (stepM A g.D).nx = .done) : stepG A g = ((false, false), { g with D := stepM A g.D }) := by
 unfold stepG; rw [h]; simp only; rw [if_neg (by rw [hk]; decide), if_neg hn]
theorem Gc.step_end {g : Gc} (h : g.res = none) (hk : keyFit g.D.key = true) (hn : (stepM A g.D).nx = .done) : stepG A g = ((true, !decide ((stepM A g.D).outId = 0)), ⟨stepM A g.D, some (endG (stepM A g.D))⟩) := by
 unfold stepG; rw [h]; simp only; rw [if_neg (by rw [hk]; decide), if_pos hn]
theorem stepGX (hJ : J w G b p q A B) (off : ∀ x, x = m \/ x = d \/ S x -> ¬ G x) (h : GX w m d p S g) (hlow : g.D.low) : Calls Tryz.prog 17 #[pV m] w λ e w' => e = .returned (.tuple #[.bool (stepG A g).1.1, .bool (stepG A g).1.2]) /\ GX w' m d p (λ x => S x \/ Fresh w w' x) (stepG A g).2 /\ Keeps (λ x => x = m \/ x = d) w w' := by
 by_cases hr : g.res.isSome = true
 ·refine (stepGX_done h hr).mono ?_
  rintro e w' ⟨rfl, rfl⟩
  rw [Gc.step_some hr]
  exact ⟨rfl, ⟨h.1.mono (λ _ _ h => .inl h), h.2.mono (λ _ _ h => .inl h), λ hs => hs.elim h.nm (λ hf => by have h1 := hf.1; have h2 := hf.2; omega), λ hs => hs.elim h.nd (λ hf => by have h1 := hf.1; have h2 := hf.2; omega), h.ne⟩, Keeps.refl _ _⟩
 have hr' : g.res = none := by cases hh : g.res with | none => rfl | some r => rw [hh] at hr; exact absurd rfl hr
 cases hk : keyFit g.D.key with
 | false =>
  rw [Gc.step_bad hr' hk]
  unfold keyFit at hk
  by_cases h0 : g.D.key.length = 0
  ·exact stepGX_short h hr' h0
  ·exact stepGX_long h hr' (by simp at hk; omega)
 | true =>
  by_cases hn : (stepM A g.D).nx = .done
  ·rw [Gc.step_end hr' hk hn]
   by_cases hi : (stepM A g.D).outId = 0
   ·rw [decide_eq_true hi]
    exact stepGX_end0 hJ off h hlow hr' hk hn hi
   ·rw [decide_eq_false hi]
    cases hh : has (stepM A g.D).outNd.keys g.D.key with
    | false => exact stepGX_end1 hJ off h hlow hr' hk hn hi hh
    | true =>
     by_cases hb : below (stepM A g.D).outNd.keys g.D.key < (stepM A g.D).outNd.vals.length
     ·exact stepGX_end3 hJ off h hlow hr' hk hn hi hh hb (outNd_sm (stepM_sm h.mw.sm (opNd_sm hJ))).2.2.1.2
     ·exact stepGX_end2 hJ off h hlow hr' hk hn hi hh hb
  ·rw [Gc.step_go hr' hk hn]
   exact stepGX_go hJ off h hlow hr' hk hn
set_option maxRecDepth 100000 in
theorem answerGX (h : GX w m d p S g) : Calls Tryz.prog 15 #[pV m] w λ e w' => ∃ VA vc, e = .returned (.tuple #[.slice VA g.out.value.length vc, .bool g.out.there, iV g.out.err]) /\ OBy w' (Fresh w w') (.slice VA g.out.value.length vc) g.out.value /\ Keeps Nob w w' := by
 obtain ⟨⟨⟨kv, vv, hb, hkv, hvv⟩, hsm, hks⟩, _⟩ := h
 obtain ⟨VA, vc, ev, _, _⟩ := hvv.form
 subst ev
 have HB := Hd hb
 have HVV := Hd hvv
 have HSM : Hid (Sm 0 1 g.out.value.length) := hsm
 clear hb hkv hvv hsm hks
 generalize g.out = R at *
 unfold pV iV
 go_enter Tryz.func15, Tryz.ntmps15
 go_wp2_with fail
 refine rC_ [0, 1, 2, 3, 5, 6, 7, 8, 9, 10, 11, 12, 4, 13, 14, 15] 16 (λ W => W.cell? ⟨m, 3, none⟩ = some (.slice VA R.value.length vc) /\ W.cell? ⟨m, 4, none⟩ = some (.bool R.there) /\ W.cell? ⟨m, 5, none⟩ = some (.int .i64 R.err)) ?_ ?_
 ·exact ⟨HB.out.cell 3, HB.out.cell 4, HB.out.cell 5⟩
 refine canon_at (λ w1 hw => ?_)
 have hk : Keeps Nob w w1 := by rw [hw]; exact Keeps.drew _ _
 clear hw
 replace HB := Hd (HB.out.keeps hk id)
 replace HVV := Hd (HVV.out.keeps hk (λ _ _ _ => id))
 have K := Hd hk
 clear hk
 iterate 12
  refine cR_ (v := ?_) rfl ?_ ?_
  rotate_left
  ·intro W hW
   try (obtain ⟨z1, z2, z3⟩ : _ /\ _ /\ _ := hW)
   go_simp
   try rfl
  simp only [Act.put, sa_, sb_, sc_]
 refine cA_ rfl ?_
 go_wp2_with (go_at_call 45; refine (cloneB HVV.out HSM.out).mono ?_; rintro e w2 ⟨v2, rfl, hO, hk⟩; obtain ⟨OA, oc, hf⟩ := hO.form; subst hf; have HO := Hd hO; clear hO)
 have hs12 := K.out.size
 replace HB := Hd (HB.out.keeps hk id)
 replace HVV := Hd (HVV.out.keeps hk (λ _ _ _ => id))
 replace K := tr_ K hk
 clear hk
 refine ⟨.inr ⟨HB.out.cell 3, HB.out.cell 4, HB.out.cell 5⟩, ?_⟩
 iterate 3
  refine cR_ (v := ?_) rfl ?_ ?_
  rotate_left
  ·intro W hW
   try (obtain ⟨z1, z2, z3⟩ : _ /\ _ /\ _ := hW)
   go_simp
   try rfl
  simp only [Act.put, sa_, sb_, sc_]
 refine wpCanon_nil ?_
 have HS12 := Hd hs12
 clear hs12
 go_wp2
 go_ret3
 exact ⟨_, _, rfl, HO.out.mono (λ x _ hx => ⟨Nat.le_trans HS12.out hx.1, hx.2⟩), K.out⟩
end
end Go.Proofs.YtbhohohgojcapaaGreat
