/- ArenaApart walked: what is set in one slot is read there, and nowhere else anything turns. -/
import Derived.Test.YtdmmhblmgbhgfaaHolder
namespace Go.Proofs.Ytdmmhblmgbhgfaa
open Go.RowKit

section
variable {w : World} {G : Nat → Prop} {b p q : Nat} {A B : Ar} {ix : Int} {s : Sl}
/-- A slot of the document's arena, read as it stands there. -/
theorem J.slotY (h : J w G b p q A B) (hg : B.get ix = some s) : ∃ i g o c : Nat, ∃ c0 c1 c2 c3 c4 c5, ∃ D : Nat → Prop, ix = (i : Int) + 1 ∧ i < B.sl.length ∧ w.cell? ⟨q, 1, none⟩ = some (.slice (some ⟨g, o, none⟩) B.sl.length c) ∧
    w.cell? ⟨g, o + i * 7 + 1, none⟩ = some c0 ∧ w.cell? ⟨g, o + i * 7 + 2, none⟩ = some c1 ∧ w.cell? ⟨g, o + i * 7 + 3, none⟩ = some c2 ∧ w.cell? ⟨g, o + i * 7 + 4, none⟩ = some c3 ∧ w.cell? ⟨g, o + i * 7 + 5, none⟩ = some c4 ∧ w.cell? ⟨g, o + i * 7 + 6, none⟩ = some c5 ∧ IsNd w D c0 c1 c2 c3 c4 c5 s.nd := by
  obtain ⟨hb, ⟨M, D, M', D', ⟨sl, ids, hX⟩, ⟨L, xs, hY⟩, h1, h2, h3⟩, hl, hnew, hsA, hsB⟩ := h
  obtain ⟨i, g, o, c, c0, c1, c2, c3, c4, c5, hid, hs, e3, hi, _, rfl, hm, hgb, hc0, hc1, hc2, hc3, hc4, hc5, hnd⟩ := hY.nd_ hg
  exact ⟨i, g, o, c, c0, c1, c2, c3, c4, c5, D', hid, hi, hY.blk.cell 1, hc0, hc1, hc2, hc3, hc4, hc5, hnd⟩
theorem setHead_held {n : Nd} (hs : A.get ix = some s) (ho : s.word % 2 = 1) : opSetHead A ix n = (0, A.put ix ⟨s.word, withHd s.nd n⟩) := by
  unfold opSetHead; rw [hs]; simp [ho]
theorem setBody_held {n : Nd} (hs : A.get ix = some s) (ho : s.word % 2 = 1) : opSetBody A ix n = (0, A.put ix ⟨s.word, withHd n s.nd⟩) := by
  unfold opSetBody; rw [hs]; simp [ho]
theorem get_put_ne {j : Int} {t : Sl} (h1 : 1 ≤ ix) (hj : j ≠ ix) : (A.put ix t).get j = A.get j := by
  unfold Ar.get Ar.put
  by_cases h : 1 ≤ j
  · rw [if_pos h, if_pos h]
    show (A.sl.set _ _)[_]? = _
    rw [List.getElem?_set_ne (by omega)]
  · rw [if_neg h, if_neg h]
end

section
variable {w : World} {os : List OpM} {v : Value}
set_option maxRecDepth 100000 in
set_option maxHeartbeats 3200000 in
theorem apart_core {di ix : Int} {wd : Nat} {took : Bool} {A0 A1 A2 A3 : Ar} {c0 c1 c2 c3 c4 c5 : Value} {n : Nd} (h : OpsAt w w.heap.size v os) (hid : I64 di) (hn : IsNd w (fun x => x < w.heap.size) c0 c1 c2 c3 c4 c5 n)
    (hA : steps (ar0 20) os = A0) (hix : ix = 1 + pk di A0.sl.length) (hlen : 1 ≤ A0.sl.length)
    (F1 : ∀ wx G b p q, J wx G b p q A0 A0 → Calls Try.prog 22 #[pV p, iV ix] wx fun e w' => e = .returned (.tuple #[.int .u64 wd, iV 0]) ∧ wx = w')
    (F2 : ∀ wx G b p q, J wx G b p q A0 A0 → Calls Try.prog 28 #[pV p, iV ix, .int .u64 wd] wx fun e w' => e = .returned (.tuple #[.bool took, iV 0]) ∧ J w' G b p q A1 A0 ∧ Keeps G wx w')
    (F3 : ∀ wx G b p q S a0 a1 a2, J wx G b p q A1 A0 → IsHd wx S a0 a1 a2 n → Calls Try.prog 33 #[pV p, iV ix, .agg #[a0, a1, a2]] wx fun e w' => e = .returned (iV 0) ∧ J w' G b p q A2 A0 ∧ Keeps G wx w')
    (F4 : ∀ wx G b p q S a0 a1 a2, J wx G b p q A2 A0 → IsBd wx S a0 a1 a2 n → Calls Try.prog 34 #[pV p, iV ix, .agg #[a0, a1, a2]] wx fun e w' => e = .returned (iV 0) ∧ J w' G b p q A3 A0 ∧ Keeps G wx w')
    (HND : ∀ i : Int, 1 ≤ i → i ≤ A0.sl.length → opErr A3 i = 0 ∧ (i = ix → n = opNd A3 i) ∧ (i ≠ ix → opNd A0 i = opNd A3 i)) (hro : A3.root = A0.root) :
    Calls Try.prog 6 #[v, iV di, .agg #[c0, c1, c2, c3, c4, c5]] w fun e w' => e = .returned (.bool true) ∧ Keeps Nob w w' := by
  obtain ⟨X1, k1, e1, _, _⟩ := hn.1.high.form
  obtain ⟨X3, k3, e3, _, _⟩ := hn.2.keys.form
  obtain ⟨X4, k4, e4, _, _⟩ := hn.2.vals.form
  obtain ⟨X5, k5, e5, _, _⟩ := hn.2.kids.form
  have e0 := hn.1.lvl
  have e2 := hn.1.right
  unfold iV at e0 e2
  subst e0 e1 e2 e3 e4 e5
  have HN0 := Lib.hid hn
  have HO := Lib.hid h
  obtain ⟨A, c, hv, hc1, hc2, hc3, _⟩ := h
  subst hv
  have HB := fun wx => begunJ (n := 20) wx (by decide) (by decide)
  have HA := Lib.hid hA
  have HRO := Lib.hid hro
  have FP := fun wx => pick_ (c := di) (n := (A0.sl.length : Int)) wx hid (by omega)
  obtain ⟨hp1, hp2⟩ := pk_range di (A0.sl.length : Int) (by omega)
  have FU := fun wx G b p q A (hj : J wx G b p q A A0) => hj.usedR
  generalize pk di (A0.sl.length : Int) = pn at *
  clear hid hlen hc1 hc2 hA hn hro
  have HIX := Lib.hid hix
  subst hix
  unfold iV pV at *
  go_enter Try.func6, Try.ntmps6
  go_wp2_with fail
  refine calls_at (fun wa hw => ?_)
  obtain ⟨N, hN⟩ : ∃ N, w.heap.size = N := ⟨_, rfl⟩
  have hka : Keeps Nob w wa := by rw [hw]; exact Keeps.alloc _ _ _
  have BX : Hid (Blk wa N 51 #[.int .i64 n.lvl, .slice X1 n.high.length k1, .int .i64 n.right, .slice X3 n.keys.length k3, .slice X4 n.vals.length k4, .slice X5 n.kids.length k5]) := by rw [hw, ← hN]; exact Blk.new _ _ _
  have HNL : Hid (N < wa.heap.size) := BX.out.lt
  rw [hN]
  have KA := Lib.hid hka
  have SA := Lib.hid hka.size
  clear hw hka hN
  refine (HB wa).mono ?_
  rintro e w2 ⟨b, p, q, rfl, hj, hk⟩
  have HJ := Lib.hid hj
  have K := Lib.hid (KA.out.trans hk (fun _ _ h => h))
  replace BX := Lib.hid (BX.out.keeps hk id)
  have HN := Lib.hid (HN0.out.keeps K.out (fun _ _ _ => id))
  clear hj hk HB KA
  go_wp2
  go_loopw [9] (fun i wr => ∃ k : Nat, k ≤ os.length ∧ i = .int .i64 k ∧ J wr (From wa.heap.size) b p q (steps (ar0 20) (os.take k)) (steps (ar0 20) (os.take k)) ∧ Keeps Nob w wr ∧ Blk wr N 51 #[.int .i64 n.lvl, .slice X1 n.high.length k1, .int .i64 n.right, .slice X3 n.keys.length k3, .slice X4 n.vals.length k4, .slice X5 n.kids.length k5]) (fun i _ => os.length - (intOf i).toNat)
  case atStart => exact ⟨0, Nat.zero_le _, rfl, HJ.out, K.out, BX.out⟩
  obtain ⟨k, hk, rfl, hj, hkr, hbx⟩ := hrel
  rcases Nat.lt_or_ge k os.length with hlt | hlt
  · obtain ⟨o, ho⟩ : ∃ o, os[k]? = some o := ⟨_, List.getElem?_eq_getElem hlt⟩
    have hst : steps (ar0 20) (os.take (k + 1)) = step (steps (ar0 20) (os.take k)) o := by rw [take_snoc' _ _ _ ho, steps_snoc]
    have HST := Lib.hid hst
    obtain ⟨ad, c0, c1, c2, c3, c4, c5, rfl, hop, q0, q1, q2, q3, q4, q5, q6, q7, q8, q9, q10⟩ := (HO.out.keeps hkr (fun _ _ => id)).at_ ho
    have HR := Lib.hid (rawJ hj hop (fun x hx hg => by have h1 : wa.heap.size ≤ x := hg; have h2 : x < w.heap.size := hx; have := SA.out; omega))
    have HK := Lib.hid hkr
    have HBX := Lib.hid hbx
    clear hop ho hkr hj hst hbx
    unfold pV at HR
    have hk64 : k < 9223372036854775807 := by omega
    go_wp2_with fail
    refine HR.out.mono ?_
    rintro e wk ⟨rfl, hj, hk2⟩
    have HJ2 := Lib.hid hj
    have HK2 := Lib.hid (HK.out.trans hk2 (fun x hx hg => by have h1 : wa.heap.size ≤ x := hg; have := SA.out; omega))
    have HBX2 := Lib.hid (HBX.out.keeps hk2 (fun hg => absurd HNL.out (Nat.not_lt.2 hg)))
    clear hj hk2
    go_wp2
    go_roundw
    case rel => exact ⟨k + 1, by omega, by go_num, by rw [HST.out]; exact HJ2.out, HK2.out, HBX2.out⟩
    case measure => simp [intOf]; omega
  obtain rfl : k = os.length := by omega
  rw [List.take_length] at hj
  replace HJ := Lib.hid hj
  replace HN := Lib.hid (HN0.out.keeps hkr (fun _ _ _ => id))
  replace K := Lib.hid hkr
  replace BX := Lib.hid hbx
  clear hj hkr hbx
  rw [HA.out] at HJ
  have hlen64 := HJ.out.bound.2
  have r0 := HJ.out.blk.cell 0
  have r1 := HJ.out.blk.cell 1
  unfold pV at r0 r1
  go_wp2_with fail
  refine (FU _ _ _ _ _ _ HJ.out).mono ?_
  rintro e w' ⟨rfl, rfl⟩
  go_wp2_with fail
  refine (FP _).mono ?_
  rintro e w' ⟨rfl, rfl⟩
  have hpn : pn + 1 ≤ 65537 := by omega
  go_wp2_with fail
  refine (F1 _ _ _ _ _ HJ.out).mono ?_
  rintro e w' ⟨rfl, rfl⟩
  go_wp2_with fail
  clear r0 r1
  refine (F2 _ _ _ _ _ HJ.out).mono ?_
  rintro e w3 ⟨rfl, hj, hk⟩
  replace BX := Lib.hid (BX.out.keeps hk (fun hg => absurd HNL.out (Nat.not_lt.2 hg))); replace HN := Lib.hid (HN.out.keeps hk (fun x _ hx hg => by have h1 : wa.heap.size ≤ x := hg; have h2 : x < w.heap.size := hx; have := SA.out; omega)); replace K := Lib.hid (K.out.trans hk (fun x hx hg => by have h1 : wa.heap.size ≤ x := hg; have := SA.out; omega)); replace HJ := Lib.hid hj; clear hj hk
  clear F1 F2 FP
  go_wp2
  refine wp_region_canon [0, 1, 2, 3, 4, 5, 6, 7, 8] 9 (fun W => W.cell? ⟨b, 0, none⟩ = some (.pointer (some ⟨p, 0, none⟩)) ∧ W.cell? ⟨N, 0, none⟩ = some (.int .i64 n.lvl) ∧ W.cell? ⟨N, 1, none⟩ = some (.slice X1 n.high.length k1) ∧ W.cell? ⟨N, 2, none⟩ = some (.int .i64 n.right)) (by kernel_rfl) (by kernel_rfl) rfl (by kernel_rfl) (fun _ _ d _ _ h => by cases d <;> exact h) ?_ ?_
  · exact ⟨HJ.out.blk.cell 0, BX.out.cell 0, BX.out.cell 1, BX.out.cell 2⟩
  iterate 7
    refine wpCanon_read (v := ?_) rfl (by kernel_rfl) (by rfl) ?_ ?_
    rotate_left
    · intro W hW
      try (obtain ⟨g1, g2, g3, g4⟩ : _ ∧ _ ∧ _ ∧ _ := hW)
      go_simp
      try rfl
    simp only [Act.put, List.setIfInBounds_toArray, List.set_cons_zero, List.set_cons_succ]
  obtain ⟨hj, hk⟩ : J _ (From wa.heap.size) b p q _ _ ∧ Keeps Nob _ _ := ⟨HJ.out.nob (Keeps.drew Nob _), Keeps.drew Nob _⟩
  replace BX := Lib.hid (BX.out.keeps hk id); replace HN := Lib.hid (HN.out.keeps hk (fun _ _ _ => id)); replace K := Lib.hid (K.out.trans hk (fun _ _ h => h)); replace HJ := Lib.hid hj; clear hj hk
  refine wpCanon_act rfl (by kernel_rfl) ?_
  go_wp2_with (go_at_call 33; refine (F3 _ _ _ _ _ _ _ _ _ HJ.out HN.out.1).mono ?_; rintro e wk ⟨rfl, hj, hk⟩; replace BX := Lib.hid (BX.out.keeps hk (fun hg => absurd HNL.out (Nat.not_lt.2 hg))); replace HN := Lib.hid (HN.out.keeps hk (fun x _ hx hg => by have h1 : wa.heap.size ≤ x := hg; have h2 : x < w.heap.size := hx; have := SA.out; omega)); replace K := Lib.hid (K.out.trans hk (fun x hx hg => by have h1 : wa.heap.size ≤ x := hg; have := SA.out; omega)); replace HJ := Lib.hid hj; clear hj hk)
  refine ⟨.inr ⟨HJ.out.blk.cell 0, BX.out.cell 0, BX.out.cell 1, BX.out.cell 2⟩, ?_⟩
  iterate 1
    refine wpCanon_read (v := ?_) rfl (by kernel_rfl) (by rfl) ?_ ?_
    rotate_left
    · intro W hW
      try (obtain ⟨g1, g2, g3, g4⟩ : _ ∧ _ ∧ _ ∧ _ := hW)
      go_simp
      try rfl
    simp only [Act.put, List.setIfInBounds_toArray, List.set_cons_zero, List.set_cons_succ]
  refine wpCanon_nil ?_
  go_wp2
  refine wp_region_canon [0, 1, 2, 3, 4, 5, 6, 7, 8] 9 (fun W => W.cell? ⟨b, 0, none⟩ = some (.pointer (some ⟨p, 0, none⟩)) ∧ W.cell? ⟨N, 3, none⟩ = some (.slice X3 n.keys.length k3) ∧ W.cell? ⟨N, 4, none⟩ = some (.slice X4 n.vals.length k4) ∧ W.cell? ⟨N, 5, none⟩ = some (.slice X5 n.kids.length k5)) (by kernel_rfl) (by kernel_rfl) rfl (by kernel_rfl) (fun _ _ d _ _ h => by cases d <;> exact h) ?_ ?_
  · exact ⟨HJ.out.blk.cell 0, BX.out.cell 3, BX.out.cell 4, BX.out.cell 5⟩
  iterate 7
    refine wpCanon_read (v := ?_) rfl (by kernel_rfl) (by rfl) ?_ ?_
    rotate_left
    · intro W hW
      try (obtain ⟨g1, g2, g3, g4⟩ : _ ∧ _ ∧ _ ∧ _ := hW)
      go_simp
      try rfl
    simp only [Act.put, List.setIfInBounds_toArray, List.set_cons_zero, List.set_cons_succ]
  obtain ⟨hj, hk⟩ : J _ (From wa.heap.size) b p q _ _ ∧ Keeps Nob _ _ := ⟨HJ.out.nob (Keeps.drew Nob _), Keeps.drew Nob _⟩
  replace BX := Lib.hid (BX.out.keeps hk id); replace HN := Lib.hid (HN.out.keeps hk (fun _ _ _ => id)); replace K := Lib.hid (K.out.trans hk (fun _ _ h => h)); replace HJ := Lib.hid hj; clear hj hk
  refine wpCanon_act rfl (by kernel_rfl) ?_
  go_wp2_with (go_at_call 34; refine (F4 _ _ _ _ _ _ _ _ _ HJ.out HN.out.2).mono ?_; rintro e wk ⟨rfl, hj, hk⟩; replace BX := Lib.hid (BX.out.keeps hk (fun hg => absurd HNL.out (Nat.not_lt.2 hg))); replace HN := Lib.hid (HN.out.keeps hk (fun x _ hx hg => by have h1 : wa.heap.size ≤ x := hg; have h2 : x < w.heap.size := hx; have := SA.out; omega)); replace K := Lib.hid (K.out.trans hk (fun x hx hg => by have h1 : wa.heap.size ≤ x := hg; have := SA.out; omega)); replace HJ := Lib.hid hj; clear hj hk)
  refine ⟨.inr ⟨HJ.out.blk.cell 0, BX.out.cell 3, BX.out.cell 4, BX.out.cell 5⟩, ?_⟩
  iterate 1
    refine wpCanon_read (v := ?_) rfl (by kernel_rfl) (by rfl) ?_ ?_
    rotate_left
    · intro W hW
      try (obtain ⟨g1, g2, g3, g4⟩ : _ ∧ _ ∧ _ ∧ _ := hW)
      go_simp
      try rfl
    simp only [Act.put, List.setIfInBounds_toArray, List.set_cons_zero, List.set_cons_succ]
  refine wpCanon_nil ?_
  go_wp2
  go_loopw [15] (fun i wr => ∃ k : Nat, k ≤ A0.sl.length ∧ i = .int .i64 ((k : Int) + 1) ∧ J wr (From wa.heap.size) b p q A3 A0 ∧ Keeps Nob w wr ∧ Blk wr N 51 #[.int .i64 n.lvl, .slice X1 n.high.length k1, .int .i64 n.right, .slice X3 n.keys.length k3, .slice X4 n.vals.length k4, .slice X5 n.kids.length k5]) (fun i _ => A0.sl.length + 1 - (intOf i).toNat)
  case atStart => exact ⟨0, Nat.zero_le _, rfl, HJ.out, K.out, BX.out⟩
  obtain ⟨k, hk, rfl, hj, hkr, hbx⟩ := hrel
  replace HJ := Lib.hid hj
  replace HN := Lib.hid (HN0.out.keeps hkr (fun _ _ _ => id))
  replace K := Lib.hid hkr
  replace BX := Lib.hid hbx
  clear hj hkr hbx
  have hlen64 := HJ.out.bound.2
  rcases Nat.lt_or_ge k A0.sl.length with hlt | hlt
  · obtain ⟨e3, e4, e5⟩ := HND ((k : Int) + 1) (by omega) (by omega)
    obtain ⟨s, hg⟩ := get_in (A := A0) (id := (k : Int) + 1) (by omega) (by omega)
    have hsnd : opNd A0 ((k : Int) + 1) = s.nd := opNd_some hg
    have FH := fun wx G b p q (hj : J wx G b p q A3 A0) => hj.headX (ix := (k : Int) + 1)
    have FB := fun wx G b p q (hj : J wx G b p q A3 A0) => hj.bodyX (ix := (k : Int) + 1)
    have FY := fun wx G b p q (hj : J wx G b p q A3 A0) => hj.slotY hg
    have HLT : Hid (k < A0.sl.length) := hlt
    rw [e3] at FH FB
    rw [hsnd] at e5
    clear e3 hsnd hg
    generalize opNd A3 ((k : Int) + 1) = m at *
    have E4 := Lib.hid e4
    have E5 := Lib.hid e5
    clear e4 e5
    unfold pV iV at FH FB
    have r0 := HJ.out.blk.cell 0
    have r1 := HJ.out.blk.cell 1
    unfold pV at r0 r1
    go_wp2_with fail
    refine (FU _ _ _ _ _ _ HJ.out).mono ?_
    rintro e w' ⟨rfl, rfl⟩
    have hle : (k : Int) + 1 ≤ A0.sl.length := by omega
    go_wp2_with fail
    clear r0 r1
    refine (FH _ _ _ _ _ HJ.out).mono ?_
    rintro e w1 ⟨d0, d1, d2, rfl, ho, hj, hk⟩
    have f0 := ho.lvl
    obtain ⟨A1, j1, f1⟩ := Own.form ho.high
    have f2 := ho.right
    unfold iV at f0 f2
    subst f0 f1 f2
    have HH := Lib.hid ho.r
    replace BX := Lib.hid (BX.out.keeps hk id); replace HN := Lib.hid (HN.out.keeps hk (fun _ _ _ => id)); replace K := Lib.hid (K.out.trans hk (fun _ _ h => h)); replace HJ := Lib.hid hj; clear hj hk
    clear ho
    have r0 := HJ.out.blk.cell 0
    have rl := HJ.out.blk.lt
    unfold pV at r0
    go_wp2_with fail
    clear r0 rl
    refine calls_at (fun w2 hw => ?_)
    obtain ⟨NH, hN⟩ : ∃ N, w1.heap.size = N := ⟨_, rfl⟩
    have hk : Keeps Nob w1 w2 := by rw [hw]; exact Keeps.alloc _ _ _
    have BH : Hid (Blk w2 NH 46 #[.int .i64 m.lvl, .slice A1 m.high.length j1, .int .i64 m.right]) := by rw [hw, ← hN]; exact Blk.new _ _ _
    rw [hN]
    have hj := HJ.out.nob hk
    replace HH := Lib.hid (HH.out.keeps hk (fun _ _ _ => id))
    clear hw hN
    replace BX := Lib.hid (BX.out.keeps hk id); replace HN := Lib.hid (HN.out.keeps hk (fun _ _ _ => id)); replace K := Lib.hid (K.out.trans hk (fun _ _ h => h)); replace HJ := Lib.hid hj; clear hj hk
    refine (FB _ _ _ _ _ HJ.out).mono ?_
    rintro e w3 ⟨d0, d1, d2, rfl, ho, hj, hk⟩
    obtain ⟨B3, j3, f0⟩ := OTx.form ho.keys
    obtain ⟨B4, j4, f1⟩ := OTx.form ho.vals
    obtain ⟨B5, j5, f2⟩ := Own.form ho.kids
    subst f0 f1 f2
    have HC := Lib.hid ho.r
    replace HH := Lib.hid (HH.out.keeps hk (fun _ _ _ => id))
    replace BH := Lib.hid (BH.out.keeps hk id)
    replace BX := Lib.hid (BX.out.keeps hk id); replace HN := Lib.hid (HN.out.keeps hk (fun _ _ _ => id)); replace K := Lib.hid (K.out.trans hk (fun _ _ h => h)); replace HJ := Lib.hid hj; clear hj hk
    clear ho
    obtain ⟨i, g, o, c, c0, c1, c2, c3, c4, c5, D, hid, hi, ca, hc0, hc1, hc2, hc3, hc4, hc5, hnd⟩ := FY _ _ _ _ _ HJ.out
    obtain rfl : k = i := by omega
    have k0 := hnd.1.lvl
    obtain ⟨Z1, z1, ez1, _, _⟩ := hnd.1.high.form
    have k2 := hnd.1.right
    obtain ⟨Z3, z3, ez3, _, _⟩ := hnd.2.keys.form
    obtain ⟨Z4, z4, ez4, _, _⟩ := hnd.2.vals.form
    obtain ⟨Z5, z5, ez5, _, _⟩ := hnd.2.kids.form
    unfold iV at k0 k2
    subst k0 ez1 k2 ez3 ez4 ez5
    have HS := Lib.hid hnd
    clear hnd hid
    have r1 := HJ.out.blk.cell 1
    have rl := HJ.out.blk.lt
    have rg := World.block_lt_of_cell? _ _ hc0
    have rq := World.block_lt_of_cell? _ _ ca
    have bl := BX.out.lt
    have bq := fun i => BX.out.cell i
    have hl := BH.out.lt
    have hq := fun i => BH.out.cell i
    unfold pV at r1
    by_cases hik : (k : Int) + 1 = 1 + pn
    · have hik' : ((k : Int) + 1 == 1 + pn) = true := by simpa using hik
      have htn : (1 + pn).toNat - 1 = k := by omega
      have hmn := E4.out hik
      subst hmn
      go_wp2_with fail
      refine calls_at (fun w4 hw => ?_)
      have hk4 : Keeps Nob w3 w4 := by
        rw [hw]
        exact (Keeps.alloc _ _ _).alloc' _
      have bx4 := BX.out.keeps hk4 id
      clear hw r1 rl rg rq bl bq hl hq
      have hsn := sameN (n := n) (m := n) ⟨(HH.out.keeps hk4 (fun _ _ _ => id)).mono (T := fun _ => True) (fun _ _ _ => trivial), (HC.out.keeps hk4 (fun _ _ _ => id)).mono (fun _ _ _ => trivial)⟩ (HN.out.keeps hk4 (fun _ _ _ => id))
      rw [sameNd_self] at hsn
      have hj := HJ.out.nob hk4
      replace K := Lib.hid (K.out.trans hk4 (fun _ _ h => h))
      replace HJ := Lib.hid hj
      replace BX := Lib.hid bx4
      clear hj bx4 hk4
      refine hsn.mono ?_
      rintro e w5 ⟨rfl, hk⟩
      have hj := HJ.out.nob hk
      replace K := Lib.hid (K.out.trans hk (fun _ _ h => h))
      replace BX := Lib.hid (BX.out.keeps hk id)
      replace HJ := Lib.hid hj
      clear hj hk hsn
      go_wp2
      go_roundw
      case rel => exact ⟨k + 1, HLT.out, by go_num, HJ.out, K.out, BX.out⟩
      case measure => have := HLT.out; simp [intOf]; omega
    · have hik' : ((k : Int) + 1 == 1 + pn) = false := by simpa using hik
      have hmn := E5.out hik
      subst hmn
      go_wp2_with fail
      refine calls_at (fun w4 hw => ?_)
      have hk4 : Keeps Nob w3 w4 := by
        rw [hw]
        exact (Keeps.alloc _ _ _).alloc' _
      have bx4 := BX.out.keeps hk4 id
      clear hw r1 rl rg rq bl bq hl hq
      have hsn := sameN (n := s.nd) (m := s.nd) ⟨(HH.out.keeps hk4 (fun _ _ _ => id)).mono (T := fun _ => True) (fun _ _ _ => trivial), (HC.out.keeps hk4 (fun _ _ _ => id)).mono (fun _ _ _ => trivial)⟩ (HS.out.keeps hk4 (fun _ _ _ => id))
      rw [sameNd_self] at hsn
      have hj := HJ.out.nob hk4
      replace K := Lib.hid (K.out.trans hk4 (fun _ _ h => h))
      replace HJ := Lib.hid hj
      replace BX := Lib.hid bx4
      clear hj bx4 hk4
      refine hsn.mono ?_
      rintro e w5 ⟨rfl, hk⟩
      have hj := HJ.out.nob hk
      replace K := Lib.hid (K.out.trans hk (fun _ _ h => h))
      replace BX := Lib.hid (BX.out.keeps hk id)
      replace HJ := Lib.hid hj
      clear hj hk hsn
      go_wp2
      go_roundw
      case rel => exact ⟨k + 1, HLT.out, by go_num, HJ.out, K.out, BX.out⟩
      case measure => have := HLT.out; simp [intOf]; omega
  have e : k = A0.sl.length := by omega
  have hle : decide ((k : Int) + 1 ≤ A0.sl.length) = false := by simp; omega
  have hnle : ¬ ((k : Int) + 1 ≤ A0.sl.length) := by omega
  have r0 := HJ.out.blk.cell 0
  have r1 := HJ.out.blk.cell 1
  unfold pV at r0 r1
  go_wp2_with fail
  refine (FU _ _ _ _ _ _ HJ.out).mono ?_
  rintro e w' ⟨rfl, rfl⟩
  go_wp2
  refine wp_region_canon [0, 1, 2, 3, 5, 6, 7, 8, 4, 9, 10, 11] 12 (fun W => W.cell? ⟨b, 0, none⟩ = some (.pointer (some ⟨p, 0, none⟩)) ∧ W.cell? ⟨b, 1, none⟩ = some (.pointer (some ⟨q, 0, none⟩))) (by kernel_rfl) (by kernel_rfl) rfl (by kernel_rfl) (fun _ _ d _ _ h => by cases d <;> exact h) ?_ ?_
  · exact ⟨r0, r1⟩
  iterate 8
    refine wpCanon_read (v := ?_) rfl (by kernel_rfl) (by rfl) ?_ ?_
    rotate_left
    · intro W hW
      try (obtain ⟨g1, g2⟩ : _ ∧ _ := hW)
      go_simp
      try rfl
    simp only [Act.put, List.setIfInBounds_toArray, List.set_cons_zero, List.set_cons_succ]
  obtain ⟨hj, hk⟩ : J _ (From wa.heap.size) b p q _ _ ∧ Keeps Nob _ _ := ⟨HJ.out.nob (Keeps.drew Nob _), Keeps.drew Nob _⟩
  replace BX := Lib.hid (BX.out.keeps hk id); replace HN := Lib.hid (HN.out.keeps hk (fun _ _ _ => id)); replace K := Lib.hid (K.out.trans hk (fun _ _ h => h)); replace HJ := Lib.hid hj; clear hj hk
  have HR1 := Lib.hid (HJ.out.rootX)
  have HR2 := Lib.hid (HJ.out.rootR)
  rw [HRO.out] at HR1
  unfold pV iV at HR1 HR2
  refine wpCanon_act rfl (by kernel_rfl) ?_
  go_wp2_with (go_at_call 24; refine HR1.out.mono ?_; rintro e wk ⟨rfl, rfl⟩)
  refine ⟨.inr ⟨HJ.out.blk.cell 0, HJ.out.blk.cell 1⟩, ?_⟩
  refine wpCanon_act rfl (by kernel_rfl) ?_
  go_wp2_with (go_at_call 35; refine HR2.out.mono ?_; rintro e wk ⟨rfl, rfl⟩)
  refine ⟨.inr ⟨HJ.out.blk.cell 0, HJ.out.blk.cell 1⟩, ?_⟩
  iterate 2
    refine wpCanon_read (v := ?_) rfl (by kernel_rfl) (by rfl) ?_ ?_
    rotate_left
    · intro W hW
      try (obtain ⟨g1, g2⟩ : _ ∧ _ := hW)
      go_simp
      try rfl
    simp only [Act.put, List.setIfInBounds_toArray, List.set_cons_zero, List.set_cons_succ]
  refine wpCanon_nil ?_
  go_wp2
  go_ret
  exact ⟨by simp, K.out⟩

theorem withHd_two (a n : Nd) : withHd n (withHd a n) = n := by cases n; rfl
theorem apart_ok {di : Int} {c0 c1 c2 c3 c4 c5 : Value} {n : Nd} (h : OpsAt w w.heap.size v os) (hid : I64 di) (hn : IsNd w (fun x => x < w.heap.size) c0 c1 c2 c3 c4 c5 n) (hz : NdSm 64 n) :
    Calls Try.prog 6 #[v, iV di, .agg #[c0, c1, c2, c3, c4, c5]] w fun e w' => e = .returned (.bool true) ∧ Keeps Nob w w' := by
  replace hz : NdSm 0 n := hz.mono (by decide)
  obtain ⟨A0, hA⟩ : ∃ A0, steps (ar0 20) os = A0 := ⟨_, rfl⟩
  have hlen : 1 ≤ A0.sl.length := by rw [← hA]; exact len_steps (ar0 20) os
  obtain ⟨hp1, hp2⟩ := pk_range di (A0.sl.length : Int) (by omega)
  obtain ⟨ix, hix⟩ : ∃ ix, ix = 1 + pk di A0.sl.length := ⟨_, rfl⟩
  obtain ⟨s, hs⟩ := get_in (A := A0) (id := ix) (by omega) (by omega)
  have hws : U64 s.word := by
    obtain ⟨i, _, h2, _⟩ := get_some hs
    have := u64_steps (ar0 20) os (by intro s hs; simp [ar0] at hs; subst hs; unfold U64; decide)
    rw [hA] at this
    exact this s (List.mem_of_getElem? h2)
  obtain ⟨took, x1, A1, hl, hs1, ho1, hcase⟩ := lock_own hs
  have hs2 := put_get hs1 ⟨x1, withHd s.nd n⟩
  have h1 : 1 ≤ ix := (get_le hs).1
  have hlen1 : A1.sl.length = A0.sl.length := by
    rcases hcase with ⟨_, _, _, e⟩ | ⟨_, _, _, e⟩
    · rw [e]; exact put_len' _ _ _
    · rw [e]
  have hroot : A1.root = A0.root := by
    rcases hcase with ⟨_, _, _, e⟩ | ⟨_, _, _, e⟩
    · rw [e]; rfl
    · rw [e]
  have hget : ∀ j, j ≠ ix → A1.get j = A0.get j := fun j hj => by
    rcases hcase with ⟨_, _, _, e⟩ | ⟨_, _, _, e⟩
    · rw [e]; exact get_put_ne h1 hj
    · rw [e]
  refine apart_core (A0 := A0) (A1 := A1) (A2 := A1.put ix ⟨x1, withHd s.nd n⟩) (A3 := (A1.put ix ⟨x1, withHd s.nd n⟩).put ix ⟨x1, withHd n (withHd s.nd n)⟩) (wd := s.word) (took := took) h hid hn hA hix hlen ?_ ?_ ?_ ?_ ?_ hroot
  · intro wx G b p q hj
    have := hj.wordX (ix := ix)
    rwa [opWord_some hs, opErr_some hs] at this
  · intro wx G b p q hj
    have := hj.lockX (ix := ix) hws
    rwa [hl] at this
  · intro wx G b p q S a0 a1 a2 hj hh
    have := hj.setHeadX (ix := ix) hh hz
    rwa [setHead_held hs1 ho1] at this
  · intro wx G b p q S a0 a1 a2 hj hh
    have := hj.setBodyX (ix := ix) hh hz
    rwa [setBody_held hs2 ho1] at this
  · intro i g1 g2
    have hs3 := put_get hs2 ⟨x1, withHd n (withHd s.nd n)⟩
    by_cases hi : i = ix
    · subst hi
      refine ⟨opErr_some hs3, fun _ => ?_, fun h => absurd rfl h⟩
      rw [opNd_some hs3, withHd_two]
    · obtain ⟨t, ht⟩ := get_in (A := A0) g1 g2
      have e3 : ((A1.put ix ⟨x1, withHd s.nd n⟩).put ix ⟨x1, withHd n (withHd s.nd n)⟩).get i = some t := by
        rw [get_put_ne h1 hi, get_put_ne h1 hi, hget i hi, ht]
      exact ⟨opErr_some e3, fun h => absurd h hi, fun _ => by rw [opNd_some e3, opNd_some ht]⟩
end
end Go.Proofs.Ytdmmhblmgbhgfaa
