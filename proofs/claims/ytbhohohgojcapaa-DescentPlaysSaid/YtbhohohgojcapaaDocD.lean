/- What the methods SetHead and SetBody of the document's arena do. -/
import Derived.Test.YtbhohohgojcapaaDocC
namespace Go.Proofs.Ytbhohohgojcapaa
open Go.RowKit

section
variable {M D : Nat → Prop} {w : World} {q : Nat} {L : Value} {xs : List Value} {A : Ar} {ix : Int} {s : Sl}

theorem DocW.set3 {g o c i k : Nat} (h : DocW w M D q (.slice (some ⟨g, o, none⟩) A.sl.length c) xs A) (hs : A.sl[i]? = some s) (hk1 : 1 ≤ k) (hk2 : k ≤ 4) (v0 v1 v2 : Value) {s' : Sl} :
    let w' := ((w.setCell ⟨g, o + (i * 7 + k), none⟩ v0).setCell ⟨g, o + (i * 7 + k + 1), none⟩ v1).setCell ⟨g, o + (i * 7 + k + 2), none⟩ v2
    let ys := ((xs.set (i * 7 + k) v0).set (i * 7 + k + 1) v1).set (i * 7 + k + 2) v2
    M g ∧ Keeps (fun x => x = g) w w' ∧ (SlotIn w' D ys i s' → DocW w' M D q (.slice (some ⟨g, o, none⟩) A.sl.length c) ys { A with sl := A.sl.set i s' }) := by
  intro w' ys
  have hlt : i < A.sl.length := (List.getElem?_eq_some_iff.1 hs).1
  have hxl := h.xlen
  obtain ⟨g', o', c', e, hm, ⟨cur, hb⟩, _⟩ := h.form (by omega)
  injection e with e1 _ e3
  injection e1 with e1
  injection e1 with e1 e2
  subst e1 e2 e3
  have k1 : Keeps (fun y => y = g) w w' := ((Keeps.setCell w (M := fun y => y = g) rfl _).setCell' (fun _ => rfl) _).setCell' (fun _ => rfl) _
  refine ⟨hm, k1, fun hn => ?_⟩
  have o1 := h.row.putC (j := i * 7 + k) (by omega) v0
  have o2 := o1.putC (j := i * 7 + k + 1) (by simp; omega) v1
  have o3 := o2.putC (j := i * 7 + k + 2) (by simp; omega) v2
  refine h.put hb hm hs k1 o3 (fun j hj => ?_) hn
  rw [List.getElem?_set_ne (by omega), List.getElem?_set_ne (by omega), List.getElem?_set_ne (by omega)]

/-- The head of a slot has been written. -/
theorem DocW.setHd {g o c i : Nat} {v0 v1 v2 : Value} {n : Nd} (h : DocW w M D q (.slice (some ⟨g, o, none⟩) A.sl.length c) xs A) (hs : A.sl[i]? = some s) (hn : IsHd w D v0 v1 v2 n) {w' : World}
    (hw : w' = ((w.setCell ⟨g, o + i * 7 + 1, none⟩ v0).setCell ⟨g, o + i * 7 + 2, none⟩ v1).setCell ⟨g, o + i * 7 + 3, none⟩ v2) :
    M g ∧ Keeps (fun x => x = g) w w' ∧ ∃ ys, DocW w' M D q (.slice (some ⟨g, o, none⟩) A.sl.length c) ys { A with sl := A.sl.set i ⟨s.word, withHd s.nd n⟩ } := by
  have hlt : i < A.sl.length := (List.getElem?_eq_some_iff.1 hs).1
  have hxl := h.xlen
  obtain ⟨hm, k1, H⟩ := h.set3 hs (k := 1) (by omega) (by omega) v0 v1 v2 (s' := ⟨s.word, withHd s.nd n⟩)
  have e : w' = ((w.setCell ⟨g, o + (i * 7 + 1), none⟩ v0).setCell ⟨g, o + (i * 7 + 1 + 1), none⟩ v1).setCell ⟨g, o + (i * 7 + 1 + 2), none⟩ v2 := hw
  rw [← e] at H k1
  refine ⟨hm, k1, _, H ?_⟩
  obtain ⟨c0, c1, c2, c3, c4, c5, h0, h1, h2, h3, h4, h5, h6, h7, h8⟩ := h.slot i s hs
  have hg : ∀ x, x < w.heap.size → D x → ¬ x = g := fun x _ hd e => by subst e; exact h.apart _ hm hd
  have hn' := hn.keeps k1 hg
  have h7' := h7.keeps k1 hg
  refine ⟨v0, v1, v2, c3, c4, c5, ?_, ?_, ?_, ?_, ?_, ?_, ?_, ⟨⟨hn'.lvl, hn'.high, hn'.right⟩, h7'.2.keys, h7'.2.vals, h7'.2.kids⟩, h8⟩
  · rw [List.getElem?_set_ne (by omega), List.getElem?_set_ne (by omega), List.getElem?_set_ne (by omega)]; exact h0
  · rw [List.getElem?_set_ne (by omega), List.getElem?_set_ne (by omega), List.getElem?_set_self (by omega)]
  · rw [List.getElem?_set_ne (by omega), List.getElem?_set_self (by simp; omega)]
  · rw [List.getElem?_set_self (by simp; omega)]
  · rw [List.getElem?_set_ne (by omega), List.getElem?_set_ne (by omega), List.getElem?_set_ne (by omega)]; exact h4
  · rw [List.getElem?_set_ne (by omega), List.getElem?_set_ne (by omega), List.getElem?_set_ne (by omega)]; exact h5
  · rw [List.getElem?_set_ne (by omega), List.getElem?_set_ne (by omega), List.getElem?_set_ne (by omega)]; exact h6
/-- The body of a slot has been written. -/
theorem DocW.setBd {g o c i : Nat} {v0 v1 v2 : Value} {n : Nd} (h : DocW w M D q (.slice (some ⟨g, o, none⟩) A.sl.length c) xs A) (hs : A.sl[i]? = some s) (hn : IsBd w D v0 v1 v2 n) {w' : World}
    (hw : w' = ((w.setCell ⟨g, o + i * 7 + 4, none⟩ v0).setCell ⟨g, o + i * 7 + 5, none⟩ v1).setCell ⟨g, o + i * 7 + 6, none⟩ v2) :
    M g ∧ Keeps (fun x => x = g) w w' ∧ ∃ ys, DocW w' M D q (.slice (some ⟨g, o, none⟩) A.sl.length c) ys { A with sl := A.sl.set i ⟨s.word, withHd n s.nd⟩ } := by
  have hlt : i < A.sl.length := (List.getElem?_eq_some_iff.1 hs).1
  have hxl := h.xlen
  obtain ⟨hm, k1, H⟩ := h.set3 hs (k := 4) (by omega) (by omega) v0 v1 v2 (s' := ⟨s.word, withHd n s.nd⟩)
  have e : w' = ((w.setCell ⟨g, o + (i * 7 + 4), none⟩ v0).setCell ⟨g, o + (i * 7 + 4 + 1), none⟩ v1).setCell ⟨g, o + (i * 7 + 4 + 2), none⟩ v2 := hw
  rw [← e] at H k1
  refine ⟨hm, k1, _, H ?_⟩
  obtain ⟨c0, c1, c2, c3, c4, c5, h0, h1, h2, h3, h4, h5, h6, h7, h8⟩ := h.slot i s hs
  have hg : ∀ x, x < w.heap.size → D x → ¬ x = g := fun x _ hd e => by subst e; exact h.apart _ hm hd
  have hn' := hn.keeps k1 hg
  have h7' := h7.keeps k1 hg
  refine ⟨c0, c1, c2, v0, v1, v2, ?_, ?_, ?_, ?_, ?_, ?_, ?_, ⟨⟨h7'.1.lvl, h7'.1.high, h7'.1.right⟩, hn'.keys, hn'.vals, hn'.kids⟩, h8⟩
  · rw [List.getElem?_set_ne (by omega), List.getElem?_set_ne (by omega), List.getElem?_set_ne (by omega)]; exact h0
  · rw [List.getElem?_set_ne (by omega), List.getElem?_set_ne (by omega), List.getElem?_set_ne (by omega)]; exact h1
  · rw [List.getElem?_set_ne (by omega), List.getElem?_set_ne (by omega), List.getElem?_set_ne (by omega)]; exact h2
  · rw [List.getElem?_set_ne (by omega), List.getElem?_set_ne (by omega), List.getElem?_set_ne (by omega)]; exact h3
  · rw [List.getElem?_set_ne (by omega), List.getElem?_set_ne (by omega), List.getElem?_set_self (by omega)]
  · rw [List.getElem?_set_ne (by omega), List.getElem?_set_self (by simp; omega)]
  · rw [List.getElem?_set_self (by simp; omega)]

set_option maxRecDepth 100000 in
set_option maxHeartbeats 800000 in
theorem setHeadR {S : Nat → Prop} {a0 a1 a2 : Value} {n : Nd} (h : DocW w M D q L xs A) (hh : IsHd w S a0 a1 a2 n) (hsm : NdSm 0 n) : Calls Try.prog 51 #[pV q, iV ix, .agg #[a0, a1, a2]] w fun e w' => e = .returned (iV (opSetHead A ix n).1) ∧ DocS w w' M (DF D w w') q (opSetHead A ix n).2 ∧ Keeps M w w' := by
  obtain ⟨X1, k1, e1, _, _⟩ := hh.high.form
  have e0 := hh.lvl
  have e2 := hh.right
  unfold iV at e0 e2
  subst e0 e1 e2
  rcases held_cases A ix with ⟨h0, s, hg, he⟩ | ⟨hn, hn'⟩
  · have hx : opSetHead A ix n = (0, A.put ix ⟨s.word, withHd s.nd n⟩) := by unfold opSetHead; rw [hg]; simp [he]
    rw [hx]
    have HA := Lib.hid h
    have HG := Lib.hid hg
    have HN := Lib.hid hh
    have HS : Hid (NdSm 0 n) := hsm
    have H0 : Hid (opHeld A ix = 0) := h0
    clear h h0 hg he hx hh hsm
    unfold pV iV
    go_enter Try.func51, Try.ntmps51
    go_wp2_with fail
    refine calls_at (fun wa hw => ?_)
    have hk : Keeps Nob w wa := by rw [hw]; exact Keeps.alloc _ _ _
    have BR : Hid (Blk wa w.heap.size 33 #[.int .i64 n.lvl, .slice X1 n.high.length k1, .int .i64 n.right]) := by rw [hw]; exact Blk.new _ _ _
    have H := Lib.hid (heldR (ix := ix) (HA.out.keeps hk (fun _ _ _ => id) (fun _ _ _ => id)))
    rw [H0.out] at H
    replace HN := Lib.hid (HN.out.keeps hk (fun _ _ _ => id))
    have K := Lib.hid hk
    have sza := hk.size
    have ltR := BR.out.lt
    clear hw hk
    unfold pV iV at H
    refine H.out.mono ?_
    rintro e w' ⟨rfl, rfl⟩
    have q2 := fun i => BR.out.cell i
    go_wp2_with fail
    clear q2
    refine (cloneR (n := (⟨n.lvl, n.high, n.right, [], [], []⟩ : Nd)) (S := S) ⟨⟨rfl, HN.out.high, rfl⟩, ⟨[], SlR.nil _ _ _ _ (by decide), rfl, fun i u x h => by simp at h⟩, ⟨[], SlR.nil _ _ _ _ (by decide), rfl, fun i u x h => by simp at h⟩, SlR.nil _ _ _ _ (by decide)⟩ ⟨HS.out.1, ⟨by simp [Sm], fun x hx => by simp at hx⟩, ⟨by simp [Sm], fun x hx => by simp at hx⟩, by simp [Sm]⟩).mono ?_
    rintro e wb ⟨d0, d1, d2, d3, d4, d5, rfl, hO, hk, _⟩
    have f0 := hO.1.lvl
    obtain ⟨Y1, j1, f1⟩ := Own.form hO.1.high
    have f2 := hO.1.right
    unfold iV at f0 f2
    obtain ⟨Y3, j3, f3⟩ := OTx.form hO.2.keys
    obtain ⟨Y4, j4, f4⟩ := OTx.form hO.2.vals
    obtain ⟨Y5, j5, f5⟩ := Own.form hO.2.kids
    subst f0 f1 f2 f3 f4 f5
    replace K := Lib.hid (K.out.trans hk (fun _ _ h => h))
    have szb := hk.size
    have HO := Lib.hid hO
    clear hO hk
    go_wp2_with fail
    refine code_at (fun wc hw => ?_)
    have hk : Keeps Nob wb wc := by rw [hw]; exact Keeps.alloc _ _ _
    have BN : Hid (Blk wc wb.heap.size 37 #[.int .i64 n.lvl, .slice Y1 n.high.length j1, .int .i64 n.right, .slice Y3 0 j3, .slice Y4 0 j4, .slice Y5 0 j5]) := by rw [hw]; exact Blk.new _ _ _
    replace HO := Lib.hid (HO.out.keeps hk (fun _ _ _ => id))
    replace K := Lib.hid (K.out.trans hk (fun _ _ h => h))
    have szc := hk.size
    have hac := HA.out.grown K.out
    obtain ⟨i, g, o, c, c0, c1, c2, c3, c4, c5, hid, hs, h3, hi, hl, rfl, hm, hgb, hc0, hc1, hc2, hc3, hc4, hc5, hnd⟩ := hac.nd_ HG.out
    have ca : wc.cell? ⟨q, 1, none⟩ = some (.slice (some ⟨g, o, none⟩) A.sl.length c) := hac.blk.cell 1
    have h1 : 1 ≤ ix := by omega
    have h2 : ix ≤ A.sl.length := by omega
    have h3' : ix.toNat - 1 = i := by omega
    obtain ⟨cur, hgb'⟩ := hgb
    have GF := fun i => hgb'.frozen i
    have HAC := Lib.hid hac
    have HSI : Hid (A.sl[i]? = some s) := hs
    have HI := Lib.hid h3
    have hwr : IntKind.i64.wrap (ix - 1) = (i : Int) := by rw [IntKind.wrap_i64]; omega
    have hpos : 0 ≤ (i : Int) ∧ (i : Int) < (A.sl.length : Int) := by omega
    clear hw hk hac hs hm hgb' hnd hid HA
    refine wp_region_canon [0, 1, 2, 3, 4, 5, 6, 7, 8, 9, 10, 11] 11 (fun W => W.cell? ⟨q, 1, none⟩ = some (.slice (some ⟨g, o, none⟩) A.sl.length c) ∧ W.cell? ⟨wb.heap.size, 0, none⟩ = some (.int .i64 n.lvl) ∧ W.cell? ⟨wb.heap.size, 1, none⟩ = some (.slice Y1 n.high.length j1) ∧ W.cell? ⟨wb.heap.size, 2, none⟩ = some (.int .i64 n.right)) (by kernel_rfl) (by kernel_rfl) rfl (by kernel_rfl) (fun _ _ d _ _ h => by cases d <;> exact h) ?_ ?_
    · exact ⟨ca, BN.out.cell 0, BN.out.cell 1, BN.out.cell 2⟩
    iterate 11
      refine wpCanon_read (v := ?_) rfl (by kernel_rfl) (by rfl) ?_ ?_
      rotate_left
      · intro W hW
        try (obtain ⟨h1, h2, h3, h4⟩ : _ ∧ _ ∧ _ ∧ _ := hW)
        go_simp
        try simp only [hwr, if_pos hpos, Int.toNat_natCast]
        try rfl
      simp only [Act.put, List.setIfInBounds_toArray, List.set_cons_zero, List.set_cons_succ]
    refine wpCanon_act rfl (by kernel_rfl) ?_
    go_wp2
    refine ⟨.inl (by kernel_rfl), wpCanon_nil ?_⟩
    go_wp2
    refine post_at (fun wd hw => ?_)
    have hnn : IsHd wc (DF D w wc) (.int .i64 n.lvl) (.slice Y1 n.high.length j1) (.int .i64 n.right) n := ⟨rfl, (HO.out.1.high.mono (fun b _ hb => .inr ⟨by have := hb.1; omega, by have := hb.2; omega⟩) : OBy wc (DF D w wc) _ _).r, rfl⟩
    obtain ⟨hm, hk2, ys, hD⟩ := HAC.out.setHd HSI.out hnn rfl
    have hsz : wd.heap.size = wc.heap.size := by rw [hw]; simp
    have hk3 := hk2.drew'
    replace hD := hD.keeps (Keeps.drew Nob _) (fun _ _ _ => id) (fun _ _ _ => id)
    have hw' : wd = (((wc.setCell ⟨g, o + i * 7 + 1, none⟩ (.int .i64 n.lvl)).setCell ⟨g, o + i * 7 + 2, none⟩ (.slice Y1 n.high.length j1)).setCell ⟨g, o + i * 7 + 3, none⟩ (.int .i64 n.right)).drew := hw
    rw [← hw'] at hk3 hD
    have hdf : DF D w wc = DF D w wd := by unfold DF Fresh; rw [hsz]
    rw [hdf] at hD
    have hfin : DocS w wd M (DF D w wd) q (A.put ix ⟨s.word, withHd s.nd n⟩) := by unfold Ar.put; rw [HI.out]; exact ⟨_, ys, hD⟩
    clear hw hw' hnn hk2
    go_ret
    refine ⟨rfl, hfin, (K.out.mono (fun _ _ h => h.elim)).trans hk3 (fun b hb e => by have h2 : b = _ := e; subst h2; exact hm)⟩
  · rw [opSetHead_no hn]
    have HA := Lib.hid h
    have hn2 : (opHeld A ix == 0) = false := by simp [hn]
    have HU := fun (wq : World) (hq : Keeps Nob w wq) => Lib.hid (heldR (ix := ix) (h.keeps hq (fun _ _ _ => id) (fun _ _ _ => id)))
    clear h hn hn' hh hsm
    show Calls _ _ _ _ (fun e w' => e = .returned (iV (opHeld A ix)) ∧ DocS w w' M (DF D w w') q A ∧ Keeps M w w')
    generalize opHeld A ix = ob at *
    unfold pV iV at *
    go_enter Try.func51, Try.ntmps51
    go_wp2_with fail
    refine calls_at (fun wa hw => ?_)
    have hk : Keeps Nob w wa := by rw [hw]; exact Keeps.alloc _ _ _
    have H := HU wa hk
    have K := Lib.hid hk
    clear hw hk HU
    refine H.out.mono ?_
    rintro e w' ⟨rfl, rfl⟩
    go_wp2
    go_ret
    exact ⟨rfl, ⟨_, _, HA.out.grown K.out⟩, K.out.mono (fun _ _ h => h.elim)⟩

set_option maxRecDepth 100000 in
set_option maxHeartbeats 800000 in
theorem setBodyR {S : Nat → Prop} {a0 a1 a2 : Value} {n : Nd} (h : DocW w M D q L xs A) (hh : IsBd w S a0 a1 a2 n) (hsm : NdSm 0 n) : Calls Try.prog 53 #[pV q, iV ix, .agg #[a0, a1, a2]] w fun e w' => e = .returned (iV (opSetBody A ix n).1) ∧ DocS w w' M (DF D w w') q (opSetBody A ix n).2 ∧ Keeps M w w' := by
  obtain ⟨X3, k3, e3, _, _⟩ := hh.keys.form
  obtain ⟨X4, k4, e4, _, _⟩ := hh.vals.form
  obtain ⟨X5, k5, e5, _, _⟩ := hh.kids.form
  subst e3 e4 e5
  rcases held_cases A ix with ⟨h0, s, hg, he⟩ | ⟨hn, hn'⟩
  · have hx : opSetBody A ix n = (0, A.put ix ⟨s.word, withHd n s.nd⟩) := by unfold opSetBody; rw [hg]; simp [he]
    rw [hx]
    have HA := Lib.hid h
    have HG := Lib.hid hg
    have HN := Lib.hid hh
    have HS : Hid (NdSm 0 n) := hsm
    have H0 : Hid (opHeld A ix = 0) := h0
    clear h h0 hg he hx hh hsm
    unfold pV iV
    go_enter Try.func53, Try.ntmps53
    go_wp2_with fail
    refine calls_at (fun wa hw => ?_)
    have hk : Keeps Nob w wa := by rw [hw]; exact Keeps.alloc _ _ _
    have BR : Hid (Blk wa w.heap.size 35 #[.slice X3 n.keys.length k3, .slice X4 n.vals.length k4, .slice X5 n.kids.length k5]) := by rw [hw]; exact Blk.new _ _ _
    have H := Lib.hid (heldR (ix := ix) (HA.out.keeps hk (fun _ _ _ => id) (fun _ _ _ => id)))
    rw [H0.out] at H
    replace HN := Lib.hid (HN.out.keeps hk (fun _ _ _ => id))
    have K := Lib.hid hk
    have sza := hk.size
    have ltR := BR.out.lt
    clear hw hk
    unfold pV iV at H
    refine H.out.mono ?_
    rintro e w' ⟨rfl, rfl⟩
    have q2 := fun i => BR.out.cell i
    go_wp2_with fail
    clear q2
    refine (cloneR (n := (⟨0, [], 0, n.keys, n.vals, n.kids⟩ : Nd)) (S := S) ⟨⟨rfl, SlR.nil _ _ _ _ (by decide), rfl⟩, ⟨HN.out.keys, HN.out.vals, HN.out.kids⟩⟩ ⟨by simp [Sm], HS.out.2⟩).mono ?_
    rintro e wb ⟨d0, d1, d2, d3, d4, d5, rfl, hO, hk, _⟩
    have f0 := hO.1.lvl
    obtain ⟨Y1, j1, f1⟩ := Own.form hO.1.high
    have f2 := hO.1.right
    unfold iV at f0 f2
    obtain ⟨Y3, j3, f3⟩ := OTx.form hO.2.keys
    obtain ⟨Y4, j4, f4⟩ := OTx.form hO.2.vals
    obtain ⟨Y5, j5, f5⟩ := Own.form hO.2.kids
    subst f0 f1 f2 f3 f4 f5
    replace K := Lib.hid (K.out.trans hk (fun _ _ h => h))
    have szb := hk.size
    have HO := Lib.hid hO
    clear hO hk
    go_wp2_with fail
    refine code_at (fun wc hw => ?_)
    have hk : Keeps Nob wb wc := by rw [hw]; exact Keeps.alloc _ _ _
    have BN : Hid (Blk wc wb.heap.size 37 #[.int .i64 0, .slice Y1 0 j1, .int .i64 0, .slice Y3 n.keys.length j3, .slice Y4 n.vals.length j4, .slice Y5 n.kids.length j5]) := by rw [hw]; exact Blk.new _ _ _
    replace HO := Lib.hid (HO.out.keeps hk (fun _ _ _ => id))
    replace K := Lib.hid (K.out.trans hk (fun _ _ h => h))
    have szc := hk.size
    have hac := HA.out.grown K.out
    obtain ⟨i, g, o, c, c0, c1, c2, c3, c4, c5, hid, hs, h3, hi, hl, rfl, hm, hgb, hc0, hc1, hc2, hc3, hc4, hc5, hnd⟩ := hac.nd_ HG.out
    have ca : wc.cell? ⟨q, 1, none⟩ = some (.slice (some ⟨g, o, none⟩) A.sl.length c) := hac.blk.cell 1
    have h1 : 1 ≤ ix := by omega
    have h2 : ix ≤ A.sl.length := by omega
    have h3' : ix.toNat - 1 = i := by omega
    obtain ⟨cur, hgb'⟩ := hgb
    have GF := fun i => hgb'.frozen i
    have HAC := Lib.hid hac
    have HSI : Hid (A.sl[i]? = some s) := hs
    have HI := Lib.hid h3
    have hwr : IntKind.i64.wrap (ix - 1) = (i : Int) := by rw [IntKind.wrap_i64]; omega
    have hpos : 0 ≤ (i : Int) ∧ (i : Int) < (A.sl.length : Int) := by omega
    clear hw hk hac hs hm hgb' hnd hid HA
    refine wp_region_canon [0, 1, 2, 3, 4, 5, 6, 7, 8, 9, 10, 11] 11 (fun W => W.cell? ⟨q, 1, none⟩ = some (.slice (some ⟨g, o, none⟩) A.sl.length c) ∧ W.cell? ⟨wb.heap.size, 3, none⟩ = some (.slice Y3 n.keys.length j3) ∧ W.cell? ⟨wb.heap.size, 4, none⟩ = some (.slice Y4 n.vals.length j4) ∧ W.cell? ⟨wb.heap.size, 5, none⟩ = some (.slice Y5 n.kids.length j5)) (by kernel_rfl) (by kernel_rfl) rfl (by kernel_rfl) (fun _ _ d _ _ h => by cases d <;> exact h) ?_ ?_
    · exact ⟨ca, BN.out.cell 3, BN.out.cell 4, BN.out.cell 5⟩
    iterate 11
      refine wpCanon_read (v := ?_) rfl (by kernel_rfl) (by rfl) ?_ ?_
      rotate_left
      · intro W hW
        try (obtain ⟨h1, h2, h3, h4⟩ : _ ∧ _ ∧ _ ∧ _ := hW)
        go_simp
        try simp only [hwr, if_pos hpos, Int.toNat_natCast]
        try rfl
      simp only [Act.put, List.setIfInBounds_toArray, List.set_cons_zero, List.set_cons_succ]
    refine wpCanon_act rfl (by kernel_rfl) ?_
    go_wp2
    refine ⟨.inl (by kernel_rfl), wpCanon_nil ?_⟩
    go_wp2
    refine post_at (fun wd hw => ?_)
    have hnn : IsBd wc (DF D w wc) (.slice Y3 n.keys.length j3) (.slice Y4 n.vals.length j4) (.slice Y5 n.kids.length j5) n := by
      have hob : OBd wc (DF D w wc) _ _ _ _ := HO.out.2.mono (fun b _ hb => .inr ⟨by have := hb.1; omega, by have := hb.2; omega⟩)
      exact ⟨hob.keys.r, hob.vals.r, hob.kids.r⟩
    obtain ⟨hm, hk2, ys, hD⟩ := HAC.out.setBd HSI.out hnn rfl
    have hsz : wd.heap.size = wc.heap.size := by rw [hw]; simp
    have hk3 := hk2.drew'
    replace hD := hD.keeps (Keeps.drew Nob _) (fun _ _ _ => id) (fun _ _ _ => id)
    have hw' : wd = (((wc.setCell ⟨g, o + i * 7 + 4, none⟩ (.slice Y3 n.keys.length j3)).setCell ⟨g, o + i * 7 + 5, none⟩ (.slice Y4 n.vals.length j4)).setCell ⟨g, o + i * 7 + 6, none⟩ (.slice Y5 n.kids.length j5)).drew := hw
    rw [← hw'] at hk3 hD
    have hdf : DF D w wc = DF D w wd := by unfold DF Fresh; rw [hsz]
    rw [hdf] at hD
    have hfin : DocS w wd M (DF D w wd) q (A.put ix ⟨s.word, withHd n s.nd⟩) := by unfold Ar.put; rw [HI.out]; exact ⟨_, ys, hD⟩
    clear hw hw' hnn hk2
    go_ret
    refine ⟨rfl, hfin, (K.out.mono (fun _ _ h => h.elim)).trans hk3 (fun b hb e => by have h2 : b = _ := e; subst h2; exact hm)⟩
  · rw [opSetBody_no hn]
    have HA := Lib.hid h
    have hn2 : (opHeld A ix == 0) = false := by simp [hn]
    have HU := fun (wq : World) (hq : Keeps Nob w wq) => Lib.hid (heldR (ix := ix) (h.keeps hq (fun _ _ _ => id) (fun _ _ _ => id)))
    clear h hn hn' hh hsm
    show Calls _ _ _ _ (fun e w' => e = .returned (iV (opHeld A ix)) ∧ DocS w w' M (DF D w w') q A ∧ Keeps M w w')
    generalize opHeld A ix = ob at *
    unfold pV iV at *
    go_enter Try.func53, Try.ntmps53
    go_wp2_with fail
    refine calls_at (fun wa hw => ?_)
    have hk : Keeps Nob w wa := by rw [hw]; exact Keeps.alloc _ _ _
    have H := HU wa hk
    have K := Lib.hid hk
    clear hw hk HU
    refine H.out.mono ?_
    rintro e w' ⟨rfl, rfl⟩
    go_wp2
    go_ret
    exact ⟨rfl, ⟨_, _, HA.out.grown K.out⟩, K.out.mono (fun _ _ h => h.elim)⟩
end
end Go.Proofs.Ytbhohohgojcapaa
