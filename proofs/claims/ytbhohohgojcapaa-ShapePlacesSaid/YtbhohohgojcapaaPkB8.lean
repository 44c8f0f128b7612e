import Derived.Test.YtbhohohgojcapaaPkB7
namespace Go.Proofs.Ytbhohohgojcapaa
open Go.RowKit Go.Maps

theorem Try.lawInt : Keyed Try.prog 3 := int_keyed Try.underlying3
theorem Try.zeroInt (w : World) : (zeroValue 3).run Try.prog w = .ok (.int .i64 0) w := by kernel_rfl

theorem take_snocC {α : Type} (l : List α) (k : Nat) (x : α) (h : l[k]? = some x) : l.take (k + 1) = l.take k ++ [x] := by
  rw [List.take_add_one, h]; rfl
theorem lit_inj {a b : Int} (h : (DataW.lit (.int .i64 a) : DataW Unit) = .lit (.int .i64 b)) : a = b := by
  injection h with h; injection h
/-- The map tells which numbers have been met. -/
def Met (D : DataW Unit) (l : List Int) : Prop := IsMap D ∧ ∀ x : Int, D.atKey (.int .i64 x) (.lit (.int .i64 0)) = .lit (.int .i64 (if x ∈ l then 1 else 0))
theorem Met.nil : Met (.map []) [] := ⟨isMap_empty, fun x => by simp; rfl⟩
theorem key_int (x : Int) : WideAt.IsKeyLit (.int .i64 x) := by simp [WideAt.IsKeyLit]
theorem Met.step {D : DataW Unit} {l : List Int} (h : Met D l) (x : Int) : Met (D.put (.int .i64 x) (.lit (.int .i64 1))) (l ++ [x]) := by
  refine ⟨h.1.put _ _, fun y => ?_⟩
  by_cases hy : y = x
  · subst hy
    rw [atKey_put_same h.1 (key_int y)]
    simp
  · rw [atKey_put_other (by intro e; injection e with _ e; exact hy e), h.2 y]
    simp [hy]
theorem nodup_snoc {l : List Int} {x : Int} (h : l.Nodup) (hx : x ∉ l) : (l ++ [x]).Nodup := by
  rw [List.nodup_append]
  refine ⟨h, by simp, fun a ha b hb => ?_⟩
  simp at hb; subst hb
  intro e; subst e; exact hx ha
theorem kidsFine_false {l : List Int} {nodes : Int} (h : ¬ (l.Nodup ∧ ∀ k ∈ l, 1 ≤ k ∧ k ≤ nodes)) : kidsFine l nodes = false := by
  cases hb : kidsFine l nodes with
  | false => rfl
  | true =>
    unfold kidsFine at hb
    simp only [Bool.and_eq_true, decide_eq_true_eq, List.all_eq_true] at hb
    exact absurd hb h
theorem kidsFine_true {l : List Int} {nodes : Int} (h1 : l.Nodup) (h2 : ∀ k ∈ l, 1 ≤ k ∧ k ≤ nodes) : kidsFine l nodes = true := by
  unfold kidsFine
  simp only [Bool.and_eq_true, decide_eq_true_eq, List.all_eq_true]
  exact ⟨h1, h2⟩

section
variable {S T : Nat → Prop} {w : World} {c0 c1 c2 c3 c4 c5 : Value} {n : Nd}

set_option maxRecDepth 100000 in
set_option maxHeartbeats 2000000 in
theorem innerP {a0 a1 a2 a3 a4 : Int} (h : IsNd w S c0 c1 c2 c3 c4 c5 n) (hw : ∀ k ∈ n.kids, K64 k) (hz : NdSm 0 n) : Calls Try.prog 133 #[.agg #[c0, c1, c2, c3, c4, c5], .agg #[.int .i64 a0, .int .i64 a1, .int .i64 a2, .int .i64 a3, .int .i64 a4]] w fun e w' => e = .returned (.bool (innerOk n a0 a2)) ∧ Keeps Nob w w' := by
  obtain ⟨X1, k1, e1, _, _⟩ := h.1.high.form
  obtain ⟨X3, k3, e3, y3, z3⟩ := h.2.keys.form
  obtain ⟨X4, k4, e4, y4, z4⟩ := h.2.vals.form
  obtain ⟨X5, k5, e5, y5, z5⟩ := h.2.kids.form
  have e0 := h.1.lvl
  have e2 := h.1.right
  unfold iV at e0 e2
  subst e0 e1 e2 e3 e4 e5
  have HN0 := Lib.hid h
  have HW := Lib.hid hw
  have hl5 : n.kids.length ≤ 9223372036854775807 := Nat.le_trans y5 z5
  have hl3 : n.keys.length + 1 ≤ 9223372036854775807 := by have := hz.2.1.1; unfold Sm at this; omega
  clear h y3 y4 y5 z3 z4 z5 hw hz
  have hmm := @run_makeMap Try.prog
  obtain ⟨res, hres⟩ : ∃ r, innerOk n a0 a2 = r := ⟨_, rfl⟩
  rw [hres]
  have HR := Lib.hid hres
  clear hres
  go_enter Try.func133, Try.ntmps133
  go_wp2
  have hka : ∀ o1 o2 o3, Keeps Nob w (((w.alloc o1).alloc o2).alloc o3) := fun o1 o2 o3 => ((Keeps.alloc _ w _).alloc' _).alloc' _
  obtain ⟨N, hN⟩ : ∃ N, w.heap.size = N := ⟨_, rfl⟩
  have BN0 : Hid (Blk (((w.alloc (.cells #[.int .i64 n.lvl, .slice X1 n.high.length k1, .int .i64 n.right, .slice X3 n.keys.length k3, .slice X4 n.vals.length k4, .slice X5 n.kids.length k5] 37)).alloc (.cells #[.int .i64 a0, .int .i64 a1, .int .i64 a2, .int .i64 a3, .int .i64 a4] 69)).alloc (.map #[] 0)) w.heap.size 37 #[.int .i64 n.lvl, .slice X1 n.high.length k1, .int .i64 n.right, .slice X3 n.keys.length k3, .slice X4 n.vals.length k4, .slice X5 n.kids.length k5]) := ((Blk.new w _ _).alloc _).alloc _
  have BC0 : Hid (Blk (((w.alloc (.cells #[.int .i64 n.lvl, .slice X1 n.high.length k1, .int .i64 n.right, .slice X3 n.keys.length k3, .slice X4 n.vals.length k4, .slice X5 n.kids.length k5] 37)).alloc (.cells #[.int .i64 a0, .int .i64 a1, .int .i64 a2, .int .i64 a3, .int .i64 a4] 69)).alloc (.map #[] 0)) (w.heap.size + 1) 69 #[.int .i64 a0, .int .i64 a1, .int .i64 a2, .int .i64 a3, .int .i64 a4]) := (Blk.new' (by simp) _ _).alloc _
  have OM0 : Hid ((((w.alloc (.cells #[.int .i64 n.lvl, .slice X1 n.high.length k1, .int .i64 n.right, .slice X3 n.keys.length k3, .slice X4 n.vals.length k4, .slice X5 n.kids.length k5] 37)).alloc (.cells #[.int .i64 a0, .int .i64 a1, .int .i64 a2, .int .i64 a3, .int .i64 a4] 69)).alloc (.map #[] 0)).ownsMap Try.prog 3 (plainElem (H := Unit) Try.prog 3) (w.heap.size + 2) 0 (.map [])) := by
    have := World.ownsMap_made ((w.alloc (.cells #[.int .i64 n.lvl, .slice X1 n.high.length k1, .int .i64 n.right, .slice X3 n.keys.length k3, .slice X4 n.vals.length k4, .slice X5 n.kids.length k5] 37)).alloc (.cells #[.int .i64 a0, .int .i64 a1, .int .i64 a2, .int .i64 a3, .int .i64 a4] 69)) Try.prog 3 (plainElem (H := Unit) Try.prog 3)
    rw [show (((w.alloc (.cells #[.int .i64 n.lvl, .slice X1 n.high.length k1, .int .i64 n.right, .slice X3 n.keys.length k3, .slice X4 n.vals.length k4, .slice X5 n.kids.length k5] 37)).alloc (.cells #[.int .i64 a0, .int .i64 a1, .int .i64 a2, .int .i64 a3, .int .i64 a4] 69)).heap.size) = w.heap.size + 2 by simp] at this
    exact this
  have K0 := Lib.hid hka
  clear hka hN
  go_loopw [13] (fun i wr => ∃ k : Nat, k ≤ n.kids.length ∧ i = .int .i64 k ∧ (n.kids.take k).Nodup ∧ (∀ x ∈ n.kids.take k, 1 ≤ x ∧ x ≤ a0) ∧ (∃ D, Met D (n.kids.take k) ∧ wr.ownsMap Try.prog 3 (plainElem (H := Unit) Try.prog 3) (w.heap.size + 2) k D) ∧ Keeps Nob w wr ∧ Blk wr w.heap.size 37 #[.int .i64 n.lvl, .slice X1 n.high.length k1, .int .i64 n.right, .slice X3 n.keys.length k3, .slice X4 n.vals.length k4, .slice X5 n.kids.length k5] ∧ Blk wr (w.heap.size + 1) 69 #[.int .i64 a0, .int .i64 a1, .int .i64 a2, .int .i64 a3, .int .i64 a4]) (fun i _ => n.kids.length - (intOf i).toNat)
  case atStart => exact ⟨0, Nat.zero_le _, rfl, by simp, by simp, ⟨_, Met.nil, OM0.out⟩, K0.out _ _ _, BN0.out, BC0.out⟩
  obtain ⟨k, hk, rfl, hnd, hin, ⟨D, hmet, hown⟩, hkr, hbn, hbc⟩ := hrel
  rcases Nat.lt_or_ge k n.kids.length with hlt | hlt
  · obtain ⟨kid, hkid⟩ : ∃ x, n.kids[k]? = some x := ⟨_, List.getElem?_eq_getElem hlt⟩
    obtain ⟨ad, rfl, _, hc⟩ := HN0.out.2.kids.cells hlt
    have q0 : wr.cell? (ad.add k) = some (.int .i64 kid) := hkr.cell (hc k kid hkid) id
    have hkey : keyOf Try.prog 3 (.int .i64 kid) = some (.int .i64 kid) := keyOf_int_mk Try.underlying3 (HW.out kid (List.mem_of_getElem? hkid))
    have HT := Lib.hid (take_snocC n.kids k kid hkid)
    have HMEM : Hid (kid ∈ n.kids) := List.mem_of_getElem? hkid
    have HND := Lib.hid hnd
    have HIN := Lib.hid hin
    have HMET := Lib.hid hmet
    have HOWN := Lib.hid hown
    have HK := Lib.hid hkr
    have HBN := Lib.hid hbn
    have HBC := Lib.hid hbc
    have HKID : Hid (n.kids[k]? = some kid) := hkid
    clear hkid hc hnd hin hmet hown hkr hbn hbc
    have hs2 : w.heap.size + 2 ≠ w.heap.size := by omega
    by_cases hmem : kid ∈ n.kids.take k
    · have hat0 := HMET.out.2 kid
      rw [if_pos hmem] at hat0
      have HA0 := Lib.hid hat0
      have HMM := Lib.hid hmem
      clear hat0 hmem
      go_wp2_with (first
        | (at_lookup; refine wpList_lookup_own_int _ rfl _ _ 150 rfl 3 3 .i64 Try.lawInt Try.underlying150 Try.underlying3 (Try.zeroInt _) (w.heap.size + 2) _ _ rfl HOWN.out _ _ rfl hkey ?_; intro c hat hwc; have hcc := lit_inj (hat.symm.trans HA0.out); subst hcc; clear hat hwc)
        | (at_mapUpdate; refine wpList_mapUpdate_own _ rfl _ _ _ 150 rfl 3 3 Try.lawInt Try.underlying150 _ (w.heap.size + 2) _ _ rfl HOWN.out (by unfold maxLen; omega) _ _ _ rfl rfl hkey (.lit (.int .i64 2)) [] (plainElem_int Try.underlying3 (by decide)) ?_; intro w1 hown1 hgrow1; have hk1 : Keeps (fun b => b = w.heap.size + 2) wr w1 := Keeps.grown hgrow1 (fun j hj => by injection hj with hj; exact hj.symm); replace HOWN := Lib.hid hown1; replace HA0 := Lib.hid (atKey_put_same HMET.out.1 (key_int kid) (.lit (.int .i64 2)) (.lit (.int .i64 0))); replace HBN := Lib.hid (HBN.out.keeps hk1 (by show ¬ _ = _; omega)); replace HBC := Lib.hid (HBC.out.keeps hk1 (by show ¬ _ = _; omega)); replace HK := Lib.hid (HK.out.trans hk1 (fun b hb e => by have h2 : b = _ := e; omega)); have qc := HBC.out.cell 0; clear hown1 hgrow1 hk1))
      go_ret
      refine ⟨?_, HK.out⟩
      have : res = false := by
        rw [← HR.out]
        unfold innerOk
        rw [kidsFine_false (fun hh => ?_)]
        · rfl
        have h1 := hh.1
        rw [← List.take_append_drop (k + 1) n.kids, HT.out] at h1
        have h2 := (List.nodup_append.1 (List.nodup_append.1 h1).1).2.2 kid HMM.out kid (by simp)
        exact h2 rfl
      rw [this]; rfl
    · have hat0 := HMET.out.2 kid
      rw [if_neg hmem] at hat0
      have HA0 := Lib.hid hat0
      have HMM := Lib.hid hmem
      clear hat0 hmem
      obtain ⟨bb, hbb⟩ : ∃ b, decide (1 ≤ kid ∧ kid ≤ a0) = b := ⟨_, rfl⟩
      have HBB := Lib.hid hbb
      clear hbb
      cases bb
      · go_wp2_with (first
          | (at_lookup; refine wpList_lookup_own_int _ rfl _ _ 150 rfl 3 3 .i64 Try.lawInt Try.underlying150 Try.underlying3 (Try.zeroInt _) (w.heap.size + 2) _ _ rfl HOWN.out _ _ rfl hkey ?_; intro c hat hwc; have hcc := lit_inj (hat.symm.trans HA0.out); subst hcc; clear hat hwc)
          | (at_mapUpdate; refine wpList_mapUpdate_own _ rfl _ _ _ 150 rfl 3 3 Try.lawInt Try.underlying150 _ (w.heap.size + 2) _ _ rfl HOWN.out (by unfold maxLen; omega) _ _ _ rfl rfl hkey (.lit (.int .i64 1)) [] (plainElem_int Try.underlying3 (by decide)) ?_; intro w1 hown1 hgrow1; have hk1 : Keeps (fun b => b = w.heap.size + 2) wr w1 := Keeps.grown hgrow1 (fun j hj => by injection hj with hj; exact hj.symm); replace HOWN := Lib.hid hown1; replace HA0 := Lib.hid (atKey_put_same HMET.out.1 (key_int kid) (.lit (.int .i64 1)) (.lit (.int .i64 0))); replace HBN := Lib.hid (HBN.out.keeps hk1 (by show ¬ _ = _; omega)); replace HBC := Lib.hid (HBC.out.keeps hk1 (by show ¬ _ = _; omega)); replace HK := Lib.hid (HK.out.trans hk1 (fun b hb e => by have h2 : b = _ := e; omega)); have qc := HBC.out.cell 0; clear hown1 hgrow1 hk1)
          | (go_at_call 121; refine (betweenP _ _ _ _).mono ?_; rintro e w2 ⟨rfl, rfl⟩; rw [HBB.out]))
        go_ret
        refine ⟨?_, HK.out⟩
        have : res = false := by
          rw [← HR.out]
          unfold innerOk
          rw [kidsFine_false (fun hh => ?_)]
          · rfl
          exact absurd (decide_eq_true (hh.2 kid HMEM.out)) (by rw [HBB.out]; decide)
        rw [this]; rfl
      · go_wp2_with (first
          | (at_lookup; refine wpList_lookup_own_int _ rfl _ _ 150 rfl 3 3 .i64 Try.lawInt Try.underlying150 Try.underlying3 (Try.zeroInt _) (w.heap.size + 2) _ _ rfl HOWN.out _ _ rfl hkey ?_; intro c hat hwc; have hcc := lit_inj (hat.symm.trans HA0.out); subst hcc; clear hat hwc)
          | (at_mapUpdate; refine wpList_mapUpdate_own _ rfl _ _ _ 150 rfl 3 3 Try.lawInt Try.underlying150 _ (w.heap.size + 2) _ _ rfl HOWN.out (by unfold maxLen; omega) _ _ _ rfl rfl hkey (.lit (.int .i64 1)) [] (plainElem_int Try.underlying3 (by decide)) ?_; intro w1 hown1 hgrow1; have hk1 : Keeps (fun b => b = w.heap.size + 2) wr w1 := Keeps.grown hgrow1 (fun j hj => by injection hj with hj; exact hj.symm); replace HOWN := Lib.hid hown1; replace HA0 := Lib.hid (atKey_put_same HMET.out.1 (key_int kid) (.lit (.int .i64 1)) (.lit (.int .i64 0))); replace HBN := Lib.hid (HBN.out.keeps hk1 (by show ¬ _ = _; omega)); replace HBC := Lib.hid (HBC.out.keeps hk1 (by show ¬ _ = _; omega)); replace HK := Lib.hid (HK.out.trans hk1 (fun b hb e => by have h2 : b = _ := e; omega)); have qc := HBC.out.cell 0; clear hown1 hgrow1 hk1)
          | (go_at_call 121; refine (betweenP _ _ _ _).mono ?_; rintro e w2 ⟨rfl, rfl⟩; rw [HBB.out]))
        go_roundw
        case rel =>
          refine ⟨k + 1, by omega, by go_num, ?_, ?_, ⟨_, ?_, HOWN.out⟩, HK.out, HBN.out, HBC.out⟩
          · rw [HT.out]; exact nodup_snoc HND.out HMM.out
          · rw [HT.out]
            intro x hx
            rcases List.mem_append.1 hx with hx | hx
            · exact HIN.out x hx
            · simp at hx; subst hx; exact of_decide_eq_true HBB.out
          · rw [HT.out]; exact HMET.out.step kid
        case measure => simp [intOf]; omega
  · obtain rfl : k = n.kids.length := by omega
    rw [List.take_length] at hnd hin
    have hfine := kidsFine_true hnd hin
    have HK := Lib.hid hkr
    obtain ⟨bA, hA⟩ : ∃ b, ((n.vals.length : Int) == 0) = b := ⟨_, rfl⟩
    obtain ⟨bB, hB⟩ : ∃ b, ((n.kids.length : Int) == (n.keys.length : Int) + 1) = b := ⟨_, rfl⟩
    obtain ⟨bC, hC⟩ : ∃ b, decide ((n.kids.length : Int) ≤ a2) = b := ⟨_, rfl⟩
    have eA : decide (n.vals.length = 0) = bA := by rw [← hA]; apply Bool.eq_iff_iff.2; simp <;> omega
    have eB : decide (n.kids.length = n.keys.length + 1) = bB := by rw [← hB]; apply Bool.eq_iff_iff.2; simp <;> omega
    have hr := HR.out
    unfold innerOk at hr
    rw [hfine, eA, eB, hC] at hr
    have HR2 := Lib.hid hr
    have q := fun i => hbn.cell i
    have q2 := fun i => hbc.cell i
    clear hnd hin hmet hown hkr hbn hbc hfine eA eB hr HR
    have HAH := Lib.hid hA
    have HBH := Lib.hid hB
    have HCH := Lib.hid hC
    clear hA hB hC
    cases bA <;> cases bB <;> cases bC
    all_goals
      have hA := HAH.out
      have hB := HBH.out
      have hC := HCH.out
      go_wp2
      go_ret
      exact ⟨by rw [← HR2.out]; rfl, HK.out⟩
end
end Go.Proofs.Ytbhohohgojcapaa
