import Derived.Test.YtbhohohgojcapaaGreatPkD7
set_option maxHeartbeats 64000000
namespace Go.Proofs.YtbhohohgojcapaaGreat
open Go.RowKit
def docE (n : Nd) (a0 a1 a2 : Int) : Int :=
 if decide (n.lvl < 0) then 91 else if decide (32 < n.lvl) then 91 else if decide (n.right < 0) then 91 else if decide (a0 < n.right) then 91
 else if !(((n.high.length : Int) == 0) == (n.right == 0)) then 91 else if decide (64 < (n.high.length : Int)) then 91
 else if !(right n) then 91 else if !(keysOk n) then 91 else if (n.lvl == 0) && decide (a1 < (n.keys.length : Int)) then 91
 else if n.vals.any valBad then 91 else if !(decide ((n.kids.length : Int) <= a2) && kidsFine n.kids a0) then 91 else 0
theorem if_not91 {b : Bool} {x y : Int} (h : b = false -> x = y) (h1 : b = true -> y = 91) : (if b = true then 91 else x) = y := by
 cases b
 ·exact h rfl
 ·exact (h1 rfl).symm
theorem doc_may {n : Nd} {a0 a1 a2 a3 a4 : Int} (hc : confOk a0 a1 a2 a3 a4 = true) : docE n a0 a1 a2 = mayE n a0 a1 a2 a3 a4 := by
 have ha2 : 3 <= a2 := by
  unfold confOk at hc
  simp only [Bool.and_eq_true, decide_eq_true_eq] at hc
  omega
 unfold mayE
 rw [if_pos hc]
 by_cases hh : headOk n a0 = true
 ·have hh' := hh
  unfold headOk at hh'
  simp only [Bool.and_eq_true, decide_eq_true_eq, beq_iff_eq] at hh'
  obtain ⟨⟨h1, h2⟩, ⟨h3, h4⟩, h5, h6⟩ := hh'
  have e5 : (((n.high.length : Int) == 0) == (n.right == 0)) = true := by rw [h5]; simp
  unfold docE
  rw [hh, e5, decide_eq_false (by omega), decide_eq_false (by omega), decide_eq_false (by omega), decide_eq_false (by omega), decide_eq_false (by omega)]
  simp only [Bool.false_eq_true, if_false, Bool.not_true, Bool.true_and]
  by_cases hk : keysOk n = true
  ·have hr : rises n.keys = true := by
    unfold keysOk at hk
    rw [Bool.and_eq_true] at hk
    exact hk.1
   rw [hk]
   simp only [Bool.not_true, Bool.false_eq_true, if_false, Bool.true_and]
   unfold right formOk
   by_cases hl : n.lvl = 0
   ·rw [if_pos hl, if_pos hl, hr, hl]
    unfold leafOk
    by_cases hA : n.vals.length = n.keys.length
    ·by_cases hB : n.kids.length = 0
     ·have hkl : n.kids = [] := List.eq_nil_of_length_eq_zero hB
      have hkf : kidsFine n.kids a0 = true := by rw [hkl]; rfl
      rw [hkf]
      by_cases hC : (n.keys.length : Int) <= a1
      ·rw [decide_eq_false (show ¬ a1 < (n.keys.length : Int) by omega)]
       by_cases hD : n.vals.any valBad = true
       ·simp [hA, hB, hC, hD]
       ·simp [hA, hB, hC, hD]; omega
      ·rw [decide_eq_true (show a1 < (n.keys.length : Int) by omega)]
       simp [hA, hB, hC]
     ·simp [hA, hB]
    ·simp [hA]
   ·have hl' : (n.lvl == 0) = false := by simpa using hl
    rw [if_neg hl, if_neg hl, hr, hl', decide_eq_true (show 0 < n.lvl by omega)]
    unfold innerOk
    by_cases hA : n.vals.length = 0
    ·have hv : n.vals = [] := List.eq_nil_of_length_eq_zero hA
     by_cases hB : n.kids.length = n.keys.length + 1
     ·rw [hv]
      by_cases hC : (n.kids.length : Int) <= a2
      ·by_cases hD : kidsFine n.kids a0 = true
       ·rw [decide_eq_true hC]; simp [hB, hD]
       ·rw [decide_eq_true hC]; simp [hB, hD]
      ·rw [decide_eq_false hC]; simp
     ·simp [hA, hB]
    ·simp [hA]
  ·rw [Bool.not_eq_true] at hk
   rw [hk]
   simp
 ·rw [Bool.not_eq_true] at hh
  rw [hh]
  simp only [Bool.false_and, Bool.false_eq_true, if_false]
  unfold docE
  refine if_not91 (λ h1 => if_not91 (λ h2 => if_not91 (λ h3 => if_not91 (λ h4 => if_not91 (λ h5 => if_not91 (λ h6 => ?_) (λ _ => rfl)) (λ _ => rfl)) (λ _ => rfl)) (λ _ => rfl)) (λ _ => rfl)) (λ _ => rfl)
  exfalso
  unfold headOk at hh
  simp only [decide_eq_false_iff_not] at h1 h2 h3 h4 h6
  rw [decide_eq_true (by omega), decide_eq_true (by omega), decide_eq_true (by omega)] at hh
  rw [show (((n.high.length : Int) == 0) == (n.right == 0)) = true by simpa using h5] at hh
  simp at hh
section
variable {S T : Nat -> Prop} {w : World} {a c0 c1 c2 c3 c4 c5 : Value} {n : Nd} {x : List UInt8}
set_option maxRecDepth 100000 in
theorem checkR {a0 a1 a2 a3 a4 : Int} (h : IsNd w S c0 c1 c2 c3 c4 c5 n) (hz : NdSm 0 n) : Calls Tryz.prog 125 #[.agg #[c0, c1, c2, c3, c4, c5], .agg #[.int .i64 a0, .int .i64 a1, .int .i64 a2, .int .i64 a3, .int .i64 a4]] w λ e w' => e = .returned (.int .i64 (mayE n a0 a1 a2 a3 a4)) /\ Keeps Nob w w' := by
 obtain ⟨X1, k1, e1, y1, z1⟩ := h.1.high.form
 obtain ⟨X3, k3, e3, y3, z3⟩ := h.2.keys.form
 obtain ⟨X4, k4, e4, y4, z4⟩ := h.2.vals.form
 obtain ⟨X5, k5, e5, y5, z5⟩ := h.2.kids.form
 have e0 := h.1.lvl
 have e2 := h.1.right
 unfold iV at e0 e2
 subst e0 e1 e2 e3 e4 e5
 have HN0 := Hd h
 have hl4 : n.vals.length <= 9223372036854775807 := Nat.le_trans y4 z4
 have hk63 : n.keys.length < 9223372036854775807 := by have := hz.2.1.1; unfold Sm at this; omega
 have HRT := λ wx (k : Keeps Nob w wx) => rightR (HN0.out.keeps k (λ _ _ _ => id)) hk63
 have HKE := λ wx (k : Keeps Nob w wx) => keysR (HN0.out.keeps k (λ _ _ _ => id))
 have HKI := λ wx (k : Keeps Nob w wx) => kidsR (a0 := a0) (a1 := a1) (a2 := a2) (a3 := a3) (a4 := a4) (HN0.out.keeps k (λ _ _ _ => id))
 have HC := λ wx => confR a0 a1 a2 a3 a4 wx
 clear h y1 y3 y4 y5 z1 z3 z4 z5 hz hk63
 unfold confE at HC
 obtain ⟨bc, hbc⟩ : ∃ b, confOk a0 a1 a2 a3 a4 = b := ⟨_, rfl⟩
 rw [hbc] at HC
 cases bc
 ·have hm : mayE n a0 a1 a2 a3 a4 = 1 := by unfold mayE; rw [hbc]; rfl
  rw [hm]
  have HCC := Hd HC
  clear HC HRT HKE HKI hbc hm
  go_enter Tryz.func125, Tryz.ntmps125
  go_wp2_with fail
  refine calls_at (λ wa hw => ?_)
  have hka : Keeps Nob w wa := by rw [hw]; exact (Keeps.alloc _ _ _).alloc' _
  have HK := Hd hka
  clear hw hka
  refine (HCC.out wa).mono ?_
  rintro e w1 ⟨rfl, hk1⟩
  have HK1 := Hd (HK.out.trans hk1 (λ _ _ h => h))
  clear hk1
  go_wp2
  go_ret
  exact ⟨rfl, HK1.out⟩
 rw [<- doc_may hbc]
 clear hbc
 unfold docE
 obtain ⟨d1, hd1⟩ : ∃ b, decide (n.lvl < 0) = b := ⟨_, rfl⟩
 obtain ⟨d2, hd2⟩ : ∃ b, decide (32 < n.lvl) = b := ⟨_, rfl⟩
 obtain ⟨d3, hd3⟩ : ∃ b, decide (n.right < 0) = b := ⟨_, rfl⟩
 obtain ⟨d4, hd4⟩ : ∃ b, decide (a0 < n.right) = b := ⟨_, rfl⟩
 obtain ⟨d5, hd5⟩ : ∃ b, (((n.high.length : Int) == 0) == (n.right == 0)) = b := ⟨_, rfl⟩
 obtain ⟨d6, hd6⟩ : ∃ b, decide (64 < (n.high.length : Int)) = b := ⟨_, rfl⟩
 obtain ⟨d7, hd7⟩ : ∃ b, (n.lvl == 0) = b := ⟨_, rfl⟩
 obtain ⟨d8, hd8⟩ : ∃ b, decide (a1 < (n.keys.length : Int)) = b := ⟨_, rfl⟩
 obtain ⟨br, hbr⟩ : ∃ b, right n = b := ⟨_, rfl⟩
 obtain ⟨bk, hbk⟩ : ∃ b, keysOk n = b := ⟨_, rfl⟩
 obtain ⟨bv, hbv⟩ : ∃ b, n.vals.any valBad = b := ⟨_, rfl⟩
 obtain ⟨bi, hbi⟩ : ∃ b, (decide ((n.kids.length : Int) <= a2) && kidsFine n.kids a0) = b := ⟨_, rfl⟩
 rw [hbr] at HRT
 rw [hbk] at HKE
 rw [hbi] at HKI
 rw [hd1, hd2, hd3, hd4, hd5, hd6, hd7, hd8, hbr, hbk, hbv, hbi]
 have HBV : ∀ _ : Unit, n.vals.any valBad = bv := λ _ => hbv
 clear hbr hbk hbv hbi
 have HCC := Hd HC
 clear HC
 go_enter Tryz.func125, Tryz.ntmps125
 go_wp2_with fail
 refine calls_at (λ wa hw => ?_)
 obtain ⟨N, hN⟩ : ∃ N, w.heap.size = N := ⟨_, rfl⟩
 have hka : Keeps Nob w wa := by rw [hw]; exact (Keeps.alloc _ _ _).alloc' _
 have BN : Blk wa N 35 #[.int .i64 n.lvl, .slice X1 n.high.length k1, .int .i64 n.right, .slice X3 n.keys.length k3, .slice X4 n.vals.length k4, .slice X5 n.kids.length k5] := by rw [hw, <- hN]; exact (Blk.new w _ _).alloc _
 have BC : Blk wa (N + 1) 49 #[.int .i64 a0, .int .i64 a1, .int .i64 a2, .int .i64 a3, .int .i64 a4] := by rw [hw, <- hN]; exact Blk.new' (by simp) _ _
 rw [hN]
 have HBN := Hd BN
 have HBC := Hd BC
 have HK := Hd hka
 clear hw hN BN BC hka
 refine (HCC.out wa).mono ?_
 rintro e w1 ⟨rfl, hk1⟩
 replace HBN := Hd (HBN.out.keeps hk1 id); replace HBC := Hd (HBC.out.keeps hk1 id); replace HK := Hd (HK.out.trans hk1 (λ _ _ h => h)); have q := λ i => HBN.out.cell i; have q2 := λ i => HBC.out.cell i; clear hk1
 clear HCC
 go_wp2_with (first
  | (go_at_call 36; refine (HRT _ HK.out).mono ?_; rintro e w2 ⟨rfl, hk1⟩; replace HBN := Hd (HBN.out.keeps hk1 id); replace HBC := Hd (HBC.out.keeps hk1 id); replace HK := Hd (HK.out.trans hk1 (λ _ _ h => h)); have q := λ i => HBN.out.cell i; have q2 := λ i => HBC.out.cell i; clear hk1)
  | (go_at_call 138; refine (HKE _ HK.out).mono ?_; rintro e w2 ⟨rfl, hk1⟩; replace HBN := Hd (HBN.out.keeps hk1 id); replace HBC := Hd (HBC.out.keeps hk1 id); replace HK := Hd (HK.out.trans hk1 (λ _ _ h => h)); have q := λ i => HBN.out.cell i; have q2 := λ i => HBC.out.cell i; clear hk1))
 all_goals try (go_ret; exact ⟨rfl, HK.out⟩)
 all_goals
  clear hd1 hd2 hd3 hd4 hd5 hd6 hd7 hd8
  simp only [Bool.not_eq_true] at *
  subst_vars
  go_loopw [8] (λ i wr => ∃ k : Nat, k <= n.vals.length /\ i = .int .i64 k /\ (n.vals.take k).any valBad = false /\ Keeps Nob w wr /\ Blk wr N 35 #[.int .i64 n.lvl, .slice X1 n.high.length k1, .int .i64 n.right, .slice X3 n.keys.length k3, .slice X4 n.vals.length k4, .slice X5 n.kids.length k5] /\ Blk wr (N + 1) 49 #[.int .i64 a0, .int .i64 a1, .int .i64 a2, .int .i64 a3, .int .i64 a4]) (λ i _ => n.vals.length - (intOf i).toNat)
  case atStart => exact ⟨0, Nat.zero_le _, rfl, rfl, HK.out, HBN.out, HBC.out⟩
  obtain ⟨k, hk, rfl, hany, hkr, hbn, hbc⟩ := hrel
  have HANY := Hd hany
  replace HK := Hd hkr
  replace HBN := Hd hbn
  replace HBC := Hd hbc
  have q := λ i => hbn.cell i
  have q2 := λ i => hbc.cell i
  clear hany hkr hbn hbc
  rcases Nat.lt_or_ge k n.vals.length with hlt | hlt
  ·obtain ⟨x, hx⟩ : ∃ x, n.vals[k]? = some x := ⟨_, List.getElem?_eq_getElem hlt⟩
   obtain ⟨ad, ea, _, hc⟩ := HN0.out.2.vals.cells hlt
   obtain ⟨u, hu, hbu⟩ := hc k x hx
   have q0 : wr.cell? (ad.add k) = some u := HK.out.cell hu id
   have HVA := Hd (valueR (hbu.keeps HK.out (λ _ _ _ => id)))
   have HX := Hd hx
   subst ea
   clear hc hu hbu hx
   obtain ⟨bo, hbo⟩ : ∃ b, valBad x = b := ⟨_, rfl⟩
   rw [hbo] at HVA
   have HBO := Hd hbo
   clear hbo
   cases bo
   ·rw [Bool.not_false] at HVA
    go_wp2_with (go_at_call 139; refine HVA.out.mono ?_; rintro e w2 ⟨rfl, rfl⟩)
    go_roundw
    case rel => exact ⟨k + 1, by omega, by go_num, by rw [take_snocC _ _ _ HX.out, List.any_append, HANY.out]; simp [HBO.out], HK.out, HBN.out, HBC.out⟩
    case measure => simp [intOf]; omega
   ·rw [Bool.not_true] at HVA
    obtain rfl : bv = true := by rw [<- HBV ()]; exact List.any_eq_true.2 ⟨x, List.mem_of_getElem? HX.out, HBO.out⟩
    go_wp2_with (go_at_call 139; refine HVA.out.mono ?_; rintro e w2 ⟨rfl, rfl⟩)
    go_ret
    exact ⟨rfl, HK.out⟩
  ·obtain rfl : k = n.vals.length := by omega
   obtain rfl : bv = false := by rw [<- HBV ()]; have h := HANY.out; rwa [List.take_length] at h
   cases bi
   all_goals
    go_wp2_with (go_at_call 140; refine (HKI _ HK.out).mono ?_; rintro e w2 ⟨rfl, hk1⟩; replace HK := Hd (HK.out.trans hk1 (λ _ _ h => h)); clear hk1)
    go_ret
    exact ⟨rfl, HK.out⟩
end
end Go.Proofs.YtbhohohgojcapaaGreat
