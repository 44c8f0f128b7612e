import Derived.Test.YtbhohohgojcapaaGreatPkA8
import Derived.Test.YtbhohohgojcapaaGreatPkA0
import Derived.BigQuiet
namespace Go.Proofs.YtbhohohgojcapaaGreat
open Go.RowKit

/-- Do the keys rise? -/
def Rise (l : List (List UInt8)) : Prop := ∀ (j : Nat) a b, l[j]? = some a → l[j + 1]? = some b → cmp a b < 0
def rises : List (List UInt8) → Bool
  | [] => true
  | [_] => true
  | a :: b :: l => decide (cmp a b < 0) && rises (b :: l)
theorem rises_iff : ∀ (l : List (List UInt8)), rises l = true ↔ Rise l
  | [] => ⟨fun _ j a b h => by simp at h, fun _ => rfl⟩
  | [_] => ⟨fun _ j a b _ h => by simp at h, fun _ => rfl⟩
  | a :: b :: l => by
    unfold rises
    rw [Bool.and_eq_true, decide_eq_true_eq, rises_iff (b :: l)]
    constructor
    · rintro ⟨h1, h2⟩ j x y hx hy
      cases j with
      | zero => simp at hx hy; subst hx hy; exact h1
      | succ j => exact h2 j x y (by simpa using hx) (by simpa using hy)
    · intro h
      exact ⟨h 0 a b rfl rfl, fun j x y hx hy => h (j + 1) x y (by simpa using hx) (by simpa using hy)⟩

section
variable {S T : Nat → Prop} {w : World} {a : Value} {ls : List (List UInt8)}

set_option maxRecDepth 100000 in
set_option maxHeartbeats 400000 in
theorem risesR (h1 : Txts w S a ls) : Calls Tryz.prog 73 #[a] w fun e w' => e = .returned (.bool (rises ls)) ∧ Keeps Nob w w' := by
  obtain ⟨A, c, rfl, hn1, hm1⟩ := h1.form
  have hz1 : ls.length ≤ 9223372036854775807 := Nat.le_trans hn1 hm1
  have H1 := Lib.hid h1
  clear h1 hn1 hm1
  go_enter Tryz.func73, Tryz.ntmps73
  go_wp2
  go_loopw [3] (fun i wr => ∃ k m : Nat, Hid (k = m + 1) ∧ (k ≤ ls.length ∨ m = 0) ∧ i = .int .i64 k ∧ (∀ (j : Nat) a b, j < m → ls[j]? = some a → ls[j + 1]? = some b → cmp a b < 0) ∧ Keeps Nob w wr) (fun i _ => ls.length + 1 - (intOf i).toNat)
  case atStart => exact ⟨1, 0, rfl, .inr rfl, rfl, fun j a b h => by omega, Keeps.refl _ _⟩
  case round =>
    obtain ⟨k, m, HKM, hkl, rfl, hup, hK⟩ := hrel
    have HU := Lib.hid hup
    have HK := Lib.hid hK
    clear hup hK
    by_cases hlt : k < ls.length
    · have hml : m < ls.length := by have : k = m + 1 := HKM; omega
      have hkm : (k : Int) - 1 = (m : Int) := by have : k = m + 1 := HKM; omega
      have hwr : IntKind.i64.wrap (m : Int) = (m : Int) := by simp [IntKind.wrap, IntKind.bits, IntKind.signed]; omega
      obtain ⟨x, hx⟩ : ∃ x, ls[m]? = some x := ⟨_, List.getElem?_eq_getElem hml⟩
      obtain ⟨y, hy⟩ : ∃ y, ls[k]? = some y := ⟨_, List.getElem?_eq_getElem hlt⟩
      obtain ⟨ad, rfl, _, hc⟩ := H1.out.cells hlt
      obtain ⟨u, hu, hbu⟩ := hc m x hx
      obtain ⟨v, hv, hbv⟩ := hc k y hy
      have hu' : wr.cell? (ad.add m) = some u := HK.out.cell hu id
      have hv' : wr.cell? (ad.add k) = some v := HK.out.cell hv id
      have HX := Lib.hid hx
      have HY := Lib.hid hy
      have HC := Lib.hid (cmpR ((hbu.keeps HK.out (fun _ _ _ => id)).keeps (Keeps.drew Nob wr) (fun _ _ _ => id)) ((hbv.keeps HK.out (fun _ _ _ => id)).keeps (Keeps.drew Nob wr) (fun _ _ _ => id)))
      clear hc hu hv hbu hbv hx hy
      go_wp2
      refine wp_region_canon [0, 1, 2, 3, 4, 5, 6, 7, 8, 9, 10] 99 (fun W => W.cell? (ad.add m) = some u ∧ W.cell? (ad.add k) = some v) (by kernel_rfl) (by kernel_rfl) rfl (by kernel_rfl) (fun _ _ d _ _ h => by cases d <;> exact h) ⟨hu', hv'⟩ ?_
      iterate 2
        refine wpCanon_read (v := ?_) rfl (by kernel_rfl) (by rfl) ?_ ?_
        rotate_left
        · intro W hW
          try (obtain ⟨h1, h2⟩ : _ ∧ _ := hW)
          go_simp
          try rfl
        simp only [Act.put, List.setIfInBounds_toArray, List.set_cons_zero, List.set_cons_succ]
      refine wpCanon_read (v := .int .i64 (m : Int)) rfl (by kernel_rfl) (by rfl) ?_ ?_
      · intro W hW
        go_simp
        try (first | rfl | exact hwr | (rw [hwr]))
      simp only [Act.put, List.setIfInBounds_toArray, List.set_cons_zero, List.set_cons_succ]
      iterate 6
        refine wpCanon_read (v := ?_) rfl (by kernel_rfl) (by rfl) ?_ ?_
        rotate_left
        · intro W hW
          try (obtain ⟨h1, h2⟩ : _ ∧ _ := hW)
          go_simp
          try rfl
        simp only [Act.put, List.setIfInBounds_toArray, List.set_cons_zero, List.set_cons_succ]
      refine wpCanon_act rfl (by kernel_rfl) ?_
      rcases cmp_cases x y with hcm | hcm | hcm
      all_goals
        have HCM := Lib.hid hcm
        clear hcm
        go_wp2_with (go_at_call 102; refine HC.out.mono ?_; rintro e w1 ⟨rfl, hk1⟩; have HK1 := Lib.hid ((Keeps.drew Nob wr).trans hk1 (fun _ _ h => h)); clear hk1; rw [HCM.out])
        refine ⟨.inr ⟨HK1.out.cell hu' id, HK1.out.cell hv' id⟩, ?_⟩
        refine wpCanon_read (v := ?_) rfl (by kernel_rfl) (by rfl) ?_ ?_
        rotate_left
        · intro W hW
          go_simp
          try rfl
        simp only [Act.put, List.setIfInBounds_toArray, List.set_cons_zero, List.set_cons_succ]
        refine wpCanon_nil ?_
        go_wp2
      · go_roundw
        case rel =>
          refine ⟨k + 1, k, rfl, by omega, by go_num, fun j a b hj ha hb => ?_, HK.out.trans HK1.out (fun _ _ h => h)⟩
          by_cases hjm : j < m
          · exact HU.out j a b hjm ha hb
          · have hkm2 : k = m + 1 := HKM
            have : j = m := by omega
            subst this
            have e1 := ha.symm.trans HX.out
            have e2 : ls[j + 1]? = some y := by rw [← hkm2]; exact HY.out
            have e3 := hb.symm.trans e2
            injection e1 with e1
            injection e3 with e3
            subst e1 e3
            rw [HCM.out]
            decide
        case measure => simp [intOf]; omega
      all_goals
        go_ret
        refine ⟨?_, HK.out.trans HK1.out (fun _ _ h => h)⟩
        have : rises ls = false := by
          rcases hr : rises ls with _ | _
          · rfl
          · have hkm2 : k = m + 1 := HKM
            have := (rises_iff ls).1 hr m x y HX.out (by rw [← hkm2]; exact HY.out)
            rw [HCM.out] at this
            exact absurd this (by decide)
        rw [this]; rfl
    · go_wp2
      go_ret
      refine ⟨?_, HK.out⟩
      have hkm2 : k = m + 1 := HKM
      have : rises ls = true := (rises_iff ls).2 (fun j a b ha hb => HU.out j a b (by have := (List.getElem?_eq_some_iff.1 hb).1; omega) ha hb)
      rw [this]; rfl

theorem beq_nat (a b : Nat) : ((a : Int) == (b : Int)) = decide (a = b) := by
  by_cases h : a = b
  · simp [h]
  · rw [decide_eq_false h, beq_eq_false_iff_ne]; omega
/-- Is a node right? -/
def right (n : Nd) : Bool := if n.lvl = 0 then rises n.keys && (decide (n.vals.length = n.keys.length) && decide (n.kids.length = 0)) else rises n.keys && (decide (0 < n.lvl) && (decide (n.vals.length = 0) && decide (n.kids.length = n.keys.length + 1)))
def leaf (n : Nd) : Bool := right n && decide (n.lvl = 0)
def inner (n : Nd) : Bool := right n && decide (0 < n.lvl)
variable {c0 c1 c2 c3 c4 c5 : Value} {n : Nd}

set_option maxRecDepth 100000 in
set_option maxHeartbeats 1000000 in
theorem rightR (h : IsNd w S c0 c1 c2 c3 c4 c5 n) (hs : n.keys.length < 9223372036854775807) : Calls Tryz.prog 36 #[.agg #[c0, c1, c2, c3, c4, c5]] w fun e w' => e = .returned (.bool (right n)) ∧ Keeps Nob w w' := by
  obtain ⟨A3, k3, e3, _, _⟩ := h.2.keys.form
  obtain ⟨A4, k4, e4, _, _⟩ := h.2.vals.form
  obtain ⟨A5, k5, e5, _, _⟩ := h.2.kids.form
  have e0 := h.1.lvl
  have hz3 : n.keys.length ≤ 9223372036854775807 := by obtain ⟨_, _, _, p, q⟩ := h.2.keys.form; exact Nat.le_trans p q
  have hz5 : n.kids.length ≤ 9223372036854775807 := by obtain ⟨_, _, _, p, q⟩ := h.2.kids.form; exact Nat.le_trans p q
  subst e0 e3 e4 e5
  unfold iV
  have H := Lib.hid h
  have HS := Lib.hid hs
  clear h hs
  generalize hr : right n = r
  have HR := Lib.hid hr
  clear hr
  obtain ⟨rs, hrs⟩ : ∃ r, rises n.keys = r := ⟨_, rfl⟩
  have HRS := Lib.hid hrs
  clear hrs
  go_enter Tryz.func36, Tryz.ntmps36
  go_wp2_with fail
  refine calls_at (fun wa hwa => ?_)
  have BA : Blk wa w.heap.size 35 #[.int .i64 n.lvl, c1, c2, .slice A3 n.keys.length k3, .slice A4 n.vals.length k4, .slice A5 n.kids.length k5] := by rw [hwa]; exact Blk.new _ _ _
  have hka : Keeps Nob w wa := by rw [hwa]; exact Keeps.alloc _ w _
  clear hwa
  refine (risesR (H.out.2.keys.keeps hka (fun _ _ _ => id))).mono ?_
  rintro e w1 ⟨rfl, hK⟩
  rw [HRS.out]
  have q := fun i => (BA.keeps hK id).cell i
  have K1 := Lib.hid (hka.trans hK (fun _ _ h => h))
  clear BA hka hK
  obtain ⟨b1, hb1⟩ : ∃ b, decide (n.vals.length = n.keys.length) = b := ⟨_, rfl⟩
  obtain ⟨b2, hb2⟩ : ∃ b, decide (n.kids.length = 0) = b := ⟨_, rfl⟩
  obtain ⟨b3, hb3⟩ : ∃ b, decide (0 < n.lvl) = b := ⟨_, rfl⟩
  obtain ⟨b4, hb4⟩ : ∃ b, decide (n.vals.length = 0) = b := ⟨_, rfl⟩
  obtain ⟨b5, hb5⟩ : ∃ b, decide (n.kids.length = n.keys.length + 1) = b := ⟨_, rfl⟩
  have d1 := (beq_nat n.vals.length n.keys.length).trans hb1
  have d2 := (beq_nat n.kids.length 0).trans hb2
  have d4 := (beq_nat n.vals.length 0).trans hb4
  have d5 := (beq_nat n.kids.length (n.keys.length + 1)).trans hb5
  have hz6 : n.keys.length < 9223372036854775807 := HS.out
  have HB := Lib.hid (And.intro hb1 (And.intro hb2 (And.intro hb3 (And.intro hb4 hb5))))
  have d3 := hb3
  rw [Int.natCast_add, Int.natCast_one] at d5
  simp only [Int.natCast_zero] at d2 d4
  clear hb1 hb2 hb3 hb4 hb5
  by_cases hl0 : n.lvl = 0
  · have t0 : (n.lvl == 0) = true := by simp [hl0]
    have HL := Lib.hid hl0
    clear hl0 d3 d4 d5
    cases rs <;> cases b1 <;> cases b2
    all_goals
      go_wp2
      go_ret
      refine ⟨?_, K1.out⟩
      rw [← HR.out]
      unfold right
      rw [if_pos HL.out, HRS.out, HB.out.1, HB.out.2.1]
      rfl
  · have t0 : (n.lvl == 0) = false := by simp [hl0]
    have HL := Lib.hid hl0
    clear hl0 d1 d2
    cases rs <;> cases b3 <;> cases b4 <;> cases b5
    all_goals
      go_wp2
      go_ret
      refine ⟨?_, K1.out⟩
      rw [← HR.out]
      unfold right
      rw [if_neg HL.out, HRS.out, HB.out.2.2.1, HB.out.2.2.2.1, HB.out.2.2.2.2]
      rfl

end
end Go.Proofs.YtbhohohgojcapaaGreat

namespace Go.Proofs.YtbhohohgojcapaaGreat
open Go.RowKit

def confOk (c0 c1 c2 c3 c4 : Int) : Bool := decide (1 ≤ c0 ∧ c0 ≤ 65536) && (decide (2 ≤ c1 ∧ c1 ≤ 64) && (decide (3 ≤ c2 ∧ c2 ≤ 64) && (decide (1 ≤ c3 ∧ c3 ≤ c1) && decide (1 ≤ c4 ∧ c4 ≤ 64))))
def confE (c0 c1 c2 c3 c4 : Int) : Int := if confOk c0 c1 c2 c3 c4 then 0 else 1

theorem betweenP (n lo hi : Int) (w : World) : Calls Tryz.prog 133 #[.int .i64 n, .int .i64 lo, .int .i64 hi] w fun e w' => e = .returned (.bool (decide (lo ≤ n ∧ n ≤ hi))) ∧ w' = w := by
  by_cases h1 : lo ≤ n
  · by_cases h2 : n ≤ hi
    · go_enter Tryz.func133, Tryz.ntmps133
      go_wp2
      go_ret
      exact ⟨by simp [h1, h2], rfl⟩
    · go_enter Tryz.func133, Tryz.ntmps133
      go_wp2
      go_ret
      exact ⟨by simp [h1, h2], rfl⟩
  · go_enter Tryz.func133, Tryz.ntmps133
    go_wp2
    go_ret
    exact ⟨by simp; intro _; omega, rfl⟩

set_option maxRecDepth 100000 in
set_option maxHeartbeats 1000000 in
theorem confP (c0 c1 c2 c3 c4 : Int) (w : World) : Calls Tryz.prog 111 #[.agg #[.int .i64 c0, .int .i64 c1, .int .i64 c2, .int .i64 c3, .int .i64 c4]] w fun e w' => e = .returned (.int .i64 (confE c0 c1 c2 c3 c4)) ∧ Keeps Nob w w' := by
  unfold confE confOk
  generalize h0 : decide (1 ≤ c0 ∧ c0 ≤ 65536) = b0
  generalize h1 : decide (2 ≤ c1 ∧ c1 ≤ 64) = b1
  generalize h2 : decide (3 ≤ c2 ∧ c2 ≤ 64) = b2
  generalize h3 : decide (1 ≤ c3 ∧ c3 ≤ c1) = b3
  generalize h4 : decide (1 ≤ c4 ∧ c4 ≤ 64) = b4
  have H0 := Lib.hid h0
  have H1 := Lib.hid h1
  have H2 := Lib.hid h2
  have H3 := Lib.hid h3
  have H4 := Lib.hid h4
  clear h0 h1 h2 h3 h4
  cases b0 <;> cases b1 <;> cases b2 <;> cases b3 <;> cases b4
  all_goals
    go_enter Tryz.func111, Tryz.ntmps111
    go_wp2_with (go_at_call 133; refine (betweenP _ _ _ _).mono ?_; rintro e w1 ⟨rfl, rfl⟩; (first | rw [H0.out] | rw [H1.out] | rw [H2.out] | rw [H3.out] | rw [H4.out]))
    go_ret
    exact ⟨rfl, Keeps.alloc _ _ _⟩

set_option maxRecDepth 100000 in
set_option maxHeartbeats 1000000 in
theorem confR (c0 c1 c2 c3 c4 : Int) (w : World) : Calls Tryz.prog 93 #[.agg #[.int .i64 c0, .int .i64 c1, .int .i64 c2, .int .i64 c3, .int .i64 c4]] w fun e w' => e = .returned (.int .i64 (confE c0 c1 c2 c3 c4)) ∧ Keeps Nob w w' := by
  generalize hE : confE c0 c1 c2 c3 c4 = E
  have HE := Lib.hid hE
  clear hE
  go_enter Tryz.func93, Tryz.ntmps93
  go_wp2
  all_goals
    go_ret
    refine ⟨?_, Keeps.alloc _ _ _⟩
    rw [← HE.out]
    unfold confE confOk
    clear HE
    simp
    omega
end Go.Proofs.YtbhohohgojcapaaGreat
