import Derived.Test.YtbhohohgojcapaaGreatPkB6
import Derived.Test.YtbhohohgojcapaaGreatPkA8
namespace Go.Proofs.YtbhohohgojcapaaGreat
open Go.RowKit

section
variable {S T : Nat → Prop} {w : World} {a : Value} {ls : List (List UInt8)}

set_option maxRecDepth 100000 in
set_option maxHeartbeats 1000000 in
theorem risingP (h1 : Txts w S a ls) : Calls Tryz.prog 142 #[a] w fun e w' => e = .returned (.bool (rises ls)) ∧ Keeps Nob w w' := by
  obtain ⟨A, c, rfl, hn1, hm1⟩ := h1.form
  have hz1 : ls.length ≤ 9223372036854775807 := Nat.le_trans hn1 hm1
  have hz2 : c ≤ 9223372036854775807 := hm1
  have H1 := Lib.hid h1
  clear h1 hm1
  by_cases hz : ls.length = 0
  · have hz' : ls = [] := List.eq_nil_of_length_eq_zero hz
    subst hz'
    go_enter Tryz.func142, Tryz.ntmps142
    go_wp2
    all_goals
      go_loopw [10] (fun i wr => i = .int .i64 0 ∧ Keeps Nob w wr) (fun _ _ => 0)
      case atStart => exact ⟨rfl, Keeps.refl _ _⟩
      obtain ⟨rfl, hK⟩ := hrel
      have HK := Lib.hid hK
      clear hK
      go_wp2
      go_ret
      exact ⟨rfl, HK.out⟩
  obtain ⟨ad, rfl, _, hcells⟩ := H1.out.cells (i := 0) (by omega)
  have HCE := Lib.hid hcells
  clear hcells
  obtain ⟨L, hL⟩ : ∃ L, ls.length = L + 1 := ⟨ls.length - 1, by omega⟩
  have HL := Lib.hid hL
  rw [hL] at hn1 hz1 ⊢
  clear hL hz
  have t1 : ¬ ((L : Int) + 1) < 1 := by omega
  have t2 : (1 : Int) ≤ (L : Int) + 1 := by omega
  by_cases hc1 : c = 1
  all_goals
    go_enter Tryz.func142, Tryz.ntmps142
    go_wp2
    go_loopw [10] (fun i wr => ∃ k : Nat, k ≤ L ∧ i = .int .i64 k ∧ (∀ (j : Nat) a b, j < k → ls[j]? = some a → ls[j + 1]? = some b → cmp a b < 0) ∧ Keeps Nob w wr) (fun i _ => L - (intOf i).toNat)
    case atStart => exact ⟨0, Nat.zero_le _, rfl, fun j a b h => absurd h (Nat.not_lt_zero _), Keeps.refl _ _⟩
    obtain ⟨k, hk, rfl, hup, hK⟩ := hrel
    have HU := Lib.hid hup
    have HK := Lib.hid hK
    clear hup hK
    rcases Nat.lt_or_ge k L with hlt | hlt
    · obtain ⟨x, hx⟩ : ∃ x, ls[k]? = some x := ⟨_, List.getElem?_eq_getElem (by have := HL.out; omega)⟩
      obtain ⟨y, hy⟩ : ∃ y, ls[k + 1]? = some y := ⟨_, List.getElem?_eq_getElem (by have := HL.out; omega)⟩
      obtain ⟨u, hu, hbu⟩ := HCE.out k x hx
      obtain ⟨v, hv, hbv⟩ := HCE.out (k + 1) y hy
      have hu' : wr.cell? (ad.add k) = some u := HK.out.cell hu id
      have hv' : wr.cell? ⟨ad.block, ad.off + (k + 1), none⟩ = some v := by have := HK.out.cell hv id; unfold Addr.add at this; simpa using this
      have hwr : IntKind.i64.wrap ((k : Int) + 1) = (k : Int) + 1 := by rw [IntKind.wrap_i64]; omega
      have hp1 : (k : Int) < (L : Int) + 1 := by omega
      have hp2 : 0 ≤ (k : Int) + 1 ∧ (k : Int) + 1 < (L : Int) + 1 := by omega
      have htn : ((k : Int) + 1).toNat = k + 1 := by omega
      have HX := Lib.hid hx
      have HY := Lib.hid hy
      have HC := Lib.hid (cmpP ((hbu.keeps HK.out (fun _ _ _ => id)).keeps (Keeps.drew Nob wr) (fun _ _ _ => id)) ((hbv.keeps HK.out (fun _ _ _ => id)).keeps (Keeps.drew Nob wr) (fun _ _ _ => id)))
      clear hu hv hbu hbv hx hy
      go_wp2
      refine wp_region_canon [0, 1, 2, 3, 4, 5, 6, 7, 8, 9, 10] 99 (fun W => W.cell? (ad.add k) = some u ∧ W.cell? ⟨ad.block, ad.off + (k + 1), none⟩ = some v) (by kernel_rfl) (by kernel_rfl) rfl (by kernel_rfl) (fun _ _ d _ _ h => by cases d <;> exact h) ⟨hu', hv'⟩ ?_
      iterate 9
        refine wpCanon_read (v := ?_) rfl (by kernel_rfl) (by rfl) ?_ ?_
        rotate_left
        · intro W hW
          try (obtain ⟨h1, h2⟩ : _ ∧ _ := hW)
          go_simp
          try simp only [hwr, if_pos hp1, if_pos hp2, htn]
          try rfl
        simp only [Act.put, List.setIfInBounds_toArray, List.set_cons_zero, List.set_cons_succ]
      refine wpCanon_act rfl (by kernel_rfl) ?_
      rcases cmp_cases x y with hcm | hcm | hcm
      all_goals
        have HCM := Lib.hid hcm
        clear hcm
        go_wp2_with (go_at_call 98; refine HC.out.mono ?_; rintro e w1 ⟨rfl, rfl⟩; rw [HCM.out])
        refine ⟨.inr ⟨hu', hv'⟩, ?_⟩
        refine wpCanon_read (v := ?_) rfl (by kernel_rfl) (by rfl) ?_ ?_
        rotate_left
        · intro W hW
          go_simp
          try rfl
        simp only [Act.put, List.setIfInBounds_toArray, List.set_cons_zero, List.set_cons_succ]
        refine wpCanon_nil ?_
        go_wp2
      · go_roundw
        case rel =>
          refine ⟨k + 1, by omega, by go_num, fun j a b hj ha hb => ?_, HK.out.drew'⟩
          by_cases hjm : j < k
          · exact HU.out j a b hjm ha hb
          · have : j = k := by omega
            subst this
            have e1 := ha.symm.trans HX.out
            have e3 := hb.symm.trans HY.out
            injection e1 with e1
            injection e3 with e3
            subst e1 e3
            rw [HCM.out]
            decide
        case measure => simp [intOf]; omega
      all_goals
        go_ret
        refine ⟨?_, HK.out.drew'⟩
        have : rises ls = false := by
          rcases hr : rises ls with _ | _
          · rfl
          · have := (rises_iff ls).1 hr k x y HX.out HY.out
            rw [HCM.out] at this
            exact absurd this (by decide)
        rw [this]; rfl
    · go_wp2
      go_ret
      refine ⟨?_, HK.out⟩
      have : rises ls = true := (rises_iff ls).2 (fun j a b ha hb => HU.out j a b (by have := (List.getElem?_eq_some_iff.1 hb).1; have := HL.out; omega) ha hb)
      rw [this]; rfl

end
end Go.Proofs.YtbhohohgojcapaaGreat

namespace Go.Proofs.YtbhohohgojcapaaGreat
open Go.RowKit

section
variable {S T : Nat → Prop} {w : World} {a : Value} {ls : List (List UInt8)}

def keyBad (high x : List UInt8) : Bool := !(decide ((1 : Int) ≤ (x.length : Int) ∧ (x.length : Int) ≤ 64)) || beyond high x
def valBad (x : List UInt8) : Bool := decide ((256 : Int) < (x.length : Int))

set_option maxRecDepth 100000 in
theorem keyF {B : Nat} {c0 c1 c2 c3 c4 c5 u : Value} {high x : List UInt8} (hb : Blk w B 35 #[c0, c1, c2, c3, c4, c5]) (h1 : Byts w S c1 high) (h2 : Byts w T u x) :
    Calls Tryz.prog 144 #[u, .pointer (some ⟨B, 0, none⟩)] w fun e w' => e = .returned (.bool (keyBad high x)) ∧ Keeps Nob w w' := by
  obtain ⟨A, c, rfl, hn, hm⟩ := h2.form
  have hz : x.length ≤ 9223372036854775807 := Nat.le_trans hn hm
  have HC := Lib.hid (beyondP (c0 := c0) (c2 := c2) (c3 := c3) (c4 := c4) (c5 := c5) h1 h2)
  unfold keyBad
  obtain ⟨b1, hb1⟩ : ∃ b, decide ((1 : Int) ≤ (x.length : Int) ∧ (x.length : Int) ≤ 64) = b := ⟨_, rfl⟩
  obtain ⟨b2, hb2⟩ : ∃ b, beyond high x = b := ⟨_, rfl⟩
  rw [hb1, hb2]
  have HB1 := Lib.hid hb1
  have HB2 := Lib.hid hb2
  have q := fun i => hb.cell i
  clear hb1 hb2 h1 h2 hb hn hm
  cases b1 <;> cases b2
  all_goals
    go_enter Tryz.func144, Tryz.ntmps144
    go_wp2_with (first
      | (go_at_call 133; refine (betweenP _ _ _ _).mono ?_; rintro e w1 ⟨rfl, rfl⟩; rw [HB1.out])
      | (go_at_call 145; refine HC.out.mono ?_; rintro e w1 ⟨rfl, hk⟩; have HK := Lib.hid hk; clear hk; rw [HB2.out]))
    go_ret
    first
      | exact ⟨rfl, HK.out⟩
      | exact ⟨rfl, Keeps.refl _ _⟩

theorem valF {u : Value} {x : List UInt8} (h2 : Byts w T u x) :
    Calls Tryz.prog 150 #[u] w fun e w' => e = .returned (.bool (valBad x)) ∧ Keeps Nob w w' := by
  obtain ⟨A, c, rfl, hn, hm⟩ := h2.form
  clear h2
  unfold valBad
  obtain ⟨b1, hb1⟩ : ∃ b, decide ((256 : Int) < (x.length : Int)) = b := ⟨_, rfl⟩
  rw [hb1]
  cases b1
  all_goals
    go_enter Tryz.func150, Tryz.ntmps150
    go_wp2
    go_ret
    exact ⟨rfl, Keeps.refl _ _⟩

set_option maxRecDepth 100000 in
set_option maxHeartbeats 1000000 in
theorem indexC {q : Option Addr} {p : List UInt8 → Bool} (h : Txts w S a ls) (hp : ∀ W u x, Keeps Nob w W → Byts W S u x → Calls Tryz.prog 144 #[u, .pointer q] W fun e w' => e = .returned (.bool (p x)) ∧ Keeps Nob W w') :
    Calls Tryz.prog 149 #[a, .func (.func 144) #[] #[.pointer q]] w fun e w' => ∃ r : Int, e = .returned (.int .i64 r) ∧ decide (0 ≤ r) = ls.any p ∧ Keeps Nob w w' := by
  obtain ⟨A, c, rfl, hn, hm⟩ := h.form
  have hz : ls.length ≤ 9223372036854775807 := Nat.le_trans hn hm
  have H := Lib.hid h
  have HP := Lib.hid hp
  clear h hp hn hm
  go_enter Tryz.func149, Tryz.ntmps149
  go_wp2
  go_loopw [8] (fun i wr => ∃ k : Nat, k ≤ ls.length ∧ i = .int .i64 k ∧ (ls.take k).any p = false ∧ Keeps Nob w wr) (fun i _ => ls.length - (intOf i).toNat)
  case atStart => exact ⟨0, Nat.zero_le _, rfl, rfl, Keeps.refl _ _⟩
  obtain ⟨k, hk, rfl, hany, hK⟩ := hrel
  have HA := Lib.hid hany
  have HK := Lib.hid hK
  clear hany hK
  rcases Nat.lt_or_ge k ls.length with hlt | hlt
  · obtain ⟨x, hx⟩ : ∃ x, ls[k]? = some x := ⟨_, List.getElem?_eq_getElem hlt⟩
    obtain ⟨ad, rfl, _, hc⟩ := H.out.cells hlt
    obtain ⟨u, hu, hbu⟩ := hc k x hx
    have hu' : wr.cell? (ad.add k) = some u := HK.out.cell hu id
    have HC := Lib.hid (HP.out wr u x HK.out (hbu.keeps HK.out (fun _ _ _ => id)))
    have HX := Lib.hid hx
    clear hc hu hbu hx
    obtain ⟨b, hb⟩ : ∃ b, p x = b := ⟨_, rfl⟩
    have HB := Lib.hid hb
    clear hb
    cases b
    · go_wp2_with (go_at_call 144; refine HC.out.mono ?_; rintro e w1 ⟨rfl, hk1⟩; have HK1 := Lib.hid hk1; clear hk1; rw [HB.out])
      go_roundw
      case rel => exact ⟨k + 1, by omega, by go_num, by rw [List.take_add_one, HX.out, List.any_append, HA.out]; simp [HB.out], HK.out.trans HK1.out (fun _ _ h => h)⟩
      case measure => simp [intOf]; omega
    · go_wp2_with (go_at_call 144; refine HC.out.mono ?_; rintro e w1 ⟨rfl, hk1⟩; have HK1 := Lib.hid hk1; clear hk1; rw [HB.out])
      go_ret
      refine ⟨k, rfl, ?_, HK.out.trans HK1.out (fun _ _ h => h)⟩
      have : ls.any p = true := List.any_eq_true.2 ⟨x, List.mem_of_getElem? HX.out, HB.out⟩
      rw [this]
      exact decide_eq_true (by omega)
  · obtain rfl : k = ls.length := by omega
    go_wp2
    go_ret
    refine ⟨-1, rfl, ?_, HK.out⟩
    have h := HA.out
    rw [List.take_length] at h
    rw [h]; rfl

set_option maxRecDepth 100000 in
theorem containsC {q : Option Addr} {p : List UInt8 → Bool} (h : Txts w S a ls) (hp : ∀ W u x, Keeps Nob w W → Byts W S u x → Calls Tryz.prog 144 #[u, .pointer q] W fun e w' => e = .returned (.bool (p x)) ∧ Keeps Nob W w') :
    Calls Tryz.prog 143 #[a, .func (.func 144) #[] #[.pointer q]] w fun e w' => e = .returned (.bool (ls.any p)) ∧ Keeps Nob w w' := by
  have HC := Lib.hid (indexC h hp)
  clear h hp
  go_enter Tryz.func143, Tryz.ntmps143
  go_wp2_with (go_at_call 149; refine HC.out.mono ?_; rintro e w1 ⟨r, rfl, hr, hk1⟩; have HR := Lib.hid hr; have HK1 := Lib.hid hk1; clear hk1 hr)
  go_ret
  refine ⟨?_, HK1.out⟩
  rw [← HR.out]; rfl

set_option maxRecDepth 100000 in
set_option maxHeartbeats 1000000 in
theorem indexL {p : List UInt8 → Bool} (h : Txts w S a ls) (hp : ∀ W u x, Keeps Nob w W → Byts W S u x → Calls Tryz.prog 150 #[u] W fun e w' => e = .returned (.bool (p x)) ∧ Keeps Nob W w') :
    Calls Tryz.prog 149 #[a, .func (.func 150) #[] #[]] w fun e w' => ∃ r : Int, e = .returned (.int .i64 r) ∧ decide (0 ≤ r) = ls.any p ∧ Keeps Nob w w' := by
  obtain ⟨A, c, rfl, hn, hm⟩ := h.form
  have hz : ls.length ≤ 9223372036854775807 := Nat.le_trans hn hm
  have H := Lib.hid h
  have HP := Lib.hid hp
  clear h hp hn hm
  go_enter Tryz.func149, Tryz.ntmps149
  go_wp2
  go_loopw [8] (fun i wr => ∃ k : Nat, k ≤ ls.length ∧ i = .int .i64 k ∧ (ls.take k).any p = false ∧ Keeps Nob w wr) (fun i _ => ls.length - (intOf i).toNat)
  case atStart => exact ⟨0, Nat.zero_le _, rfl, rfl, Keeps.refl _ _⟩
  obtain ⟨k, hk, rfl, hany, hK⟩ := hrel
  have HA := Lib.hid hany
  have HK := Lib.hid hK
  clear hany hK
  rcases Nat.lt_or_ge k ls.length with hlt | hlt
  · obtain ⟨x, hx⟩ : ∃ x, ls[k]? = some x := ⟨_, List.getElem?_eq_getElem hlt⟩
    obtain ⟨ad, rfl, _, hc⟩ := H.out.cells hlt
    obtain ⟨u, hu, hbu⟩ := hc k x hx
    have hu' : wr.cell? (ad.add k) = some u := HK.out.cell hu id
    have HC := Lib.hid (HP.out wr u x HK.out (hbu.keeps HK.out (fun _ _ _ => id)))
    have HX := Lib.hid hx
    clear hc hu hbu hx
    obtain ⟨b, hb⟩ : ∃ b, p x = b := ⟨_, rfl⟩
    have HB := Lib.hid hb
    clear hb
    cases b
    · go_wp2_with (go_at_call 150; refine HC.out.mono ?_; rintro e w1 ⟨rfl, hk1⟩; have HK1 := Lib.hid hk1; clear hk1; rw [HB.out])
      go_roundw
      case rel => exact ⟨k + 1, by omega, by go_num, by rw [List.take_add_one, HX.out, List.any_append, HA.out]; simp [HB.out], HK.out.trans HK1.out (fun _ _ h => h)⟩
      case measure => simp [intOf]; omega
    · go_wp2_with (go_at_call 150; refine HC.out.mono ?_; rintro e w1 ⟨rfl, hk1⟩; have HK1 := Lib.hid hk1; clear hk1; rw [HB.out])
      go_ret
      refine ⟨k, rfl, ?_, HK.out.trans HK1.out (fun _ _ h => h)⟩
      have : ls.any p = true := List.any_eq_true.2 ⟨x, List.mem_of_getElem? HX.out, HB.out⟩
      rw [this]
      exact decide_eq_true (by omega)
  · obtain rfl : k = ls.length := by omega
    go_wp2
    go_ret
    refine ⟨-1, rfl, ?_, HK.out⟩
    have h := HA.out
    rw [List.take_length] at h
    rw [h]; rfl

set_option maxRecDepth 100000 in
theorem containsL {p : List UInt8 → Bool} (h : Txts w S a ls) (hp : ∀ W u x, Keeps Nob w W → Byts W S u x → Calls Tryz.prog 150 #[u] W fun e w' => e = .returned (.bool (p x)) ∧ Keeps Nob W w') :
    Calls Tryz.prog 143 #[a, .func (.func 150) #[] #[]] w fun e w' => e = .returned (.bool (ls.any p)) ∧ Keeps Nob w w' := by
  have HC := Lib.hid (indexL h hp)
  clear h hp
  go_enter Tryz.func143, Tryz.ntmps143
  go_wp2_with (go_at_call 149; refine HC.out.mono ?_; rintro e w1 ⟨r, rfl, hr, hk1⟩; have HR := Lib.hid hr; have HK1 := Lib.hid hk1; clear hk1 hr)
  go_ret
  refine ⟨?_, HK1.out⟩
  rw [← HR.out]; rfl
end
end Go.Proofs.YtbhohohgojcapaaGreat
