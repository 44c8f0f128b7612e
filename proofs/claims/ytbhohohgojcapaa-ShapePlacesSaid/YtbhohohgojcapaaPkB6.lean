import Derived.Test.YtbhohohgojcapaaPkB5
import Derived.Test.YtbhohohgojcapaaPkA8
namespace Go.Proofs.Ytbhohohgojcapaa
open Go.RowKit

section
variable {S T : Nat → Prop} {w : World} {a : Value} {ls : List (List UInt8)}

set_option maxRecDepth 100000 in
set_option maxHeartbeats 1000000 in
theorem risingP (h1 : Txts w S a ls) : Calls Try.prog 129 #[a] w fun e w' => e = .returned (.bool (rises ls)) ∧ Keeps Nob w w' := by
  obtain ⟨A, c, rfl, hn1, hm1⟩ := h1.form
  have hz1 : ls.length ≤ 9223372036854775807 := Nat.le_trans hn1 hm1
  have hz2 : c ≤ 9223372036854775807 := hm1
  have H1 := Lib.hid h1
  clear h1 hm1
  by_cases hz : ls.length = 0
  · have hz' : ls = [] := List.eq_nil_of_length_eq_zero hz
    subst hz'
    go_enter Try.func129, Try.ntmps129
    go_wp2
    all_goals
      go_loopw [10] (fun i wr => i = .int .i64 0 ∧ Keeps Nob w wr) (fun _ _ => 0)
      case atStart => exact ⟨rfl, Keeps.refl _ _⟩
      obtain ⟨rfl, hK⟩ := hrel
      have HK := Lib.hid hK
      clear hK
      go_wp2
      go_ret
      exact ⟨rfl, HK.out⟩
  obtain ⟨ad, rfl, _, hcells⟩ := H1.out.cells (i := 0) (by omega)
  have HCE := Lib.hid hcells
  clear hcells
  obtain ⟨L, hL⟩ : ∃ L, ls.length = L + 1 := ⟨ls.length - 1, by omega⟩
  have HL := Lib.hid hL
  rw [hL] at hn1 hz1 ⊢
  clear hL hz
  have t1 : ¬ ((L : Int) + 1) < 1 := by omega
  have t2 : (1 : Int) ≤ (L : Int) + 1 := by omega
  by_cases hc1 : c = 1
  all_goals
    go_enter Try.func129, Try.ntmps129
    go_wp2
    go_loopw [10] (fun i wr => ∃ k : Nat, k ≤ L ∧ i = .int .i64 k ∧ (∀ (j : Nat) a b, j < k → ls[j]? = some a → ls[j + 1]? = some b → cmp a b < 0) ∧ Keeps Nob w wr) (fun i _ => L - (intOf i).toNat)
    case atStart => exact ⟨0, Nat.zero_le _, rfl, fun j a b h => absurd h (Nat.not_lt_zero _), Keeps.refl _ _⟩
    obtain ⟨k, hk, rfl, hup, hK⟩ := hrel
    have HU := Lib.hid hup
    have HK := Lib.hid hK
    clear hup hK
    rcases Nat.lt_or_ge k L with hlt | hlt
    · obtain ⟨x, hx⟩ : ∃ x, ls[k]? = some x := ⟨_, List.getElem?_eq_getElem (by have := HL.out; omega)⟩
      obtain ⟨y, hy⟩ : ∃ y, ls[k + 1]? = some y := ⟨_, List.getElem?_eq_getElem (by have := HL.out; omega)⟩
      obtain ⟨u, hu, hbu⟩ := HCE.out k x hx
      obtain ⟨v, hv, hbv⟩ := HCE.out (k + 1) y hy
      have hu' : wr.cell? (ad.add k) = some u := HK.out.cell hu id
      have hv' : wr.cell? ⟨ad.block, ad.off + (k + 1), none⟩ = some v := by have := HK.out.cell hv id; unfold Addr.add at this; simpa using this
      have hwr : IntKind.i64.wrap ((k : Int) + 1) = (k : Int) + 1 := by rw [IntKind.wrap_i64]; omega
      have hp1 : (k : Int) < (L : Int) + 1 := by omega
      have hp2 : 0 ≤ (k : Int) + 1 ∧ (k : Int) + 1 < (L : Int) + 1 := by omega
      have htn : ((k : Int) + 1).toNat = k + 1 := by omega
      have HX := Lib.hid hx
      have HY := Lib.hid hy
      have HC := Lib.hid (cmpP ((hbu.keeps HK.out (fun _ _ _ => id)).keeps (Keeps.drew Nob wr) (fun _ _ _ => id)) ((hbv.keeps HK.out (fun _ _ _ => id)).keeps (Keeps.drew Nob wr) (fun _ _ _ => id)))
      clear hu hv hbu hbv hx hy
      go_wp2
      refine wp_region_canon [0, 1, 2, 3, 4, 5, 6, 7, 8, 9, 10] 99 (fun W => W.cell? (ad.add k) = some u ∧ W.cell? ⟨ad.block, ad.off + (k + 1), none⟩ = some v) (by kernel_rfl) (by kernel_rfl) rfl (by kernel_rfl) (fun _ _ d _ _ h => by cases d <;> exact h) ⟨hu', hv'⟩ ?_
      iterate 9
        refine wpCanon_read (v := ?_) rfl (by kernel_rfl) (by rfl) ?_ ?_
        rotate_left
        · intro W hW
          try (obtain ⟨h1, h2⟩ : _ ∧ _ := hW)
          go_simp
          try simp only [hwr, if_pos hp1, if_pos hp2, htn]
          try rfl
        simp only [Act.put, List.setIfInBounds_toArray, List.set_cons_zero, List.set_cons_succ]
      refine wpCanon_act rfl (by kernel_rfl) ?_
      rcases cmp_cases x y with hcm | hcm | hcm
      all_goals
        have HCM := Lib.hid hcm
        clear hcm
        go_wp2_with (go_at_call 123; refine HC.out.mono ?_; rintro e w1 ⟨rfl, rfl⟩; rw [HCM.out])
        refine ⟨.inr ⟨hu', hv'⟩, ?_⟩
        refine wpCanon_read (v := ?_) rfl (by kernel_rfl) (by rfl) ?_ ?_
        rotate_left
        · intro W hW
          go_simp
          try rfl
        simp only [Act.put, List.setIfInBounds_toArray, List.set_cons_zero, List.set_cons_succ]
        refine wpCanon_nil ?_
        go_wp2
      · go_roundw
        case rel =>
          refine ⟨k + 1, by omega, by go_num, fun j a b hj ha hb => ?_, HK.out.drew'⟩
          by_cases hjm : j < k
          · exact HU.out j a b hjm ha hb
          · have : j = k := by omega
            subst this
            have e1 := ha.symm.trans HX.out
            have e3 := hb.symm.trans HY.out
            injection e1 with e1
            injection e3 with e3
            subst e1 e3
            rw [HCM.out]
            decide
        case measure => simp [intOf]; omega
      all_goals
        go_ret
        refine ⟨?_, HK.out.drew'⟩
        have : rises ls = false := by
          rcases hr : rises ls with _ | _
          · rfl
          · have := (rises_iff ls).1 hr k x y HX.out HY.out
            rw [HCM.out] at this
            exact absurd this (by decide)
        rw [this]; rfl
    · go_wp2
      go_ret
      refine ⟨?_, HK.out⟩
      have : rises ls = true := (rises_iff ls).2 (fun j a b ha hb => HU.out j a b (by have := (List.getElem?_eq_some_iff.1 hb).1; have := HL.out; omega) ha hb)
      rw [this]; rfl

end
end Go.Proofs.Ytbhohohgojcapaa
