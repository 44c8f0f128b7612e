import Derived.Test.YtbhohohgojcapaaPkC8
namespace Go.Proofs.Ytbhohohgojcapaa
open Go.RowKit

section
variable {S T : Nat → Prop} {w : World} {c0 c1 c2 c3 c4 c5 b : Value} {ls : List (List UInt8)} {key : List UInt8}

set_option maxRecDepth 100000 in
set_option maxHeartbeats 1000000 in
theorem findR (h1 : Txts w S c3 ls) (h2 : Byts w T b key) : Calls Try.prog 85 #[.agg #[c0, c1, c2, c3, c4, c5], b] w fun e w' => e = .returned (.tuple #[.int .i64 (below ls key), .bool (has ls key)]) ∧ Keeps Nob w w' := by
  obtain ⟨A, c, rfl, hn1, hm1⟩ := h1.form
  have hz1 : ls.length ≤ 9223372036854775807 := Nat.le_trans hn1 hm1
  have H1 := Lib.hid h1
  have H2 := Lib.hid h2
  clear h1 h2 hn1 hm1
  go_enter Try.func85, Try.ntmps85
  go_wp2
  go_loopw [6, 7, 8] (fun b t i wr => ∃ k : Nat, k ≤ ls.length ∧ i = .int .i64 k ∧ b = .int .i64 (below (ls.take k) key) ∧ t = .bool (has (ls.take k) key) ∧ Blk wr w.heap.size 37 #[c0, c1, c2, .slice A ls.length c, c4, c5] ∧ Keeps Nob w wr) (fun _ _ i _ => ls.length - (intOf i).toNat)
  case atStart => exact ⟨0, Nat.zero_le _, rfl, rfl, rfl, Blk.new _ _ _, Keeps.alloc _ _ _⟩
  case round =>
    obtain ⟨k, hk, rfl, rfl, rfl, hB, hK⟩ := hrel
    have HK := Lib.hid hK
    have HBK := Lib.hid hB
    have hb3 : wr.cell? ⟨w.heap.size, 3, none⟩ = some (.slice A ls.length c) := hB.cell 3
    clear hK hB
    have hbl := below_take ls key k
    by_cases hlt : k < ls.length
    · obtain ⟨x, hx⟩ : ∃ x, ls[k]? = some x := ⟨_, List.getElem?_eq_getElem hlt⟩
      obtain ⟨ad, rfl, _, hc⟩ := H1.out.cells hlt
      obtain ⟨u, hu, hbu⟩ := hc k x hx
      have hu' : wr.cell? (ad.add k) = some u := HK.out.cell hu id
      have HX := Lib.hid hx
      have HB := Lib.hid (below_succ (k := key) hx)
      have HH := Lib.hid (has_succ (k := key) hx)
      have HC := Lib.hid (cmpR (hbu.keeps HK.out (fun _ _ _ => id)) (H2.out.keeps HK.out (fun _ _ _ => id)))
      clear hc hu hbu hx
      generalize below (ls.take k) key = bl at hbl HB ⊢
      generalize has (ls.take k) key = hs at HH ⊢
      rcases cmp_cases x key with hcm | hcm | hcm
      all_goals
        have HCM := Lib.hid hcm
        clear hcm
        cases hs
        all_goals
          go_wp2_with (go_at_call 29; refine HC.out.mono ?_; rintro e w1 ⟨rfl, hk1⟩; have HK1 := Lib.hid hk1; clear hk1; rw [HCM.out])
          go_roundw
          case rel =>
            refine ⟨k + 1, by omega, by go_num, ?_, ?_, HBK.out.keeps HK1.out id, HK.out.trans HK1.out (fun _ _ => id)⟩
            · rw [HB.out, HCM.out]; simp
            · rw [HH.out, HCM.out]; simp
          case measure => simp [intOf]; omega
    · have hkk : k = ls.length := by omega
      subst hkk
      rw [List.take_of_length_le (Nat.le_refl _)] at hbl ⊢
      go_wp2
      go_ret2
      exact ⟨rfl, HK.out⟩
end

end Go.Proofs.Ytbhohohgojcapaa
