import Derived.Test.YtbhohohgojcapaaGreatPkC0
import Derived.BigQuiet
namespace Go.Proofs.YtbhohohgojcapaaGreat
open Go.RowKit

section
variable {P : Program} {ops : Array Oper} {Q : Exit → Act → World → Prop} {md : Region.Mode} {k : Nat} {C : World → Prop}
/-- An operation whose guard says no. -/
theorem wpCanon_skip {i : Nat} {rest : List Nat} {listed : Array Bool} {a : Act} {w : World} {o : Oper} (ho' : ops.toList[i]? = some o)
    (hr : early md ops k i o = true) (hw : Region.wanted o (yielded ops a.tmps) = false) (h : wpCanon P md ops Q k C rest (listed.setIfInBounds i true) (a.put o.dst undef) w) : wpCanon P md ops Q k C (i :: rest) listed a w := by
  have ho : ops[i]? = some o := by rw [← Array.getElem?_toList]; exact ho'
  simp only [wpCanon, ho]
  rw [if_pos hr]
  exact ⟨undef, .inr ⟨hw, rfl⟩, h⟩
end

def keyOk (x : List UInt8) : Bool := decide ((1 : Int) ≤ (x.length : Int) ∧ (x.length : Int) ≤ 64)
theorem keyBad_eq (high x : List UInt8) : keyBad high x = (!keyOk x || beyond high x) := rfl

section
variable {S T : Nat → Prop} {w : World} {a c0 c1 c2 c3 c4 c5 : Value} {n : Nd} {x : List UInt8}

theorem keyR (h : Byts w S a x) : Calls Tryz.prog 11 #[a] w fun e w' => e = .returned (.bool (keyOk x)) ∧ w = w' := by
  obtain ⟨A, c, rfl, hn, hm⟩ := h.form
  have hz : x.length ≤ 9223372036854775807 := Nat.le_trans hn hm
  clear h hn hm
  unfold keyOk
  by_cases h1 : (1 : Int) ≤ x.length
  · by_cases h2 : (x.length : Int) ≤ 64
    · go_enter Tryz.func11, Tryz.ntmps11
      go_wp2
      go_ret
      exact ⟨by simp [h1, h2], rfl⟩
    · go_enter Tryz.func11, Tryz.ntmps11
      go_wp2
      go_ret
      exact ⟨by simp [h2], rfl⟩
  · go_enter Tryz.func11, Tryz.ntmps11
    go_wp2
    go_ret
    exact ⟨by simp; intro _; omega, rfl⟩

theorem valueR (h : Byts w S a x) : Calls Tryz.prog 139 #[a] w fun e w' => e = .returned (.bool (!valBad x)) ∧ w = w' := by
  obtain ⟨A, c, rfl, hn, hm⟩ := h.form
  have hz : x.length ≤ 9223372036854775807 := Nat.le_trans hn hm
  clear h hn hm
  unfold valBad
  go_enter Tryz.func139, Tryz.ntmps139
  go_wp2
  go_ret
  refine ⟨?_, rfl⟩
  by_cases h1 : (x.length : Int) ≤ 256
  · simp [h1]
  · simp [h1]; omega

set_option maxRecDepth 100000 in
set_option maxHeartbeats 2000000 in
theorem keysR (h : IsNd w S c0 c1 c2 c3 c4 c5 n) : Calls Tryz.prog 138 #[.agg #[c0, c1, c2, c3, c4, c5]] w fun e w' => e = .returned (.bool (keysOk n)) ∧ Keeps Nob w w' := by
  obtain ⟨X1, k1, e1, y1, z1⟩ := h.1.high.form
  obtain ⟨X3, k3, e3, y3, z3⟩ := h.2.keys.form
  obtain ⟨X4, k4, e4, y4, z4⟩ := h.2.vals.form
  obtain ⟨X5, k5, e5, y5, z5⟩ := h.2.kids.form
  have e0 := h.1.lvl
  have e2 := h.1.right
  unfold iV at e0 e2
  subst e0 e1 e2 e3 e4 e5
  have HN0 := Lib.hid h
  have hl3 : n.keys.length ≤ 9223372036854775807 := Nat.le_trans y3 z3
  have hl1 : n.high.length ≤ 9223372036854775807 := Nat.le_trans y1 z1
  clear h y1 y3 y4 y5 z1 z3 z4 z5
  unfold keysOk
  obtain ⟨br, hbr⟩ : ∃ b, rises n.keys = b := ⟨_, rfl⟩
  obtain ⟨bk, hbk⟩ : ∃ b, n.keys.any (keyBad n.high) = b := ⟨_, rfl⟩
  rw [hbr, hbk]
  have HBK := Lib.hid hbk
  have HRI : ∀ wx, Keeps Nob w wx → Calls Tryz.prog 73 #[.slice X3 n.keys.length k3] wx fun e w' => e = .returned (.bool br) ∧ Keeps Nob wx w' := fun wx k => by
    have := risesR (HN0.out.keeps k (fun _ _ _ => id)).2.keys
    rwa [hbr] at this
  clear hbr hbk
  go_enter Tryz.func138, Tryz.ntmps138
  go_wp2_with fail
  refine calls_at (fun wa hw => ?_)
  obtain ⟨N, hN⟩ : ∃ N, w.heap.size = N := ⟨_, rfl⟩
  have hka : Keeps Nob w wa := by rw [hw]; exact Keeps.alloc _ _ _
  have BN : Blk wa N 35 #[.int .i64 n.lvl, .slice X1 n.high.length k1, .int .i64 n.right, .slice X3 n.keys.length k3, .slice X4 n.vals.length k4, .slice X5 n.kids.length k5] := by rw [hw, ← hN]; exact Blk.new w _ _
  try rw [hN]
  have HBN := Lib.hid BN
  have HK := Lib.hid hka
  clear hw hN BN hka
  refine (HRI wa HK.out).mono ?_
  rintro e w1 ⟨rfl, hk1⟩
  replace HBN := Lib.hid (HBN.out.keeps hk1 id)
  replace HK := Lib.hid (HK.out.trans hk1 (fun _ _ h => h))
  clear hk1 HRI
  cases br
  · go_wp2
    go_ret
    exact ⟨rfl, HK.out⟩
  go_wp2
  go_loopw [4] (fun i wr => ∃ k : Nat, k ≤ n.keys.length ∧ i = .int .i64 k ∧ (n.keys.take k).any (keyBad n.high) = false ∧ Keeps Nob w wr ∧ Blk wr N 35 #[.int .i64 n.lvl, .slice X1 n.high.length k1, .int .i64 n.right, .slice X3 n.keys.length k3, .slice X4 n.vals.length k4, .slice X5 n.kids.length k5]) (fun i _ => n.keys.length - (intOf i).toNat)
  case atStart => exact ⟨0, Nat.zero_le _, rfl, rfl, HK.out, HBN.out⟩
  obtain ⟨k, hk, rfl, hany, hkr, hbn⟩ := hrel
  replace HBN := Lib.hid hbn
  replace HK := Lib.hid hkr
  have HANY := Lib.hid hany
  have q := fun i => hbn.cell i
  clear hbn hkr hany
  rcases Nat.lt_or_ge k n.keys.length with hlt | hlt
  · obtain ⟨x, hx⟩ : ∃ x, n.keys[k]? = some x := ⟨_, List.getElem?_eq_getElem hlt⟩
    obtain ⟨ad, rfl, _, hc⟩ := HN0.out.2.keys.cells hlt
    obtain ⟨u, hu, hbu⟩ := hc k x hx
    have q0 : wr.cell? (ad.add k) = some u := HK.out.cell hu id
    have HBU := Lib.hid (hbu.keeps HK.out (fun _ _ _ => id))
    have HX := Lib.hid hx
    have hp1 : (k : Int) < (n.keys.length : Int) := by omega
    clear hc hu hbu hx
    have HKEY := Lib.hid (keyR HBU.out)
    have hgood : ∀ b, keyBad n.high x = b → (n.keys.take (k + 1)).any (keyBad n.high) = b := fun b hb => by
      rw [take_snocC _ _ _ HX.out, List.any_append, HANY.out]; simp [hb]
    have HGOOD := Lib.hid hgood
    have hbad : keyBad n.high x = true → bk = true := fun hb => by
      rw [← HBK.out]
      exact List.any_eq_true.2 ⟨x, List.mem_of_getElem? HX.out, hb⟩
    have HBAD := Lib.hid hbad
    clear hgood hbad
    obtain ⟨bo, hbo⟩ : ∃ b, keyOk x = b := ⟨_, rfl⟩
    rw [hbo] at HKEY
    have HBO := Lib.hid hbo
    clear hbo
    go_wp2_with (go_at_call 11; refine HKEY.out.mono ?_; rintro e w2 ⟨rfl, rfl⟩)
    clear q
    cases bo
    · clear HKEY
      refine wp_region_canon [0, 1, 2, 3, 4, 5, 6, 7, 8, 9, 10, 11, 12, 13, 14, 15, 16, 17, 18, 19, 20, 21] 22 (fun W => W.cell? ⟨N, 1, none⟩ = some (.slice X1 n.high.length k1) ∧ W.cell? ⟨N, 3, none⟩ = some (.slice (some ad) n.keys.length k3) ∧ W.cell? (ad.add k) = some u) (by kernel_rfl) (by kernel_rfl) rfl (by kernel_rfl) (fun _ _ d _ _ h => by cases d <;> exact h) ?_ ?_
      · exact ⟨HBN.out.cell 1, HBN.out.cell 3, q0⟩
      iterate 18
        first
          | refine wpCanon_skip rfl (by kernel_rfl) (by rfl) ?_
          | (refine wpCanon_read (v := ?_) rfl (by kernel_rfl) (by rfl) ?_ ?_
             rotate_left
             · intro W hW
               try (obtain ⟨h1, h2, h3⟩ : _ ∧ _ ∧ _ := hW)
               go_simp
               try simp only [if_pos hp1]
               try rfl)
        simp only [Act.put, List.setIfInBounds_toArray, List.set_cons_zero, List.set_cons_succ]
      refine wpCanon_act rfl (by kernel_rfl) ?_
      go_wp2
      refine ⟨.inr ⟨HBN.out.cell 1, HBN.out.cell 3, q0⟩, ?_⟩
      iterate 3
        first
          | refine wpCanon_skip rfl (by kernel_rfl) (by rfl) ?_
          | (refine wpCanon_read (v := ?_) rfl (by kernel_rfl) (by rfl) ?_ ?_
             rotate_left
             · intro W hW
               try (obtain ⟨h1, h2, h3⟩ : _ ∧ _ ∧ _ := hW)
               go_simp
               try simp only [if_pos hp1]
               try rfl)
        simp only [Act.put, List.setIfInBounds_toArray, List.set_cons_zero, List.set_cons_succ]
      refine wpCanon_nil ?_
      go_wp2
      go_ret
      refine ⟨?_, HK.out.drew'⟩
      rw [HBAD.out (by rw [keyBad_eq, HBO.out]; rfl)]
      rfl
    · clear HKEY
      by_cases hz : 0 < n.high.length
      · have hz' : (0 : Int) < (n.high.length : Int) := by omega
        have HC := Lib.hid (cmpR (HBU.out.keeps (Keeps.drew Nob wr) (fun _ _ _ => id)) ((HN0.out.keeps (HK.out.drew') (fun _ _ _ => id)).1.high))
        rcases cmp_cases x n.high with hcm | hcm | hcm
        all_goals
          have HCM := Lib.hid hcm
          rw [hcm] at HC
          clear hcm
          refine wp_region_canon [0, 1, 2, 3, 4, 5, 6, 7, 8, 9, 10, 11, 12, 13, 14, 15, 16, 17, 18, 19, 20, 21] 22 (fun W => W.cell? ⟨N, 1, none⟩ = some (.slice X1 n.high.length k1) ∧ W.cell? ⟨N, 3, none⟩ = some (.slice (some ad) n.keys.length k3) ∧ W.cell? (ad.add k) = some u) (by kernel_rfl) (by kernel_rfl) rfl (by kernel_rfl) (fun _ _ d _ _ h => by cases d <;> exact h) ?_ ?_
          · exact ⟨HBN.out.cell 1, HBN.out.cell 3, q0⟩
          iterate 18
            first
              | refine wpCanon_skip rfl (by kernel_rfl) (by rfl) ?_
              | (refine wpCanon_read (v := ?_) rfl (by kernel_rfl) (by rfl) ?_ ?_
                 rotate_left
                 · intro W hW
                   try (obtain ⟨h1, h2, h3⟩ : _ ∧ _ ∧ _ := hW)
                   go_simp
                   try simp only [if_pos hp1]
                   try rfl)
            simp only [Act.put, List.setIfInBounds_toArray, List.set_cons_zero, List.set_cons_succ]
          refine wpCanon_act rfl (by kernel_rfl) ?_
          go_wp2_with (go_at_call 102; refine HC.out.mono ?_; rintro e w3 ⟨rfl, hk3⟩)
          have q3 : w3.cell? (ad.add k) = some u := (((Keeps.drew Nob wr).trans hk3 (fun _ _ h => h)) : Keeps Nob wr w3).cell q0 id
          have HK3 := Lib.hid (HK.out.drew'.trans hk3 (fun _ _ h => h))
          have HBN3 := Lib.hid (HBN.out.keeps ((Keeps.drew Nob wr).trans hk3 (fun _ _ h => h)) id)
          clear hk3
          refine ⟨.inr ⟨HBN3.out.cell 1, HBN3.out.cell 3, q3⟩, ?_⟩
          iterate 3
            first
              | refine wpCanon_skip rfl (by kernel_rfl) (by rfl) ?_
              | (refine wpCanon_read (v := ?_) rfl (by kernel_rfl) (by rfl) ?_ ?_
                 rotate_left
                 · intro W hW
                   try (obtain ⟨h1, h2, h3⟩ : _ ∧ _ ∧ _ := hW)
                   go_simp
                   try simp only [if_pos hp1]
                   try rfl)
            simp only [Act.put, List.setIfInBounds_toArray, List.set_cons_zero, List.set_cons_succ]
          refine wpCanon_nil ?_
          go_wp2
        · go_roundw
          case rel => exact ⟨k + 1, by omega, by go_num, HGOOD.out false (by rw [keyBad_eq, HBO.out]; unfold beyond; rw [HCM.out]; simp), HK3.out, HBN3.out⟩
          case measure => simp [intOf]; omega
        all_goals
          go_ret
          refine ⟨?_, HK3.out⟩
          rw [HBAD.out (by rw [keyBad_eq, HBO.out]; unfold beyond; rw [HCM.out]; simp [hz])]
          rfl
      · have hz' : decide ((0 : Int) < (n.high.length : Int)) = false := decide_eq_false (by omega)
        have hz2 : n.high.length = 0 := by omega
        have HZ := Lib.hid hz2
        clear hz2
        refine wp_region_canon [0, 1, 2, 3, 4, 5, 6, 7, 8, 9, 10, 11, 12, 13, 14, 15, 16, 17, 18, 19, 20, 21] 22 (fun W => W.cell? ⟨N, 1, none⟩ = some (.slice X1 n.high.length k1) ∧ W.cell? ⟨N, 3, none⟩ = some (.slice (some ad) n.keys.length k3) ∧ W.cell? (ad.add k) = some u) (by kernel_rfl) (by kernel_rfl) rfl (by kernel_rfl) (fun _ _ d _ _ h => by cases d <;> exact h) ?_ ?_
        · exact ⟨HBN.out.cell 1, HBN.out.cell 3, q0⟩
        iterate 18
          first
            | refine wpCanon_skip rfl (by kernel_rfl) (by rfl) ?_
            | (refine wpCanon_read (v := ?_) rfl (by kernel_rfl) (by rfl) ?_ ?_
               rotate_left
               · intro W hW
                 try (obtain ⟨h1, h2, h3⟩ : _ ∧ _ ∧ _ := hW)
                 go_simp
                 try simp only [if_pos hp1]
                 try rfl)
          simp only [Act.put, List.setIfInBounds_toArray, List.set_cons_zero, List.set_cons_succ]
        refine wpCanon_act rfl (by kernel_rfl) ?_
        go_wp2
        refine ⟨.inr ⟨HBN.out.cell 1, HBN.out.cell 3, q0⟩, ?_⟩
        iterate 3
          first
            | refine wpCanon_skip rfl (by kernel_rfl) (by rfl) ?_
            | (refine wpCanon_read (v := ?_) rfl (by kernel_rfl) (by rfl) ?_ ?_
               rotate_left
               · intro W hW
                 try (obtain ⟨h1, h2, h3⟩ : _ ∧ _ ∧ _ := hW)
                 go_simp
                 try simp only [if_pos hp1]
                 try rfl)
          simp only [Act.put, List.setIfInBounds_toArray, List.set_cons_zero, List.set_cons_succ]
        refine wpCanon_nil ?_
        go_wp2
        go_roundw
        case rel => exact ⟨k + 1, by omega, by go_num, HGOOD.out false (by rw [keyBad_eq, HBO.out]; unfold beyond; rw [HZ.out]; simp), HK.out.drew', HBN.out⟩
        case measure => simp [intOf]; omega
  · obtain rfl : k = n.keys.length := by omega
    go_wp2
    go_ret
    refine ⟨?_, HK.out⟩
    have h := HANY.out
    rw [List.take_length, HBK.out] at h
    rw [h]; rfl
end
end Go.Proofs.YtbhohohgojcapaaGreat
