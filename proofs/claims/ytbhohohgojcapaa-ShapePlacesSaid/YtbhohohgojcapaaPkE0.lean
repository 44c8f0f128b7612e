import Derived.Test.YtbhohohgojcapaaPkD9
namespace Go.Proofs.Ytbhohohgojcapaa
open Go.RowKit

section
variable {a0 a1 a2 a3 a4 : Int}
end
/-- A new arena's levels. -/
theorem levels9 : levelsM (ar0 9) 9 2 3 2 4 = ([[(1, [])]], .ok) := by decide
theorem head9 {w : World} {S : Nat → Prop} {v : Value} {lvs : List Lq} (hlm : lvs.map Lq.ch = [[(1, [])]]) (hok : ∀ l ∈ lvs, LqOk (ar0 9) l) (hrow : Own w S 147 1 v lvs.length (lvs.map Lq.v)) (hlv : ∀ l ∈ lvs, (lqOb l).P w) :
    ∃ gL oL lc g o uc LA LC X1 k1 X3 k3 X4 k4 X5 k5, v = .slice (some ⟨gL, oL, none⟩) 1 lc ∧ w.cell? ⟨gL, oL, none⟩ = some (.slice (some ⟨g, o, none⟩) 1 uc) ∧ w.cell? ⟨g, o, none⟩ = some (.int .i64 1) ∧ w.cell? ⟨g, o + 1, none⟩ = some (.slice LA 0 LC) ∧ w.cell? ⟨g, o + 2, none⟩ = some (.int .i64 0) ∧ w.cell? ⟨g, o + 3, none⟩ = some (.slice X1 0 k1) ∧ w.cell? ⟨g, o + 4, none⟩ = some (.int .i64 0) ∧ w.cell? ⟨g, o + 5, none⟩ = some (.slice X3 0 k3) ∧ w.cell? ⟨g, o + 6, none⟩ = some (.slice X4 0 k4) ∧ w.cell? ⟨g, o + 7, none⟩ = some (.slice X5 0 k5) := by
  have h1 : lvs.length = 1 := by have h := congrArg List.length hlm; simpa using h
  obtain ⟨l, rfl⟩ := List.length_eq_one_iff.1 h1
  have hl : l.ks.map Lk.pr = [(1, [])] := by have h := hlm; simp only [List.map_cons, List.map_nil, Lq.ch] at h; injection h
  have hlP := hlv l (by simp)
  have hlO := (hok l (by simp)).1
  have h2 : l.ks.length = 1 := by have h := congrArg List.length hl; simpa using h
  obtain ⟨k, hk⟩ := List.length_eq_one_iff.1 h2
  have hkp : k.pr = (1, []) := by rw [hk] at hl; simpa using hl
  have hid : k.id = 1 := congrArg Prod.fst hkp
  have hlow : k.low = [] := congrArg Prod.snd hkp
  obtain ⟨s2, g1, g2, _⟩ := hlO k (by rw [hk]; simp)
  have hnd : k.nd = Nd.zero := by rw [hid] at g1; have h : (ar0 9).get 1 = some ⟨0, Nd.zero⟩ := rfl; rw [h] at g1; cases g1; exact g2.symm
  obtain ⟨vA, vc, ev⟩ := hrow.form
  subst ev
  obtain ⟨gL, oL, eL, c0⟩ := Own.at8 hrow (by simp) (show ([l].map Lq.v)[0]? = some l.v from rfl)
  subst eL
  obtain ⟨uA, uc, eu⟩ := hlP.1.form
  have hP1 := hlP.1
  rw [eu] at hP1 c0
  obtain ⟨g, o, LA, LC, X1, k1, X3, k3, X4, k4, X5, k5, eA, q0, q1, q2, q3, q4, q5, q6, q7, _, _⟩ := lk_cells (i := 0) hP1 rfl (by rw [hk]; rfl) (hlP.2 k (by rw [hk]; simp))
  subst eA
  rw [hnd] at q2 q3 q4 q5 q6 q7
  rw [hid] at q0
  rw [hlow] at q1
  have e1 : l.ks.length = 1 := by rw [hk]; rfl
  rw [e1] at c0
  simp only [Nat.zero_mul, Nat.add_zero] at q0 q1 q2 q3 q4 q5 q6 q7 c0
  exact ⟨gL, oL, vc, g, o, uc, LA, LC, X1, k1, X3, k3, X4, k4, X5, k5, rfl, c0, q0, q1, q2, q3, q4, q5, q6, q7⟩
theorem emptyF (B : Option Addr) (n c : Nat) (w : World) : Calls Try.prog 82 #[.slice B n c] w fun e w' => e = .returned (.bool ((n : Int) == 0)) ∧ w' = w := by
  go_enter Try.func82, Try.ntmps82
  go_wp2
  go_ret
  exact ⟨rfl, rfl⟩
set_option maxRecDepth 100000 in
set_option maxHeartbeats 64000000 in
theorem indexF {w : World} {gL oL lc uc : Nat} {B : Option Addr} (hc : w.cell? ⟨gL, oL, none⟩ = some (.slice B 1 uc)) : Calls Try.prog 107 #[.slice (some ⟨gL, oL, none⟩) 1 lc, .func (.func 82) #[] #[]] w fun e w' => e = .returned (.int .i64 (-1)) ∧ w' = w := by
  go_enter Try.func107, Try.ntmps107
  go_wp2
  go_loopw [8] (fun iv wr => ∃ k : Nat, k ≤ 1 ∧ iv = .int .i64 k ∧ wr = w) (fun iv _ => 1 - (intOf iv).toNat)
  case atStart => exact ⟨0, Nat.zero_le _, rfl, rfl⟩
  obtain ⟨k, hk, rfl, rfl⟩ := hrel
  rcases Nat.eq_zero_or_pos k with hk0 | hk0
  · subst hk0
    go_wp2_with (go_at_call 82; refine (emptyF _ _ _ _).mono ?_; rintro e w2 ⟨rfl, rfl⟩)
    go_roundw
    case rel => exact ⟨1, Nat.le_refl _, rfl, trivial⟩
    case measure => simp [intOf]
  · obtain rfl : k = 1 := by omega
    clear hk hk0
    go_wp2
    go_ret
    exact ⟨rfl, rfl⟩
theorem containsF {w : World} {gL oL lc uc : Nat} {B : Option Addr} (hc : w.cell? ⟨gL, oL, none⟩ = some (.slice B 1 uc)) : Calls Try.prog 81 #[.slice (some ⟨gL, oL, none⟩) 1 lc, .func (.func 82) #[] #[]] w fun e w' => e = .returned (.bool false) ∧ w' = w := by
  have H := Lib.hid (indexF (lc := lc) hc)
  clear hc
  go_enter Try.func81, Try.ntmps81
  go_wp2_with (go_at_call 107; refine H.out.mono ?_; rintro e w2 ⟨rfl, rfl⟩)
  go_ret
  exact ⟨rfl, rfl⟩
section
variable {w : World} {M D0 : Nat → Prop} {p : Nat} {slots : Value} {ids : List Nat}
set_option maxRecDepth 100000 in
set_option maxHeartbeats 64000000 in
theorem ppacked9 (h0 : ArW w M D0 p slots ids (ar0 9)) : Calls Try.prog 33 #[pV p, .agg #[.int .i64 9, .int .i64 2, .int .i64 3, .int .i64 2, .int .i64 4]] w fun e w' => e = .returned (.bool true) ∧ Keeps Nob w w' := by
  have hsm : ∀ s ∈ (ar0 9).sl, NdSm 0 s.nd := fun s hs => by have h : s = ⟨0, Nd.zero⟩ := (by simpa [ar0] using hs); rw [h]; exact sm_zero
  have hkw : ∀ s ∈ (ar0 9).sl, ∀ k ∈ s.nd.kids, K64 k := fun s hs k hk => by have h : s = ⟨0, Nd.zero⟩ := (by simpa [ar0] using hs); rw [h] at hk; simp [Nd.zero] at hk
  have H0 := Lib.hid h0
  have FL := fun wx (h : ArW wx M D0 p slots ids (ar0 9)) => plevelsR h hsm hkw levels9
  clear h0 hsm hkw
  obtain ⟨P3, hP⟩ : ∃ N, w.heap.size = N := ⟨_, rfl⟩
  have HP := Lib.hid hP
  clear hP
  unfold pV at FL ⊢
  have hns : ∀ (g o n c : Nat) (w : World), (binOp .eql 142 (.slice (some ⟨g, o, none⟩) n c) (.slice none 0 0)).run Try.prog w = .ok (.bool false) w := fun _ _ _ _ _ => by kernel_rfl
  go_enter Try.func33, Try.ntmps33
  go_wp2_with fail
  rw [HP.out]
  refine calls_at (fun w1 hw => ?_)
  have K : Hid (Keeps Nob w w1) := by rw [hw]; exact Lib.hid (Keeps.alloc _ _ _)
  have HB : Hid (Blk w1 P3 69 #[.int .i64 9, .int .i64 2, .int .i64 3, .int .i64 2, .int .i64 4]) := by rw [hw, ← HP.out]; exact Lib.hid (Blk.new _ _ _)
  clear hw
  refine (FL _ (H0.out.keeps K.out (fun _ _ _ h => h) (fun _ _ _ h => h))).mono ?_
  rintro e w2 ⟨hk, hcase⟩
  replace HB := Lib.hid (HB.out.keeps hk (fun h => h))
  replace K := Lib.hid (K.out.trans hk (fun _ _ h => h))
  clear hk FL H0
  have HKW := K
  rcases hcase with ⟨_, v, lvs, rfl, _, hlm, hlok, hrow, hlv⟩ | ⟨hs, _⟩
  rotate_left
  · cases hs
  obtain ⟨gL, oL, lc, g, o, uc, LA, LC, X1, k1, X3, k3, X4, k4, X5, k5, ev, c0, q0, q1, q2, q3, q4, q5, q6, q7⟩ := head9 hlm hlok hrow (fun l hl => (hlv l hl).1)
  subst ev
  have HC := Lib.hid (And.intro c0 (And.intro q0 (And.intro q1 (And.intro q2 (And.intro q3 (And.intro q4 (And.intro q5 (And.intro q6 q7))))))))
  clear hlm hlok hrow hlv q0 q1 q2 q3 q4 q5 q6 q7
  have HL : Hid (gL < w2.heap.size) := Lib.hid (World.block_lt_of_cell? _ _ c0)
  clear c0
  have f0 := ((Blk.new w2 144 #[.int .i64 0, .int .i64 0])).frozen 0
  have z0 := ((Blk.new w2 144 #[.int .i64 0, .int .i64 0])).cell 0
  have f1 := fun (v0 : Value) => (((Blk.new w2 144 #[.int .i64 0, .int .i64 0])).set_ 0 v0).frozen 1
  have z1 := fun (v0 : Value) => (((Blk.new w2 144 #[.int .i64 0, .int .i64 0])).set_ 0 v0).cell 1
  go_upto_region 2 with (fail)
  clear f0 z0 f1 z1
  refine code_at (fun w3 hw => ?_)
  have hk : Keeps Nob w2 w3 := by rw [hw]; exact Keeps.alloc _ _ _
  have HK2 := Lib.hid hk
  replace HB := Lib.hid (HB.out.keeps hk (fun h => h))
  replace K := Lib.hid (K.out.trans hk (fun _ _ h => h))
  clear hk hw
  have c0 := HK2.out.cell HC.out.1 (fun h => h)
  go_upto_region 4 with (fail)
  clear c0 hns
  go_wp2
  go_loopw [48] (fun iv wr => ∃ k : Nat, k ≤ 1 ∧ iv = .int .i64 k ∧ Blk wr P3 69 #[.int .i64 9, .int .i64 2, .int .i64 3, .int .i64 2, .int .i64 4] ∧ Keeps Nob w2 wr) (fun iv _ => 1 - (intOf iv).toNat)
  case atStart => exact ⟨0, Nat.zero_le _, rfl, HB.out, HK2.out⟩
  clear HB HK2
  obtain ⟨k, hk, rfl, hb, hk2⟩ := hrel
  have HB := Lib.hid hb
  have K2 := Lib.hid hk2
  clear hb hk2
  rcases Nat.eq_zero_or_pos k with hk0 | hk0
  rotate_left
  · obtain rfl : k = 1 := by omega
    clear hk hk0
    go_wp2_with (go_at_call 81; refine (containsF (K2.out.cell HC.out.1 (fun h => h))).mono ?_; rintro e w6 ⟨rfl, rfl⟩)
    go_ret
    exact ⟨rfl, (HKW.out.trans K2.out (fun _ _ h => h))⟩
  subst hk0
  have c0 := K2.out.cell HC.out.1 (fun h => h)
  go_wp2
  clear c0
  go_loopw [9, 58] (fun kv jv wr => ∃ j : Nat, j ≤ 1 ∧ jv = .int .i64 j ∧ kv = .int .i64 0 ∧ Blk wr P3 69 #[.int .i64 9, .int .i64 2, .int .i64 3, .int .i64 2, .int .i64 4] ∧ Keeps Nob w2 wr) (fun _ jv _ => 1 - (intOf jv).toNat)
  case atStart => exact ⟨0, Nat.zero_le _, rfl, rfl, HB.out, K2.out⟩
  clear HB K2
  obtain ⟨j, hj, rfl, rfl, hb, hk2⟩ := hrel
  have HB := Lib.hid hb
  have K2 := Lib.hid hk2
  clear hb hk2
  rcases Nat.eq_zero_or_pos j with hj0 | hj0
  rotate_left
  · obtain rfl : j = 1 := by omega
    clear hj hj0
    go_wp2
    go_roundw
    case rel => exact ⟨1, Nat.le_refl _, rfl, HB.out, K2.out⟩
    case measure => simp [intOf]
  subst hj0
  obtain ⟨_, q0, q1, q2, q3, q4, q5, q6, q7⟩ := HC.out
  replace q0 := K2.out.cell q0 (fun h => h)
  replace q1 := K2.out.cell q1 (fun h => h)
  replace q2 := K2.out.cell q2 (fun h => h)
  replace q3 := K2.out.cell q3 (fun h => h)
  replace q4 := K2.out.cell q4 (fun h => h)
  replace q5 := K2.out.cell q5 (fun h => h)
  replace q6 := K2.out.cell q6 (fun h => h)
  replace q7 := K2.out.cell q7 (fun h => h)
  have f0 := ((Blk.new wr 149 #[.int .i64 0, .slice none 0 0, .int .i64 0, .slice none 0 0, .int .i64 0, .slice none 0 0, .slice none 0 0, .slice none 0 0])).frozen 0
  have z0 := ((Blk.new wr 149 #[.int .i64 0, .slice none 0 0, .int .i64 0, .slice none 0 0, .int .i64 0, .slice none 0 0, .slice none 0 0, .slice none 0 0])).cell 0
  have f1 := fun (v0 : Value) => (((Blk.new wr 149 #[.int .i64 0, .slice none 0 0, .int .i64 0, .slice none 0 0, .int .i64 0, .slice none 0 0, .slice none 0 0, .slice none 0 0])).set_ 0 v0).frozen 1
  have z1 := fun (v0 : Value) => (((Blk.new wr 149 #[.int .i64 0, .slice none 0 0, .int .i64 0, .slice none 0 0, .int .i64 0, .slice none 0 0, .slice none 0 0, .slice none 0 0])).set_ 0 v0).cell 1
  have f2 := fun (v0 v1 : Value) => ((((Blk.new wr 149 #[.int .i64 0, .slice none 0 0, .int .i64 0, .slice none 0 0, .int .i64 0, .slice none 0 0, .slice none 0 0, .slice none 0 0])).set_ 0 v0).set_ 1 v1).frozen 2
  have z2 := fun (v0 v1 : Value) => ((((Blk.new wr 149 #[.int .i64 0, .slice none 0 0, .int .i64 0, .slice none 0 0, .int .i64 0, .slice none 0 0, .slice none 0 0, .slice none 0 0])).set_ 0 v0).set_ 1 v1).cell 2
  have f3 := fun (v0 v1 v2 : Value) => (((((Blk.new wr 149 #[.int .i64 0, .slice none 0 0, .int .i64 0, .slice none 0 0, .int .i64 0, .slice none 0 0, .slice none 0 0, .slice none 0 0])).set_ 0 v0).set_ 1 v1).set_ 2 v2).frozen 3
  have z3 := fun (v0 v1 v2 : Value) => (((((Blk.new wr 149 #[.int .i64 0, .slice none 0 0, .int .i64 0, .slice none 0 0, .int .i64 0, .slice none 0 0, .slice none 0 0, .slice none 0 0])).set_ 0 v0).set_ 1 v1).set_ 2 v2).cell 3
  have f4 := fun (v0 v1 v2 v3 : Value) => ((((((Blk.new wr 149 #[.int .i64 0, .slice none 0 0, .int .i64 0, .slice none 0 0, .int .i64 0, .slice none 0 0, .slice none 0 0, .slice none 0 0])).set_ 0 v0).set_ 1 v1).set_ 2 v2).set_ 3 v3).frozen 4
  have z4 := fun (v0 v1 v2 v3 : Value) => ((((((Blk.new wr 149 #[.int .i64 0, .slice none 0 0, .int .i64 0, .slice none 0 0, .int .i64 0, .slice none 0 0, .slice none 0 0, .slice none 0 0])).set_ 0 v0).set_ 1 v1).set_ 2 v2).set_ 3 v3).cell 4
  have f5 := fun (v0 v1 v2 v3 v4 : Value) => (((((((Blk.new wr 149 #[.int .i64 0, .slice none 0 0, .int .i64 0, .slice none 0 0, .int .i64 0, .slice none 0 0, .slice none 0 0, .slice none 0 0])).set_ 0 v0).set_ 1 v1).set_ 2 v2).set_ 3 v3).set_ 4 v4).frozen 5
  have z5 := fun (v0 v1 v2 v3 v4 : Value) => (((((((Blk.new wr 149 #[.int .i64 0, .slice none 0 0, .int .i64 0, .slice none 0 0, .int .i64 0, .slice none 0 0, .slice none 0 0, .slice none 0 0])).set_ 0 v0).set_ 1 v1).set_ 2 v2).set_ 3 v3).set_ 4 v4).cell 5
  have f6 := fun (v0 v1 v2 v3 v4 v5 : Value) => ((((((((Blk.new wr 149 #[.int .i64 0, .slice none 0 0, .int .i64 0, .slice none 0 0, .int .i64 0, .slice none 0 0, .slice none 0 0, .slice none 0 0])).set_ 0 v0).set_ 1 v1).set_ 2 v2).set_ 3 v3).set_ 4 v4).set_ 5 v5).frozen 6
  have z6 := fun (v0 v1 v2 v3 v4 v5 : Value) => ((((((((Blk.new wr 149 #[.int .i64 0, .slice none 0 0, .int .i64 0, .slice none 0 0, .int .i64 0, .slice none 0 0, .slice none 0 0, .slice none 0 0])).set_ 0 v0).set_ 1 v1).set_ 2 v2).set_ 3 v3).set_ 4 v4).set_ 5 v5).cell 6
  have f7 := fun (v0 v1 v2 v3 v4 v5 v6 : Value) => (((((((((Blk.new wr 149 #[.int .i64 0, .slice none 0 0, .int .i64 0, .slice none 0 0, .int .i64 0, .slice none 0 0, .slice none 0 0, .slice none 0 0])).set_ 0 v0).set_ 1 v1).set_ 2 v2).set_ 3 v3).set_ 4 v4).set_ 5 v5).set_ 6 v6).frozen 7
  have z7 := fun (v0 v1 v2 v3 v4 v5 v6 : Value) => (((((((((Blk.new wr 149 #[.int .i64 0, .slice none 0 0, .int .i64 0, .slice none 0 0, .int .i64 0, .slice none 0 0, .slice none 0 0, .slice none 0 0])).set_ 0 v0).set_ 1 v1).set_ 2 v2).set_ 3 v3).set_ 4 v4).set_ 5 v5).set_ 6 v6).cell 7
  go_upto_region 12 with (fail)
  clear q0 q1 q2 q3 q4 q5 q6 q7
  clear f0 z0 f1 z1 f2 z2 f3 z3 f4 z4 f5 z5 f6 z6 f7 z7
  obtain ⟨N12, hN⟩ : ∃ N, wr.heap.size = N := ⟨_, rfl⟩
  rw [hN]
  refine code_at (fun w5 hw => ?_)
  have hk5 : Keeps Nob wr w5 := by rw [hw]; exact Keeps.alloc _ _ _
  have hB : Blk w5 N12 149 #[.int .i64 1, .slice LA 0 LC, .int .i64 0, .slice X1 0 k1, .int .i64 0, .slice X3 0 k3, .slice X4 0 k4, .slice X5 0 k5] := by rw [hw, ← hN]; exact Blk.new _ _ _
  have n2 := hB.cell 2
  have n5 := hB.cell 5
  have n7 := hB.cell 7
  replace HB := Lib.hid (HB.out.keeps hk5 (fun h => h))
  replace K2 := Lib.hid (K2.out.trans hk5 (fun _ _ h => h))
  have d2 := HB.out.cell 2
  have d3 := HB.out.cell 3
  clear hk5 hw hN hB
  go_wp2
  clear n2 n5 n7 d2 d3
  go_roundw
  case rel => exact ⟨1, Nat.le_refl _, rfl, rfl, HB.out, K2.out⟩
  case measure => simp [intOf]
end
end Go.Proofs.Ytbhohohgojcapaa
