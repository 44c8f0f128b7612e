import Derived.Test.YtbhohohgojcapaaGreatPkE3
import Derived.Test.YtbhohohgojcapaaGreatPkE4
namespace Go.Proofs.YtbhohohgojcapaaGreat
open Go.RowKit

def packRes (A : Ar) (a0 a1 a2 a3 a4 : Int) : Bool := if (levelsM A a0 a1 a2 a3 a4).2.sound = false then false else packM A a3 a2 (levelsM A a0 a1 a2 a3 a4).1
theorem kidsOf_le {A : Ar} {n : Nat} : ∀ (c : Ch), (∀ e ∈ c, (opNd A e.1).kids.length ≤ n) → kidsOf A c ≤ n * c.length
  | [], _ => by simp [kidsOf]
  | e :: r, h => by
    have h1 := kidsOf_le r (fun x hx => h x (List.mem_cons_of_mem _ hx))
    have h2 := h e (List.mem_cons_self ..)
    have h3 : kidsOf A (e :: r) = (opNd A e.1).kids.length + kidsOf A r := by simp [kidsOf]
    rw [h3, List.length_cons, Nat.mul_succ]
    omega
theorem levels_ne {A : Ar} {a0 a1 a2 a3 a4 : Int} {ls : List Ch} {R : Rp} (h : levelsM A a0 a1 a2 a3 a4 = (ls, R)) (hs : R.sound = true) : ∀ c ∈ ls, c ≠ [] := by
  obtain ⟨lv0, hT⟩ := levelsM_ok h hs
  exact trs_ne hT.trs
set_option maxRecDepth 100000 in
set_option maxHeartbeats 64000000 in
theorem indexG {w : World} {gL oL lc n : Nat} (h : ∀ i, i < n → ∃ B m uc, w.cell? ⟨gL, oL + i, none⟩ = some (.slice B m uc) ∧ 0 < m) (hn : n ≤ 65536) : Calls Tryz.prog 115 #[.slice (some ⟨gL, oL, none⟩) n lc, .func (.func 66) #[] #[]] w fun e w' => e = .returned (.int .i64 (-1)) ∧ w' = w := by
  have H := Lib.hid h
  clear h
  go_enter Tryz.func115, Tryz.ntmps115
  go_wp2
  go_loopw [8] (fun iv wr => ∃ k : Nat, k ≤ n ∧ iv = .int .i64 k ∧ wr = w) (fun iv _ => n - (intOf iv).toNat)
  case atStart => exact ⟨0, Nat.zero_le _, rfl, rfl⟩
  obtain ⟨k, hk, rfl, rfl⟩ := hrel
  rcases Nat.lt_or_ge k n with hlt | hlt
  · obtain ⟨B, m, uc, hc, hm⟩ := H.out k hlt
    have hb : ((m : Int) == 0) = false := by simp only [beq_eq_false_iff_ne]; omega
    go_wp2_with (go_at_call 66; refine (emptyF _ _ _ _).mono ?_; rintro e w2 ⟨rfl, rfl⟩)
    go_roundw
    case rel => exact ⟨k + 1, hlt, by simp, trivial⟩
    case measure => simp [intOf]; omega
  · obtain rfl : k = n := by omega
    clear hk hlt
    go_wp2
    go_ret
    exact ⟨rfl, rfl⟩
theorem containsG {w : World} {gL oL lc n : Nat} (h : ∀ i, i < n → ∃ B m uc, w.cell? ⟨gL, oL + i, none⟩ = some (.slice B m uc) ∧ 0 < m) (hn : n ≤ 65536) : Calls Tryz.prog 65 #[.slice (some ⟨gL, oL, none⟩) n lc, .func (.func 66) #[] #[]] w fun e w' => e = .returned (.bool false) ∧ w' = w := by
  have H := Lib.hid (indexG (lc := lc) h hn)
  clear h
  go_enter Tryz.func65, Tryz.ntmps65
  go_wp2_with (go_at_call 115; refine H.out.mono ?_; rintro e w2 ⟨rfl, rfl⟩)
  go_ret
  exact ⟨rfl, rfl⟩
theorem take_len {α : Type} (l : List α) (k : Nat) : (l.take k).length ≤ l.length := by rw [List.length_take]; omega
section
variable {w w2 : World} {P3 gL oL lc : Nat} {A : Ar} {a0 a1 a2 a3 a4 : Int} {lvs : List Lq} {ls : List Ch}
set_option maxRecDepth 100000 in
set_option maxHeartbeats 64000000 in
theorem ppackedR {M D0 : Nat → Prop} {p : Nat} {slots : Value} {ids : List Nat} (h0 : ArW w M D0 p slots ids A) (hsm : ∀ s ∈ A.sl, NdSm 0 s.nd) (hkw : ∀ s ∈ A.sl, ∀ k ∈ s.nd.kids, K64 k) :
    Calls Tryz.prog 29 #[pV p, .agg #[.int .i64 a0, .int .i64 a1, .int .i64 a2, .int .i64 a3, .int .i64 a4]] w fun e w' => e = .returned (.bool (packRes A a0 a1 a2 a3 a4)) ∧ Keeps Nob w w' := by
  have hbd := h0.bound
  obtain ⟨ls, R, hR⟩ : ∃ ls R, levelsM A a0 a1 a2 a3 a4 = (ls, R) := ⟨_, _, rfl⟩
  have hcm : packRes A a0 a1 a2 a3 a4 = if R.sound = false then false else packM A a3 a2 ls := by unfold packRes; rw [hR]
  obtain ⟨res, hres⟩ : ∃ r, packRes A a0 a1 a2 a3 a4 = r := ⟨_, rfl⟩
  rw [hres]
  rw [hres] at hcm
  have HCM := Lib.hid hcm
  have H0 := Lib.hid h0
  have HR := Lib.hid hR
  have HSM := Lib.hid hsm
  have FL := fun wx (h : ArW wx M D0 p slots ids A) => plevelsR h hsm hkw hR
  clear h0 hsm hkw hR hcm hres
  obtain ⟨P3, hP⟩ : ∃ N, w.heap.size = N := ⟨_, rfl⟩
  have HP := Lib.hid hP
  clear hP
  unfold pV at FL ⊢
  have hnn : ∀ w : World, (binOp .eql 128 (.slice none 0 0) (.slice none 0 0)).run Tryz.prog w = .ok (.bool true) w := fun _ => by kernel_rfl
  have hns : ∀ (g o n c : Nat) (w : World), (binOp .eql 128 (.slice (some ⟨g, o, none⟩) n c) (.slice none 0 0)).run Tryz.prog w = .ok (.bool false) w := fun _ _ _ _ _ => by kernel_rfl
  go_enter Tryz.func29, Tryz.ntmps29
  go_wp2_with fail
  rw [HP.out]
  refine calls_at (fun w1 hw => ?_)
  have K : Hid (Keeps Nob w w1) := by rw [hw]; exact Lib.hid (Keeps.alloc _ _ _)
  have HB : Hid (Blk w1 P3 49 #[.int .i64 a0, .int .i64 a1, .int .i64 a2, .int .i64 a3, .int .i64 a4]) := by rw [hw, ← HP.out]; exact Lib.hid (Blk.new _ _ _)
  clear hw
  refine (FL _ (H0.out.keeps K.out (fun _ _ _ h => h) (fun _ _ _ h => h))).mono ?_
  rintro e w2 ⟨hk, hcase⟩
  replace HB := Lib.hid (HB.out.keeps hk (fun h => h))
  replace K := Lib.hid (K.out.trans hk (fun _ _ h => h))
  clear hk FL H0
  rcases hcase with ⟨hs, v, lvs, rfl, hpos, hlm, hlok, hrow, hlv⟩ | ⟨hs, rfl⟩
  rotate_left
  · have hs2 : R.sound = false := hs
    have HS := Lib.hid hs2
    clear hs hs2
    simp only
    have f0 := ((Blk.new w2 130 #[.int .i64 0, .int .i64 0])).frozen 0
    have z0 := ((Blk.new w2 130 #[.int .i64 0, .int .i64 0])).cell 0
    have f1 := fun (v0 : Value) => (((Blk.new w2 130 #[.int .i64 0, .int .i64 0])).set_ 0 v0).frozen 1
    have z1 := fun (v0 : Value) => (((Blk.new w2 130 #[.int .i64 0, .int .i64 0])).set_ 0 v0).cell 1
    go_wp2
    clear f0 z0 f1 z1
    go_ret
    have e : res = false := by rw [HCM.out, if_pos HS.out]
    exact ⟨by rw [e]; rfl, K.out.alloc' _⟩
  have hs2 : R.sound = true := hs
  have HS := Lib.hid hs2
  simp only at hlm ⊢
  have hll : lvs.length = ls.length := by rw [← hlm, List.length_map]
  obtain ⟨ch, _, _, hnb, _, hlsn, _⟩ := levels_facts HR.out hs hbd
  rw [← hll] at hlsn
  obtain ⟨lA, lc, el⟩ := hrow.form
  subst el
  obtain ⟨gL, oL, eL, _⟩ := Own.at8 hrow hpos (show (lvs.map Lq.v)[0]? = some _ by rw [List.getElem?_map, List.getElem?_eq_getElem hpos]; rfl)
  subst eL
  have HCU : Hid (∀ (i : Nat) l, lvs[i]? = some l → w2.cell? ⟨gL, oL + i, none⟩ = some l.v) := Lib.hid (fun i l hl => by
    obtain ⟨g', o', e', c'⟩ := Own.at8 hrow hpos (show (lvs.map Lq.v)[i]? = some l.v by rw [List.getElem?_map, hl]; rfl)
    cases e'
    exact c')
  have HNE := Lib.hid (levels_ne HR.out hs2)
  have HLV := Lib.hid hlv
  have HLM := Lib.hid hlm
  have HOK := Lib.hid hlok
  have hlsn2 : lvs.length ≤ 65536 := by omega
  have HLL := Lib.hid hll
  clear hs hs2 hlm hlok hrow hlv hll hlsn HR hnn hnb
  obtain ⟨l0, hl0⟩ : ∃ l, lvs[0]? = some l := ⟨_, List.getElem?_eq_getElem hpos⟩
  have HL0 := Lib.hid hl0
  obtain ⟨u0, uc0, eu0⟩ := (HLV.out l0 (List.mem_of_getElem? hl0)).1.1.form
  have c0 : w2.cell? ⟨gL, oL, none⟩ = some (.slice u0 l0.ks.length uc0) := by have h := HCU.out 0 l0 hl0; rw [eu0] at h; exact h
  have HEU := Lib.hid eu0
  clear hl0 eu0
  have HRS : Hid (res = packM A a3 a2 ls) := by rw [HCM.out, if_neg (by rw [HS.out]; decide)]; exact Lib.hid rfl
  clear HCM
  obtain ⟨c1, r1, hls, hc1⟩ : ∃ c r, ls = c :: r ∧ c = l0.ch := by
    have h := HLM.out
    match lvs, HL0.out with
    | l :: r, h2 => exact ⟨l.ch, r.map Lq.ch, by rw [← h]; rfl, by rw [show l = l0 by simpa using h2]⟩
  have HLS := Lib.hid (And.intro hls hc1)
  clear hls hc1
  have f0 := ((Blk.new w2 130 #[.int .i64 0, .int .i64 0])).frozen 0
  have z0 := ((Blk.new w2 130 #[.int .i64 0, .int .i64 0])).cell 0
  have f1 := fun (v0 : Value) => (((Blk.new w2 130 #[.int .i64 0, .int .i64 0])).set_ 0 v0).frozen 1
  have z1 := fun (v0 : Value) => (((Blk.new w2 130 #[.int .i64 0, .int .i64 0])).set_ 0 v0).cell 1
  go_upto_region 2 with (fail)
  clear f0 z0 f1 z1
  refine code_at (fun w3 hw => ?_)
  have hk : Keeps Nob w2 w3 := by rw [hw]; exact Keeps.alloc _ _ _
  have K2 := Lib.hid hk
  replace HB := Lib.hid (HB.out.keeps hk (fun h => h))
  replace c0 := hk.cell c0 (fun h => h)
  clear hk hw
  have bpos : ((lvs.length : Int) == 0) = false := by simp only [beq_eq_false_iff_ne]; omega
  by_cases h1 : (l0.ks.length : Int) = 1
  rotate_left
  · have b1 : ((l0.ks.length : Int) != 1) = true := by simp only [bne_iff_ne, ne_eq]; exact h1
    have HF : Hid (res = false) := by
      have hne : c1.length ≠ 1 := by rw [HLS.out.2]; unfold Lq.ch; rw [List.length_map]; omega
      have h : packM A a3 a2 (c1 :: r1) = false := by show (if c1.length ≠ 1 then false else _) = false; rw [if_pos hne]
      rw [HRS.out, HLS.out.1]
      exact Lib.hid h
    go_wp2
    go_ret
    exact ⟨by rw [HF.out]; rfl, K.out.trans K2.out (fun _ _ h => h)⟩
  have b1 : ((l0.ks.length : Int) != 1) = false := by simp [h1]
  by_cases hm : (1 : Int) < (lvs.length : Int)
  · obtain ⟨x0, hx0⟩ : ∃ x, l0.ks[0]? = some x := ⟨_, List.getElem?_eq_getElem (by omega)⟩
    have hl0m := List.mem_of_getElem? HL0.out
    obtain ⟨s0, y1, y2, _⟩ := (HOK.out l0 hl0m).1 x0 (List.mem_of_getElem? hx0)
    have hrow0 : Own w2 (fun b => l0.v.ownBlock = some b) 135 8 (.slice u0 l0.ks.length uc0) l0.ks.length (lkCells l0.ks) := by have h := (HLV.out l0 hl0m).1.1; rw [HEU.out] at h ⊢; exact h
    obtain ⟨g, o, LA, LC, X1, k1, X3, k3, X4, k4, X5, k5, eA, _, _, _, _, _, _, _, q7, _, _⟩ := lk_cells hrow0 rfl hx0 ((HLV.out l0 hl0m).1.2 x0 (List.mem_of_getElem? hx0))
    subst eA
    have q7' : w3.cell? ⟨g, o + 7, none⟩ = some (.slice X5 x0.nd.kids.length k5) := by have h := K2.out.cell q7 (fun h => h); rw [Nat.zero_mul, Nat.add_zero] at h; exact h
    have hhd : (opNd A (c1.headD (0, [])).1) = x0.nd := by
      have e : c1.headD (0, []) = x0.pr := by
        rw [HLS.out.2]; unfold Lq.ch
        cases hks : l0.ks with
        | nil => rw [hks] at hx0; simp at hx0
        | cons y r => rw [hks] at hx0; simp at hx0; rw [hx0]; rfl
      rw [e]
      have h : opNd A x0.id = s0.nd := opNd_some y1
      rw [← y2, ← h]; rfl
    have hpk : packM A a3 a2 (c1 :: r1) = if r1 ≠ [] ∧ (opNd A (c1.headD (0, [])).1).kids.length < 2 then false else packLs A a3 a2 (c1 :: r1) := by
      show (if c1.length ≠ 1 then false else _) = _
      rw [if_neg (by rw [HLS.out.2]; unfold Lq.ch; rw [List.length_map]; omega)]
    rw [hhd] at hpk
    have hr1 : r1 ≠ [] := by
      intro e
      have h := HLL.out
      rw [HLS.out.1, e] at h
      simp at h; omega
    by_cases hk2 : (x0.nd.kids.length : Int) < 2
    · have HF : Hid (res = false) := by
        rw [HRS.out, HLS.out.1, hpk, if_pos ⟨hr1, by omega⟩]; exact Lib.hid rfl
      clear hpk hhd hr1 q7 hx0 y1 y2
      go_wp2
      go_ret
      exact ⟨by rw [HF.out]; rfl, K.out.trans K2.out (fun _ _ h => h)⟩
    have HP1 : Hid (res = packLs A a3 a2 ls) := by
      rw [HRS.out, HLS.out.1, hpk, if_neg (fun h => absurd h.2 (by omega))]; exact Lib.hid rfl
    clear hpk hhd hr1 q7 hx0 y1 y2
    go_upto_region 4 with (fail)
    clear q7' hk2
    clear c0 b1 h1 hm bpos hns
    go_wp2
    go_loopw [48] (fun iv wr => ∃ k : Nat, k ≤ lvs.length ∧ iv = .int .i64 k ∧ packLs A a3 a2 (ls.drop k) = res ∧ Blk wr P3 49 #[.int .i64 a0, .int .i64 a1, .int .i64 a2, .int .i64 a3, .int .i64 a4] ∧ Keeps Nob w2 wr) (fun iv _ => lvs.length - (intOf iv).toNat)
    case atStart => exact ⟨0, Nat.zero_le _, rfl, by rw [List.drop_zero]; exact HP1.out.symm, HB.out, K2.out⟩
    clear HB K2
    obtain ⟨k, hk, rfl, hres, hb, hk2⟩ := hrel
    have HRES := Lib.hid hres
    have HB := Lib.hid hb
    have K2 := Lib.hid hk2
    clear hres hb hk2
    rcases Nat.lt_or_ge k lvs.length with hltk | hltk
    rotate_left
    · obtain rfl : k = lvs.length := by omega
      have HPT : Hid (res = true) := by have h := HRES.out; rw [List.drop_of_length_le (by rw [← HLL.out]; omega)] at h; exact Lib.hid h.symm
      have FCG := containsG (lc := lc) (w := wr) (gL := gL) (oL := oL) (n := lvs.length) (fun i hi => by
        obtain ⟨l, hl⟩ : ∃ l, lvs[i]? = some l := ⟨_, List.getElem?_eq_getElem hi⟩
        obtain ⟨u, uc, eu⟩ := (HLV.out l (List.mem_of_getElem? hl)).1.1.form
        have h := K2.out.cell (HCU.out i l hl) (fun h => h)
        rw [eu] at h
        refine ⟨u, _, uc, h, ?_⟩
        have h2 : l.ch ∈ ls := by rw [← HLM.out]; exact List.mem_map.2 ⟨l, List.mem_of_getElem? hl, rfl⟩
        have h3 := List.length_pos_iff.2 (HNE.out _ h2)
        unfold Lq.ch at h3
        rw [List.length_map] at h3
        exact h3) hlsn2
      have HFC := Lib.hid FCG
      clear FCG HRES hk hltk
      go_wp2_with (go_at_call 65; refine HFC.out.mono ?_; rintro e w6 ⟨rfl, rfl⟩)
      go_ret
      exact ⟨by rw [HPT.out]; rfl, K.out.trans K2.out (fun _ _ h => h)⟩
    obtain ⟨l, hl⟩ : ∃ l, lvs[k]? = some l := ⟨_, List.getElem?_eq_getElem hltk⟩
    have HL := Lib.hid hl
    have HLC : Hid (ls[k]? = some l.ch) := by rw [← HLM.out, List.getElem?_map, hl]; exact Lib.hid rfl
    have hlP := (HLV.out l (List.mem_of_getElem? hl)).1
    have hlO := (HOK.out l (List.mem_of_getElem? hl)).1
    obtain ⟨uA, uc, eu⟩ := hlP.1.form
    have q0 : wr.cell? ⟨gL, oL + k, none⟩ = some (.slice uA l.ks.length uc) := by have h := K2.out.cell (HCU.out k l hl) (fun h => h); rw [eu] at h; exact h
    have HROW : Hid (Own w2 (fun b => l.v.ownBlock = some b) 135 8 (.slice uA l.ks.length uc) l.ks.length (lkCells l.ks)) := by have h := hlP.1; rw [eu] at h ⊢; exact Lib.hid h
    have HIS := Lib.hid hlP.2
    have HLO := Lib.hid hlO
    have HLN : Hid ((l.ks.length : Int) = (l.ch.length : Int)) := by unfold Lq.ch; rw [List.length_map]; exact Lib.hid rfl
    have hzc : l.ks.length ≤ 9223372036854775807 := by obtain ⟨h1, h2, _⟩ := HROW.out.at_; unfold maxLen at h2; omega
    have hmx : l.ks.length ≤ 65536 := by
      have hq := HOK.out l (List.mem_of_getElem? hl)
      have h : MetA A (l.ks.map Lk.id) := ⟨hq.2, fun x hx => by
        obtain ⟨k, hk, rfl⟩ := List.mem_map.1 hx
        obtain ⟨s2, g1, _⟩ := hq.1 k hk
        exact get_le g1⟩
      have h2 := h.len
      rw [List.length_map] at h2
      omega
    have HKB : Hid (∀ e ∈ l.ch, (opNd A e.1).kids.length ≤ 25000000000000) := Lib.hid (fun e he => by
      unfold Lq.ch at he
      obtain ⟨k, hk, rfl⟩ := List.mem_map.1 he
      obtain ⟨s2, g1, _⟩ := (HOK.out l (List.mem_of_getElem? hl)).1 k hk
      have g3 : opNd A (k.pr).1 = s2.nd := opNd_some g1
      rw [g3]
      have h := (HSM.out s2 (by obtain ⟨_, _, h2, _⟩ := get_some g1; exact List.mem_of_getElem? h2)).2.2.2
      unfold Sm at h
      omega)
    have hw64 : IntKind.i64.wrap ((l.ks.length : Int) - 1) = (l.ks.length : Int) - 1 := by rw [IntKind.wrap_i64]; omega
    clear hl hlP hlO eu
    go_wp2
    clear q0
    go_loopw [9, 58] (fun kv jv wr => ∃ j : Nat, j ≤ l.ks.length ∧ jv = .int .i64 j ∧ kv = .int .i64 ((kidsOf A (l.ch.take j) : Nat) : Int) ∧ lvlFrom A a3 a2 ((l.ks.length : Int) - 1) 0 l.ch = lvlFrom A a3 a2 ((l.ks.length : Int) - 1) j (l.ch.drop j) ∧ Blk wr P3 49 #[.int .i64 a0, .int .i64 a1, .int .i64 a2, .int .i64 a3, .int .i64 a4] ∧ Keeps Nob w2 wr) (fun _ jv _ => l.ks.length - (intOf jv).toNat)
    case atStart => exact ⟨0, Nat.zero_le _, rfl, rfl, by rw [List.drop_zero]; rfl, HB.out, K2.out⟩
    clear HB K2
    obtain ⟨j, hj, rfl, rfl, hjl, hb, hk2⟩ := hrel
    have HJL := Lib.hid hjl
    have HB := Lib.hid hb
    have K2 := Lib.hid hk2
    clear hjl hb hk2
    rcases Nat.lt_or_ge j l.ks.length with hlt | hlt
    rotate_left
    · obtain rfl : j = l.ks.length := by omega
      have hlv : lvlFrom A a3 a2 ((l.ks.length : Int) - 1) 0 l.ch = true := by
        rw [HJL.out]
        have e : l.ks.length = l.ch.length := by have h := HLN.out; omega
        rw [e]; exact lvlFrom_end
      have htk : l.ch.take l.ks.length = l.ch := by
        have e : l.ks.length = l.ch.length := by have h := HLN.out; omega
        rw [e, List.take_length]
      rw [htk]
      have HPK : Hid ((match ls[k + 1]? with
        | none => true
        | some d => if kidsOf A l.ch ≠ d.length then false else packLs A a3 a2 (ls.drop (k + 1))) = res) := by
        have h := HRES.out
        rw [packLs_at HLC.out, ← HLN.out, hlv, if_neg (by decide)] at h
        exact Lib.hid h
      clear hlv htk HJL hj hlt
      have hk64 : IntKind.i64.wrap ((k : Int) + 1) = (k : Int) + 1 := by rw [IntKind.wrap_i64]; omega
      by_cases hk1 : k + 1 < lvs.length
      rotate_left
      · have hk1' : ¬ ((k : Int) + 1 < (lvs.length : Int)) := by omega
        have hnx : ls[k + 1]? = none := by rw [List.getElem?_eq_none_iff, ← HLL.out]; omega
        have HPN : Hid (packLs A a3 a2 (ls.drop (k + 1)) = res) := by
          have h := HPK.out
          rw [hnx] at h
          rw [List.drop_of_length_le (by rw [← HLL.out]; omega)]
          exact Lib.hid h
        clear hnx HPK
        go_wp2
        go_roundw
        case rel => exact ⟨k + 1, by omega, by simp, HPN.out, HB.out, K2.out⟩
        case measure => simp [intOf]; omega
      obtain ⟨l2, hl2⟩ : ∃ l, lvs[k + 1]? = some l := ⟨_, List.getElem?_eq_getElem hk1⟩
      have hl2c : ls[k + 1]? = some l2.ch := by rw [← HLM.out, List.getElem?_map, hl2]; rfl
      obtain ⟨u2, uc2, eu2⟩ := (HLV.out l2 (List.mem_of_getElem? hl2)).1.1.form
      have q0 : wr.cell? ⟨gL, oL + (k + 1), none⟩ = some (.slice u2 l2.ks.length uc2) := by have h := K2.out.cell (HCU.out (k + 1) l2 hl2) (fun h => h); rw [eu2] at h; exact h
      have hl2n : l2.ch.length = l2.ks.length := by unfold Lq.ch; rw [List.length_map]
      have hk1' : (k : Int) + 1 < (lvs.length : Int) := by omega
      have HPK2 : Hid ((if kidsOf A l.ch ≠ l2.ks.length then false else packLs A a3 a2 (ls.drop (k + 1))) = res) := by have h := HPK.out; rw [hl2c] at h; simp only [hl2n] at h; exact Lib.hid h
      clear hl2 hl2c eu2 hl2n HPK
      by_cases hkk : kidsOf A l.ch = l2.ks.length
      · have bkk : (((kidsOf A l.ch : Nat) : Int) != (l2.ks.length : Int)) = false := by simp [hkk]
        have HPN : Hid (packLs A a3 a2 (ls.drop (k + 1)) = res) := by have h := HPK2.out; rw [if_neg (by simp [hkk])] at h; exact Lib.hid h
        clear hkk HPK2
        go_wp2
        go_roundw
        case rel => exact ⟨k + 1, by omega, by simp, HPN.out, HB.out, K2.out⟩
        case measure => simp [intOf]; omega
      · have bkk : (((kidsOf A l.ch : Nat) : Int) != (l2.ks.length : Int)) = true := by simp only [bne_iff_ne, ne_eq]; omega
        have HPN : Hid (res = false) := by have h := HPK2.out; rw [if_pos hkk] at h; exact Lib.hid h.symm
        clear hkk HPK2
        go_wp2
        go_ret
        exact ⟨by rw [HPN.out]; rfl, K.out.trans K2.out (fun _ _ h => h)⟩
    obtain ⟨x, hx⟩ : ∃ x, l.ks[j]? = some x := ⟨_, List.getElem?_eq_getElem hlt⟩
    obtain ⟨s2, g1, g2, _⟩ := HLO.out x (List.mem_of_getElem? hx)
    have HXE : Hid (l.ch[j]? = some x.pr) := by unfold Lq.ch; rw [List.getElem?_map, hx]; exact Lib.hid rfl
    have HXN : Hid (opNd A x.pr.1 = x.nd) := by have h : opNd A x.id = s2.nd := opNd_some g1; rw [← g2, ← h]; exact Lib.hid rfl
    have HKN : Hid (kidsOf A (l.ch.take (j + 1)) = kidsOf A (l.ch.take j) + x.nd.kids.length) := by rw [kidsOf_take HXE.out, HXN.out]; exact Lib.hid rfl
    have hadd : IntKind.i64.wrap (((kidsOf A (l.ch.take j) : Nat) : Int) + (x.nd.kids.length : Int)) = ((kidsOf A (l.ch.take (j + 1)) : Nat) : Int) := by
      have h1 := kidsOf_le (A := A) (n := 25000000000000) (l.ch.take (j + 1)) (fun e he => HKB.out e (List.mem_of_mem_take he))
      have h2 : (l.ch.take (j + 1)).length ≤ 65536 := Nat.le_trans (take_len _ _) (by have h := HLN.out; omega)
      have h3 := Nat.mul_le_mul_left 25000000000000 h2
      have h4 := HKN.out
      rw [IntKind.wrap_i64]; omega
    obtain ⟨g, o, LA, LC, X1, k1, X3, k3, X4, k4, X5, k5, eA, q0, q1, q2, q3, q4, q5, q6, q7, _, _⟩ := lk_cells HROW.out rfl hx (HIS.out x (List.mem_of_getElem? hx))
    have HADD := Lib.hid hadd
    rw [eA]
    clear hx g1 g2 hadd eA
    replace q0 := K2.out.cell q0 (fun h => h)
    replace q1 := K2.out.cell q1 (fun h => h)
    replace q2 := K2.out.cell q2 (fun h => h)
    replace q3 := K2.out.cell q3 (fun h => h)
    replace q4 := K2.out.cell q4 (fun h => h)
    replace q5 := K2.out.cell q5 (fun h => h)
    replace q6 := K2.out.cell q6 (fun h => h)
    replace q7 := K2.out.cell q7 (fun h => h)
    have f0 := ((Blk.new wr 135 #[.int .i64 0, .slice none 0 0, .int .i64 0, .slice none 0 0, .int .i64 0, .slice none 0 0, .slice none 0 0, .slice none 0 0])).frozen 0
    have z0 := ((Blk.new wr 135 #[.int .i64 0, .slice none 0 0, .int .i64 0, .slice none 0 0, .int .i64 0, .slice none 0 0, .slice none 0 0, .slice none 0 0])).cell 0
    have f1 := fun (v0 : Value) => (((Blk.new wr 135 #[.int .i64 0, .slice none 0 0, .int .i64 0, .slice none 0 0, .int .i64 0, .slice none 0 0, .slice none 0 0, .slice none 0 0])).set_ 0 v0).frozen 1
    have z1 := fun (v0 : Value) => (((Blk.new wr 135 #[.int .i64 0, .slice none 0 0, .int .i64 0, .slice none 0 0, .int .i64 0, .slice none 0 0, .slice none 0 0, .slice none 0 0])).set_ 0 v0).cell 1
    have f2 := fun (v0 v1 : Value) => ((((Blk.new wr 135 #[.int .i64 0, .slice none 0 0, .int .i64 0, .slice none 0 0, .int .i64 0, .slice none 0 0, .slice none 0 0, .slice none 0 0])).set_ 0 v0).set_ 1 v1).frozen 2
    have z2 := fun (v0 v1 : Value) => ((((Blk.new wr 135 #[.int .i64 0, .slice none 0 0, .int .i64 0, .slice none 0 0, .int .i64 0, .slice none 0 0, .slice none 0 0, .slice none 0 0])).set_ 0 v0).set_ 1 v1).cell 2
    have f3 := fun (v0 v1 v2 : Value) => (((((Blk.new wr 135 #[.int .i64 0, .slice none 0 0, .int .i64 0, .slice none 0 0, .int .i64 0, .slice none 0 0, .slice none 0 0, .slice none 0 0])).set_ 0 v0).set_ 1 v1).set_ 2 v2).frozen 3
    have z3 := fun (v0 v1 v2 : Value) => (((((Blk.new wr 135 #[.int .i64 0, .slice none 0 0, .int .i64 0, .slice none 0 0, .int .i64 0, .slice none 0 0, .slice none 0 0, .slice none 0 0])).set_ 0 v0).set_ 1 v1).set_ 2 v2).cell 3
    have f4 := fun (v0 v1 v2 v3 : Value) => ((((((Blk.new wr 135 #[.int .i64 0, .slice none 0 0, .int .i64 0, .slice none 0 0, .int .i64 0, .slice none 0 0, .slice none 0 0, .slice none 0 0])).set_ 0 v0).set_ 1 v1).set_ 2 v2).set_ 3 v3).frozen 4
    have z4 := fun (v0 v1 v2 v3 : Value) => ((((((Blk.new wr 135 #[.int .i64 0, .slice none 0 0, .int .i64 0, .slice none 0 0, .int .i64 0, .slice none 0 0, .slice none 0 0, .slice none 0 0])).set_ 0 v0).set_ 1 v1).set_ 2 v2).set_ 3 v3).cell 4
    have f5 := fun (v0 v1 v2 v3 v4 : Value) => (((((((Blk.new wr 135 #[.int .i64 0, .slice none 0 0, .int .i64 0, .slice none 0 0, .int .i64 0, .slice none 0 0, .slice none 0 0, .slice none 0 0])).set_ 0 v0).set_ 1 v1).set_ 2 v2).set_ 3 v3).set_ 4 v4).frozen 5
    have z5 := fun (v0 v1 v2 v3 v4 : Value) => (((((((Blk.new wr 135 #[.int .i64 0, .slice none 0 0, .int .i64 0, .slice none 0 0, .int .i64 0, .slice none 0 0, .slice none 0 0, .slice none 0 0])).set_ 0 v0).set_ 1 v1).set_ 2 v2).set_ 3 v3).set_ 4 v4).cell 5
    have f6 := fun (v0 v1 v2 v3 v4 v5 : Value) => ((((((((Blk.new wr 135 #[.int .i64 0, .slice none 0 0, .int .i64 0, .slice none 0 0, .int .i64 0, .slice none 0 0, .slice none 0 0, .slice none 0 0])).set_ 0 v0).set_ 1 v1).set_ 2 v2).set_ 3 v3).set_ 4 v4).set_ 5 v5).frozen 6
    have z6 := fun (v0 v1 v2 v3 v4 v5 : Value) => ((((((((Blk.new wr 135 #[.int .i64 0, .slice none 0 0, .int .i64 0, .slice none 0 0, .int .i64 0, .slice none 0 0, .slice none 0 0, .slice none 0 0])).set_ 0 v0).set_ 1 v1).set_ 2 v2).set_ 3 v3).set_ 4 v4).set_ 5 v5).cell 6
    have f7 := fun (v0 v1 v2 v3 v4 v5 v6 : Value) => (((((((((Blk.new wr 135 #[.int .i64 0, .slice none 0 0, .int .i64 0, .slice none 0 0, .int .i64 0, .slice none 0 0, .slice none 0 0, .slice none 0 0])).set_ 0 v0).set_ 1 v1).set_ 2 v2).set_ 3 v3).set_ 4 v4).set_ 5 v5).set_ 6 v6).frozen 7
    have z7 := fun (v0 v1 v2 v3 v4 v5 v6 : Value) => (((((((((Blk.new wr 135 #[.int .i64 0, .slice none 0 0, .int .i64 0, .slice none 0 0, .int .i64 0, .slice none 0 0, .slice none 0 0, .slice none 0 0])).set_ 0 v0).set_ 1 v1).set_ 2 v2).set_ 3 v3).set_ 4 v4).set_ 5 v5).set_ 6 v6).cell 7
    go_upto_region 12 with (fail)
    clear q0 q1 q2 q3 q4 q5 q6 q7
    clear f0 z0 f1 z1 f2 z2 f3 z3 f4 z4 f5 z5 f6 z6 f7 z7
    obtain ⟨N12, hN⟩ : ∃ N, wr.heap.size = N := ⟨_, rfl⟩
    rw [hN]
    refine code_at (fun w5 hw => ?_)
    have hk5 : Keeps Nob wr w5 := by rw [hw]; exact Keeps.alloc _ _ _
    have HBX : Hid (Blk w5 N12 135 #[.int .i64 x.id, .slice LA x.low.length LC, .int .i64 x.nd.lvl, .slice X1 x.nd.high.length k1, .int .i64 x.nd.right, .slice X3 x.nd.keys.length k3, .slice X4 x.nd.vals.length k4, .slice X5 x.nd.kids.length k5]) := by rw [hw, ← hN]; exact Lib.hid (Blk.new _ _ _)
    replace HB := Lib.hid (HB.out.keeps hk5 (fun h => h))
    replace K2 := Lib.hid (K2.out.trans hk5 (fun _ _ h => h))
    clear hk5 hw hN
    have n7 := HBX.out.cell 7
    have n5 := HBX.out.cell 5
    have hadd := HADD.out
    go_upto_region 14 with (fail)
    clear n7 n5 hadd HADD
    have n2 := HBX.out.cell 2
    have n7 := HBX.out.cell 7
    have d2 := HB.out.cell 2
    have d3 := HB.out.cell 3
    by_cases hlv : x.nd.lvl = 0
    · have blv : (x.nd.lvl == 0) = true := by simp only [beq_iff_eq]; omega
      by_cases hf : a3 < (x.nd.keys.length : Int)
      · as_aux_lemma =>
          have HBD : Hid (nodeBad a3 a2 x.nd j ((l.ks.length : Int) - 1) = true) := by show _ = _; unfold nodeBad; simp only [blv, decide_eq_true hf, decide_eq_false (show ¬ 0 < x.nd.lvl by omega), Bool.false_and, Bool.and_true, Bool.true_or, Bool.or_false]
          go_wp2
          clear n2 n7 d2 d3
          go_ret
          refine ⟨?_, K.out.trans K2.out (fun _ _ h => h)⟩
          have h := HJL.out
          rw [lvlFrom_at (e := x.pr) HXE.out, HXN.out, if_pos HBD.out] at h
          have h2 := HRES.out
          rw [packLs_at HLC.out, ← HLN.out, if_pos h] at h2
          rw [← h2]
          first | done | rfl
      · by_cases hjl : (j : Int) < ((l.ks.length : Int) - 1)
        · by_cases hnf : (x.nd.keys.length : Int) < a3
          · as_aux_lemma =>
              have HBD : Hid (nodeBad a3 a2 x.nd j ((l.ks.length : Int) - 1) = true) := by show _ = _; unfold nodeBad; simp only [blv, decide_eq_false hf, decide_eq_true hjl, decide_eq_true hnf, decide_eq_false (show ¬ 0 < x.nd.lvl by omega), Bool.true_and, Bool.false_and, Bool.and_true, Bool.true_or, Bool.or_false, Bool.or_true]
              go_wp2
              clear n2 n7 d2 d3
              go_ret
              refine ⟨?_, K.out.trans K2.out (fun _ _ h => h)⟩
              have h := HJL.out
              rw [lvlFrom_at (e := x.pr) HXE.out, HXN.out, if_pos HBD.out] at h
              have h2 := HRES.out
              rw [packLs_at HLC.out, ← HLN.out, if_pos h] at h2
              rw [← h2]
              first | done | rfl
          · by_cases hn0 : (x.nd.keys.length : Int) = 0
            · have bn0 : ((x.nd.keys.length : Int) == 0) = true := by simp only [beq_iff_eq]; omega
              by_cases hl0 : (0 : Int) < ((l.ks.length : Int) - 1)
              · as_aux_lemma =>
                  have HBD : Hid (nodeBad a3 a2 x.nd j ((l.ks.length : Int) - 1) = true) := by show _ = _; unfold nodeBad; simp only [blv, decide_eq_false hf, decide_eq_true hjl, decide_eq_false hnf, decide_eq_true hn0, decide_eq_true hl0, decide_eq_false (show ¬ 0 < x.nd.lvl by omega), Bool.true_and, Bool.false_and, Bool.and_false, Bool.and_true, Bool.or_false, Bool.or_true]
                  go_wp2
                  clear n2 n7 d2 d3
                  go_ret
                  refine ⟨?_, K.out.trans K2.out (fun _ _ h => h)⟩
                  have h := HJL.out
                  rw [lvlFrom_at (e := x.pr) HXE.out, HXN.out, if_pos HBD.out] at h
                  have h2 := HRES.out
                  rw [packLs_at HLC.out, ← HLN.out, if_pos h] at h2
                  rw [← h2]
                  first | done | rfl
              · exact absurd hl0 (by omega)
            · have bn0 : ((x.nd.keys.length : Int) == 0) = false := by simp only [beq_eq_false_iff_ne, ne_eq]; omega
              as_aux_lemma =>
                have HBD : Hid (nodeBad a3 a2 x.nd j ((l.ks.length : Int) - 1) = false) := by show _ = _; unfold nodeBad; simp only [blv, decide_eq_false hf, decide_eq_true hjl, decide_eq_false hnf, decide_eq_false hn0, decide_eq_false (show ¬ 0 < x.nd.lvl by omega), Bool.true_and, Bool.false_and, Bool.and_false, Bool.or_false]
                go_wp2
                clear n2 n7 d2 d3
                go_roundw
                case rel =>
                  refine ⟨j + 1, hlt, by simp, ?_, ?_, HB.out, K2.out⟩
                  · rw [HKN.out]
                  · have h := HJL.out
                    rw [lvlFrom_at (e := x.pr) HXE.out, HXN.out, if_neg (by rw [HBD.out]; decide)] at h
                    exact h
                case measure => simp [intOf]; omega
        · by_cases hn0 : (x.nd.keys.length : Int) = 0
          · have bn0 : ((x.nd.keys.length : Int) == 0) = true := by simp only [beq_iff_eq]; omega
            by_cases hl0 : (0 : Int) < ((l.ks.length : Int) - 1)
            · as_aux_lemma =>
                have HBD : Hid (nodeBad a3 a2 x.nd j ((l.ks.length : Int) - 1) = true) := by show _ = _; unfold nodeBad; simp only [blv, decide_eq_false hf, decide_eq_false hjl, decide_eq_true hn0, decide_eq_true hl0, decide_eq_false (show ¬ 0 < x.nd.lvl by omega), Bool.false_and, Bool.and_false, Bool.and_true, Bool.or_false, Bool.or_true]
                go_wp2
                clear n2 n7 d2 d3
                go_ret
                refine ⟨?_, K.out.trans K2.out (fun _ _ h => h)⟩
                have h := HJL.out
                rw [lvlFrom_at (e := x.pr) HXE.out, HXN.out, if_pos HBD.out] at h
                have h2 := HRES.out
                rw [packLs_at HLC.out, ← HLN.out, if_pos h] at h2
                rw [← h2]
                first | done | rfl
            · as_aux_lemma =>
                have HBD : Hid (nodeBad a3 a2 x.nd j ((l.ks.length : Int) - 1) = false) := by show _ = _; unfold nodeBad; simp only [blv, decide_eq_false hf, decide_eq_false hjl, decide_eq_true hn0, decide_eq_false hl0, decide_eq_false (show ¬ 0 < x.nd.lvl by omega), Bool.false_and, Bool.and_false, Bool.or_false]
                go_wp2
                clear n2 n7 d2 d3
                go_roundw
                case rel =>
                  refine ⟨j + 1, hlt, by simp, ?_, ?_, HB.out, K2.out⟩
                  · rw [HKN.out]
                  · have h := HJL.out
                    rw [lvlFrom_at (e := x.pr) HXE.out, HXN.out, if_neg (by rw [HBD.out]; decide)] at h
                    exact h
                case measure => simp [intOf]; omega
          · have bn0 : ((x.nd.keys.length : Int) == 0) = false := by simp only [beq_eq_false_iff_ne, ne_eq]; omega
            as_aux_lemma =>
              have HBD : Hid (nodeBad a3 a2 x.nd j ((l.ks.length : Int) - 1) = false) := by show _ = _; unfold nodeBad; simp only [blv, decide_eq_false hf, decide_eq_false hjl, decide_eq_false hn0, decide_eq_false (show ¬ 0 < x.nd.lvl by omega), Bool.false_and, Bool.and_false, Bool.or_false]
              go_wp2
              clear n2 n7 d2 d3
              go_roundw
              case rel =>
                refine ⟨j + 1, hlt, by simp, ?_, ?_, HB.out, K2.out⟩
                · rw [HKN.out]
                · have h := HJL.out
                  rw [lvlFrom_at (e := x.pr) HXE.out, HXN.out, if_neg (by rw [HBD.out]; decide)] at h
                  exact h
              case measure => simp [intOf]; omega
    · have blv : (x.nd.lvl == 0) = false := by simp only [beq_eq_false_iff_ne, ne_eq]; omega
      by_cases hlp : 0 < x.nd.lvl
      · by_cases hjl : (j : Int) < ((l.ks.length : Int) - 1)
        · by_cases hki : (x.nd.kids.length : Int) = a2
          · have bki : ((x.nd.kids.length : Int) != a2) = false := by simp only [bne_eq_false_iff_eq]; omega
            as_aux_lemma =>
              have HBD : Hid (nodeBad a3 a2 x.nd j ((l.ks.length : Int) - 1) = false) := by show _ = _; unfold nodeBad; simp only [blv, decide_eq_true hlp, decide_eq_true hjl, decide_eq_false (not_not_intro hki), Bool.true_and, Bool.false_and, Bool.and_false, Bool.or_false]
              go_wp2
              clear n2 n7 d2 d3
              go_roundw
              case rel =>
                refine ⟨j + 1, hlt, by simp, ?_, ?_, HB.out, K2.out⟩
                · rw [HKN.out]
                · have h := HJL.out
                  rw [lvlFrom_at (e := x.pr) HXE.out, HXN.out, if_neg (by rw [HBD.out]; decide)] at h
                  exact h
              case measure => simp [intOf]; omega
          · have bki : ((x.nd.kids.length : Int) != a2) = true := by simp only [bne_iff_ne, ne_eq]; omega
            as_aux_lemma =>
              have HBD : Hid (nodeBad a3 a2 x.nd j ((l.ks.length : Int) - 1) = true) := by show _ = _; unfold nodeBad; simp only [blv, decide_eq_true hlp, decide_eq_true hjl, decide_eq_true (show (x.nd.kids.length : Int) ≠ a2 from hki), Bool.true_and, Bool.false_and, Bool.and_true, Bool.or_true]
              go_wp2
              clear n2 n7 d2 d3
              go_ret
              refine ⟨?_, K.out.trans K2.out (fun _ _ h => h)⟩
              have h := HJL.out
              rw [lvlFrom_at (e := x.pr) HXE.out, HXN.out, if_pos HBD.out] at h
              have h2 := HRES.out
              rw [packLs_at HLC.out, ← HLN.out, if_pos h] at h2
              rw [← h2]
              first | done | rfl
        · as_aux_lemma =>
            have HBD : Hid (nodeBad a3 a2 x.nd j ((l.ks.length : Int) - 1) = false) := by show _ = _; unfold nodeBad; simp only [blv, decide_eq_true hlp, decide_eq_false hjl, Bool.false_and, Bool.and_false, Bool.false_or, Bool.or_false]
            go_wp2
            clear n2 n7 d2 d3
            go_roundw
            case rel =>
              refine ⟨j + 1, hlt, by simp, ?_, ?_, HB.out, K2.out⟩
              · rw [HKN.out]
              · have h := HJL.out
                rw [lvlFrom_at (e := x.pr) HXE.out, HXN.out, if_neg (by rw [HBD.out]; decide)] at h
                exact h
            case measure => simp [intOf]; omega
      · as_aux_lemma =>
          have HBD : Hid (nodeBad a3 a2 x.nd j ((l.ks.length : Int) - 1) = false) := by show _ = _; unfold nodeBad; simp only [blv, decide_eq_false hlp, Bool.false_and, Bool.or_false]
          go_wp2
          clear n2 n7 d2 d3
          go_roundw
          case rel =>
            refine ⟨j + 1, hlt, by simp, ?_, ?_, HB.out, K2.out⟩
            · rw [HKN.out]
            · have h := HJL.out
              rw [lvlFrom_at (e := x.pr) HXE.out, HXN.out, if_neg (by rw [HBD.out]; decide)] at h
              exact h
          case measure => simp [intOf]; omega
  have HP1 : Hid (res = packLs A a3 a2 ls) := by
    have hr1 : r1 = [] := by
      have h := HLL.out
      rw [HLS.out.1, List.length_cons] at h
      exact List.length_eq_zero_iff.1 (by omega)
    have h : packM A a3 a2 (c1 :: r1) = packLs A a3 a2 (c1 :: r1) := by
      show (if c1.length ≠ 1 then false else if r1 ≠ [] ∧ _ then false else packLs A a3 a2 (c1 :: r1)) = _
      rw [if_neg (by rw [HLS.out.2]; unfold Lq.ch; rw [List.length_map]; omega), if_neg (by rw [hr1]; simp)]
    rw [HRS.out, HLS.out.1]
    exact Lib.hid h
  go_upto_region 4 with (fail)
  clear c0 b1 h1 hm bpos hns
  go_wp2
  go_loopw [48] (fun iv wr => ∃ k : Nat, k ≤ lvs.length ∧ iv = .int .i64 k ∧ packLs A a3 a2 (ls.drop k) = res ∧ Blk wr P3 49 #[.int .i64 a0, .int .i64 a1, .int .i64 a2, .int .i64 a3, .int .i64 a4] ∧ Keeps Nob w2 wr) (fun iv _ => lvs.length - (intOf iv).toNat)
  case atStart => exact ⟨0, Nat.zero_le _, rfl, by rw [List.drop_zero]; exact HP1.out.symm, HB.out, K2.out⟩
  clear HB K2
  obtain ⟨k, hk, rfl, hres, hb, hk2⟩ := hrel
  have HRES := Lib.hid hres
  have HB := Lib.hid hb
  have K2 := Lib.hid hk2
  clear hres hb hk2
  rcases Nat.lt_or_ge k lvs.length with hltk | hltk
  rotate_left
  · obtain rfl : k = lvs.length := by omega
    have HPT : Hid (res = true) := by have h := HRES.out; rw [List.drop_of_length_le (by rw [← HLL.out]; omega)] at h; exact Lib.hid h.symm
    have FCG := containsG (lc := lc) (w := wr) (gL := gL) (oL := oL) (n := lvs.length) (fun i hi => by
      obtain ⟨l, hl⟩ : ∃ l, lvs[i]? = some l := ⟨_, List.getElem?_eq_getElem hi⟩
      obtain ⟨u, uc, eu⟩ := (HLV.out l (List.mem_of_getElem? hl)).1.1.form
      have h := K2.out.cell (HCU.out i l hl) (fun h => h)
      rw [eu] at h
      refine ⟨u, _, uc, h, ?_⟩
      have h2 : l.ch ∈ ls := by rw [← HLM.out]; exact List.mem_map.2 ⟨l, List.mem_of_getElem? hl, rfl⟩
      have h3 := List.length_pos_iff.2 (HNE.out _ h2)
      unfold Lq.ch at h3
      rw [List.length_map] at h3
      exact h3) hlsn2
    have HFC := Lib.hid FCG
    clear FCG HRES hk hltk
    go_wp2_with (go_at_call 65; refine HFC.out.mono ?_; rintro e w6 ⟨rfl, rfl⟩)
    go_ret
    exact ⟨by rw [HPT.out]; rfl, K.out.trans K2.out (fun _ _ h => h)⟩
  obtain ⟨l, hl⟩ : ∃ l, lvs[k]? = some l := ⟨_, List.getElem?_eq_getElem hltk⟩
  have HL := Lib.hid hl
  have HLC : Hid (ls[k]? = some l.ch) := by rw [← HLM.out, List.getElem?_map, hl]; exact Lib.hid rfl
  have hlP := (HLV.out l (List.mem_of_getElem? hl)).1
  have hlO := (HOK.out l (List.mem_of_getElem? hl)).1
  obtain ⟨uA, uc, eu⟩ := hlP.1.form
  have q0 : wr.cell? ⟨gL, oL + k, none⟩ = some (.slice uA l.ks.length uc) := by have h := K2.out.cell (HCU.out k l hl) (fun h => h); rw [eu] at h; exact h
  have HROW : Hid (Own w2 (fun b => l.v.ownBlock = some b) 135 8 (.slice uA l.ks.length uc) l.ks.length (lkCells l.ks)) := by have h := hlP.1; rw [eu] at h ⊢; exact Lib.hid h
  have HIS := Lib.hid hlP.2
  have HLO := Lib.hid hlO
  have HLN : Hid ((l.ks.length : Int) = (l.ch.length : Int)) := by unfold Lq.ch; rw [List.length_map]; exact Lib.hid rfl
  have hzc : l.ks.length ≤ 9223372036854775807 := by obtain ⟨h1, h2, _⟩ := HROW.out.at_; unfold maxLen at h2; omega
  have hmx : l.ks.length ≤ 65536 := by
    have hq := HOK.out l (List.mem_of_getElem? hl)
    have h : MetA A (l.ks.map Lk.id) := ⟨hq.2, fun x hx => by
      obtain ⟨k, hk, rfl⟩ := List.mem_map.1 hx
      obtain ⟨s2, g1, _⟩ := hq.1 k hk
      exact get_le g1⟩
    have h2 := h.len
    rw [List.length_map] at h2
    omega
  have HKB : Hid (∀ e ∈ l.ch, (opNd A e.1).kids.length ≤ 25000000000000) := Lib.hid (fun e he => by
    unfold Lq.ch at he
    obtain ⟨k, hk, rfl⟩ := List.mem_map.1 he
    obtain ⟨s2, g1, _⟩ := (HOK.out l (List.mem_of_getElem? hl)).1 k hk
    have g3 : opNd A (k.pr).1 = s2.nd := opNd_some g1
    rw [g3]
    have h := (HSM.out s2 (by obtain ⟨_, _, h2, _⟩ := get_some g1; exact List.mem_of_getElem? h2)).2.2.2
    unfold Sm at h
    omega)
  have hw64 : IntKind.i64.wrap ((l.ks.length : Int) - 1) = (l.ks.length : Int) - 1 := by rw [IntKind.wrap_i64]; omega
  clear hl hlP hlO eu
  go_wp2
  clear q0
  go_loopw [9, 58] (fun kv jv wr => ∃ j : Nat, j ≤ l.ks.length ∧ jv = .int .i64 j ∧ kv = .int .i64 ((kidsOf A (l.ch.take j) : Nat) : Int) ∧ lvlFrom A a3 a2 ((l.ks.length : Int) - 1) 0 l.ch = lvlFrom A a3 a2 ((l.ks.length : Int) - 1) j (l.ch.drop j) ∧ Blk wr P3 49 #[.int .i64 a0, .int .i64 a1, .int .i64 a2, .int .i64 a3, .int .i64 a4] ∧ Keeps Nob w2 wr) (fun _ jv _ => l.ks.length - (intOf jv).toNat)
  case atStart => exact ⟨0, Nat.zero_le _, rfl, rfl, by rw [List.drop_zero]; rfl, HB.out, K2.out⟩
  clear HB K2
  obtain ⟨j, hj, rfl, rfl, hjl, hb, hk2⟩ := hrel
  have HJL := Lib.hid hjl
  have HB := Lib.hid hb
  have K2 := Lib.hid hk2
  clear hjl hb hk2
  rcases Nat.lt_or_ge j l.ks.length with hlt | hlt
  rotate_left
  · obtain rfl : j = l.ks.length := by omega
    have hlv : lvlFrom A a3 a2 ((l.ks.length : Int) - 1) 0 l.ch = true := by
      rw [HJL.out]
      have e : l.ks.length = l.ch.length := by have h := HLN.out; omega
      rw [e]; exact lvlFrom_end
    have htk : l.ch.take l.ks.length = l.ch := by
      have e : l.ks.length = l.ch.length := by have h := HLN.out; omega
      rw [e, List.take_length]
    rw [htk]
    have HPK : Hid ((match ls[k + 1]? with
      | none => true
      | some d => if kidsOf A l.ch ≠ d.length then false else packLs A a3 a2 (ls.drop (k + 1))) = res) := by
      have h := HRES.out
      rw [packLs_at HLC.out, ← HLN.out, hlv, if_neg (by decide)] at h
      exact Lib.hid h
    clear hlv htk HJL hj hlt
    have hk64 : IntKind.i64.wrap ((k : Int) + 1) = (k : Int) + 1 := by rw [IntKind.wrap_i64]; omega
    by_cases hk1 : k + 1 < lvs.length
    rotate_left
    · have hk1' : ¬ ((k : Int) + 1 < (lvs.length : Int)) := by omega
      have hnx : ls[k + 1]? = none := by rw [List.getElem?_eq_none_iff, ← HLL.out]; omega
      have HPN : Hid (packLs A a3 a2 (ls.drop (k + 1)) = res) := by
        have h := HPK.out
        rw [hnx] at h
        rw [List.drop_of_length_le (by rw [← HLL.out]; omega)]
        exact Lib.hid h
      clear hnx HPK
      go_wp2
      go_roundw
      case rel => exact ⟨k + 1, by omega, by simp, HPN.out, HB.out, K2.out⟩
      case measure => simp [intOf]; omega
    obtain ⟨l2, hl2⟩ : ∃ l, lvs[k + 1]? = some l := ⟨_, List.getElem?_eq_getElem hk1⟩
    have hl2c : ls[k + 1]? = some l2.ch := by rw [← HLM.out, List.getElem?_map, hl2]; rfl
    obtain ⟨u2, uc2, eu2⟩ := (HLV.out l2 (List.mem_of_getElem? hl2)).1.1.form
    have q0 : wr.cell? ⟨gL, oL + (k + 1), none⟩ = some (.slice u2 l2.ks.length uc2) := by have h := K2.out.cell (HCU.out (k + 1) l2 hl2) (fun h => h); rw [eu2] at h; exact h
    have hl2n : l2.ch.length = l2.ks.length := by unfold Lq.ch; rw [List.length_map]
    have hk1' : (k : Int) + 1 < (lvs.length : Int) := by omega
    have HPK2 : Hid ((if kidsOf A l.ch ≠ l2.ks.length then false else packLs A a3 a2 (ls.drop (k + 1))) = res) := by have h := HPK.out; rw [hl2c] at h; simp only [hl2n] at h; exact Lib.hid h
    clear hl2 hl2c eu2 hl2n HPK
    by_cases hkk : kidsOf A l.ch = l2.ks.length
    · have bkk : (((kidsOf A l.ch : Nat) : Int) != (l2.ks.length : Int)) = false := by simp [hkk]
      have HPN : Hid (packLs A a3 a2 (ls.drop (k + 1)) = res) := by have h := HPK2.out; rw [if_neg (by simp [hkk])] at h; exact Lib.hid h
      clear hkk HPK2
      go_wp2
      go_roundw
      case rel => exact ⟨k + 1, by omega, by simp, HPN.out, HB.out, K2.out⟩
      case measure => simp [intOf]; omega
    · have bkk : (((kidsOf A l.ch : Nat) : Int) != (l2.ks.length : Int)) = true := by simp only [bne_iff_ne, ne_eq]; omega
      have HPN : Hid (res = false) := by have h := HPK2.out; rw [if_pos hkk] at h; exact Lib.hid h.symm
      clear hkk HPK2
      go_wp2
      go_ret
      exact ⟨by rw [HPN.out]; rfl, K.out.trans K2.out (fun _ _ h => h)⟩
  obtain ⟨x, hx⟩ : ∃ x, l.ks[j]? = some x := ⟨_, List.getElem?_eq_getElem hlt⟩
  obtain ⟨s2, g1, g2, _⟩ := HLO.out x (List.mem_of_getElem? hx)
  have HXE : Hid (l.ch[j]? = some x.pr) := by unfold Lq.ch; rw [List.getElem?_map, hx]; exact Lib.hid rfl
  have HXN : Hid (opNd A x.pr.1 = x.nd) := by have h : opNd A x.id = s2.nd := opNd_some g1; rw [← g2, ← h]; exact Lib.hid rfl
  have HKN : Hid (kidsOf A (l.ch.take (j + 1)) = kidsOf A (l.ch.take j) + x.nd.kids.length) := by rw [kidsOf_take HXE.out, HXN.out]; exact Lib.hid rfl
  have hadd : IntKind.i64.wrap (((kidsOf A (l.ch.take j) : Nat) : Int) + (x.nd.kids.length : Int)) = ((kidsOf A (l.ch.take (j + 1)) : Nat) : Int) := by
    have h1 := kidsOf_le (A := A) (n := 25000000000000) (l.ch.take (j + 1)) (fun e he => HKB.out e (List.mem_of_mem_take he))
    have h2 : (l.ch.take (j + 1)).length ≤ 65536 := Nat.le_trans (take_len _ _) (by have h := HLN.out; omega)
    have h3 := Nat.mul_le_mul_left 25000000000000 h2
    have h4 := HKN.out
    rw [IntKind.wrap_i64]; omega
  obtain ⟨g, o, LA, LC, X1, k1, X3, k3, X4, k4, X5, k5, eA, q0, q1, q2, q3, q4, q5, q6, q7, _, _⟩ := lk_cells HROW.out rfl hx (HIS.out x (List.mem_of_getElem? hx))
  have HADD := Lib.hid hadd
  rw [eA]
  clear hx g1 g2 hadd eA
  replace q0 := K2.out.cell q0 (fun h => h)
  replace q1 := K2.out.cell q1 (fun h => h)
  replace q2 := K2.out.cell q2 (fun h => h)
  replace q3 := K2.out.cell q3 (fun h => h)
  replace q4 := K2.out.cell q4 (fun h => h)
  replace q5 := K2.out.cell q5 (fun h => h)
  replace q6 := K2.out.cell q6 (fun h => h)
  replace q7 := K2.out.cell q7 (fun h => h)
  have f0 := ((Blk.new wr 135 #[.int .i64 0, .slice none 0 0, .int .i64 0, .slice none 0 0, .int .i64 0, .slice none 0 0, .slice none 0 0, .slice none 0 0])).frozen 0
  have z0 := ((Blk.new wr 135 #[.int .i64 0, .slice none 0 0, .int .i64 0, .slice none 0 0, .int .i64 0, .slice none 0 0, .slice none 0 0, .slice none 0 0])).cell 0
  have f1 := fun (v0 : Value) => (((Blk.new wr 135 #[.int .i64 0, .slice none 0 0, .int .i64 0, .slice none 0 0, .int .i64 0, .slice none 0 0, .slice none 0 0, .slice none 0 0])).set_ 0 v0).frozen 1
  have z1 := fun (v0 : Value) => (((Blk.new wr 135 #[.int .i64 0, .slice none 0 0, .int .i64 0, .slice none 0 0, .int .i64 0, .slice none 0 0, .slice none 0 0, .slice none 0 0])).set_ 0 v0).cell 1
  have f2 := fun (v0 v1 : Value) => ((((Blk.new wr 135 #[.int .i64 0, .slice none 0 0, .int .i64 0, .slice none 0 0, .int .i64 0, .slice none 0 0, .slice none 0 0, .slice none 0 0])).set_ 0 v0).set_ 1 v1).frozen 2
  have z2 := fun (v0 v1 : Value) => ((((Blk.new wr 135 #[.int .i64 0, .slice none 0 0, .int .i64 0, .slice none 0 0, .int .i64 0, .slice none 0 0, .slice none 0 0, .slice none 0 0])).set_ 0 v0).set_ 1 v1).cell 2
  have f3 := fun (v0 v1 v2 : Value) => (((((Blk.new wr 135 #[.int .i64 0, .slice none 0 0, .int .i64 0, .slice none 0 0, .int .i64 0, .slice none 0 0, .slice none 0 0, .slice none 0 0])).set_ 0 v0).set_ 1 v1).set_ 2 v2).frozen 3
  have z3 := fun (v0 v1 v2 : Value) => (((((Blk.new wr 135 #[.int .i64 0, .slice none 0 0, .int .i64 0, .slice none 0 0, .int .i64 0, .slice none 0 0, .slice none 0 0, .slice none 0 0])).set_ 0 v0).set_ 1 v1).set_ 2 v2).cell 3
  have f4 := fun (v0 v1 v2 v3 : Value) => ((((((Blk.new wr 135 #[.int .i64 0, .slice none 0 0, .int .i64 0, .slice none 0 0, .int .i64 0, .slice none 0 0, .slice none 0 0, .slice none 0 0])).set_ 0 v0).set_ 1 v1).set_ 2 v2).set_ 3 v3).frozen 4
  have z4 := fun (v0 v1 v2 v3 : Value) => ((((((Blk.new wr 135 #[.int .i64 0, .slice none 0 0, .int .i64 0, .slice none 0 0, .int .i64 0, .slice none 0 0, .slice none 0 0, .slice none 0 0])).set_ 0 v0).set_ 1 v1).set_ 2 v2).set_ 3 v3).cell 4
  have f5 := fun (v0 v1 v2 v3 v4 : Value) => (((((((Blk.new wr 135 #[.int .i64 0, .slice none 0 0, .int .i64 0, .slice none 0 0, .int .i64 0, .slice none 0 0, .slice none 0 0, .slice none 0 0])).set_ 0 v0).set_ 1 v1).set_ 2 v2).set_ 3 v3).set_ 4 v4).frozen 5
  have z5 := fun (v0 v1 v2 v3 v4 : Value) => (((((((Blk.new wr 135 #[.int .i64 0, .slice none 0 0, .int .i64 0, .slice none 0 0, .int .i64 0, .slice none 0 0, .slice none 0 0, .slice none 0 0])).set_ 0 v0).set_ 1 v1).set_ 2 v2).set_ 3 v3).set_ 4 v4).cell 5
  have f6 := fun (v0 v1 v2 v3 v4 v5 : Value) => ((((((((Blk.new wr 135 #[.int .i64 0, .slice none 0 0, .int .i64 0, .slice none 0 0, .int .i64 0, .slice none 0 0, .slice none 0 0, .slice none 0 0])).set_ 0 v0).set_ 1 v1).set_ 2 v2).set_ 3 v3).set_ 4 v4).set_ 5 v5).frozen 6
  have z6 := fun (v0 v1 v2 v3 v4 v5 : Value) => ((((((((Blk.new wr 135 #[.int .i64 0, .slice none 0 0, .int .i64 0, .slice none 0 0, .int .i64 0, .slice none 0 0, .slice none 0 0, .slice none 0 0])).set_ 0 v0).set_ 1 v1).set_ 2 v2).set_ 3 v3).set_ 4 v4).set_ 5 v5).cell 6
  have f7 := fun (v0 v1 v2 v3 v4 v5 v6 : Value) => (((((((((Blk.new wr 135 #[.int .i64 0, .slice none 0 0, .int .i64 0, .slice none 0 0, .int .i64 0, .slice none 0 0, .slice none 0 0, .slice none 0 0])).set_ 0 v0).set_ 1 v1).set_ 2 v2).set_ 3 v3).set_ 4 v4).set_ 5 v5).set_ 6 v6).frozen 7
  have z7 := fun (v0 v1 v2 v3 v4 v5 v6 : Value) => (((((((((Blk.new wr 135 #[.int .i64 0, .slice none 0 0, .int .i64 0, .slice none 0 0, .int .i64 0, .slice none 0 0, .slice none 0 0, .slice none 0 0])).set_ 0 v0).set_ 1 v1).set_ 2 v2).set_ 3 v3).set_ 4 v4).set_ 5 v5).set_ 6 v6).cell 7
  go_upto_region 12 with (fail)
  clear q0 q1 q2 q3 q4 q5 q6 q7
  clear f0 z0 f1 z1 f2 z2 f3 z3 f4 z4 f5 z5 f6 z6 f7 z7
  obtain ⟨N12, hN⟩ : ∃ N, wr.heap.size = N := ⟨_, rfl⟩
  rw [hN]
  refine code_at (fun w5 hw => ?_)
  have hk5 : Keeps Nob wr w5 := by rw [hw]; exact Keeps.alloc _ _ _
  have HBX : Hid (Blk w5 N12 135 #[.int .i64 x.id, .slice LA x.low.length LC, .int .i64 x.nd.lvl, .slice X1 x.nd.high.length k1, .int .i64 x.nd.right, .slice X3 x.nd.keys.length k3, .slice X4 x.nd.vals.length k4, .slice X5 x.nd.kids.length k5]) := by rw [hw, ← hN]; exact Lib.hid (Blk.new _ _ _)
  replace HB := Lib.hid (HB.out.keeps hk5 (fun h => h))
  replace K2 := Lib.hid (K2.out.trans hk5 (fun _ _ h => h))
  clear hk5 hw hN
  have n7 := HBX.out.cell 7
  have n5 := HBX.out.cell 5
  have hadd := HADD.out
  go_upto_region 14 with (fail)
  clear n7 n5 hadd HADD
  have n2 := HBX.out.cell 2
  have n7 := HBX.out.cell 7
  have d2 := HB.out.cell 2
  have d3 := HB.out.cell 3
  by_cases hlv : x.nd.lvl = 0
  · have blv : (x.nd.lvl == 0) = true := by simp only [beq_iff_eq]; omega
    by_cases hf : a3 < (x.nd.keys.length : Int)
    · as_aux_lemma =>
        have HBD : Hid (nodeBad a3 a2 x.nd j ((l.ks.length : Int) - 1) = true) := by show _ = _; unfold nodeBad; simp only [blv, decide_eq_true hf, decide_eq_false (show ¬ 0 < x.nd.lvl by omega), Bool.false_and, Bool.and_true, Bool.true_or, Bool.or_false]
        go_wp2
        clear n2 n7 d2 d3
        go_ret
        refine ⟨?_, K.out.trans K2.out (fun _ _ h => h)⟩
        have h := HJL.out
        rw [lvlFrom_at (e := x.pr) HXE.out, HXN.out, if_pos HBD.out] at h
        have h2 := HRES.out
        rw [packLs_at HLC.out, ← HLN.out, if_pos h] at h2
        rw [← h2]
        first | done | rfl
    · by_cases hjl : (j : Int) < ((l.ks.length : Int) - 1)
      · by_cases hnf : (x.nd.keys.length : Int) < a3
        · as_aux_lemma =>
            have HBD : Hid (nodeBad a3 a2 x.nd j ((l.ks.length : Int) - 1) = true) := by show _ = _; unfold nodeBad; simp only [blv, decide_eq_false hf, decide_eq_true hjl, decide_eq_true hnf, decide_eq_false (show ¬ 0 < x.nd.lvl by omega), Bool.true_and, Bool.false_and, Bool.and_true, Bool.true_or, Bool.or_false, Bool.or_true]
            go_wp2
            clear n2 n7 d2 d3
            go_ret
            refine ⟨?_, K.out.trans K2.out (fun _ _ h => h)⟩
            have h := HJL.out
            rw [lvlFrom_at (e := x.pr) HXE.out, HXN.out, if_pos HBD.out] at h
            have h2 := HRES.out
            rw [packLs_at HLC.out, ← HLN.out, if_pos h] at h2
            rw [← h2]
            first | done | rfl
        · by_cases hn0 : (x.nd.keys.length : Int) = 0
          · have bn0 : ((x.nd.keys.length : Int) == 0) = true := by simp only [beq_iff_eq]; omega
            by_cases hl0 : (0 : Int) < ((l.ks.length : Int) - 1)
            · as_aux_lemma =>
                have HBD : Hid (nodeBad a3 a2 x.nd j ((l.ks.length : Int) - 1) = true) := by show _ = _; unfold nodeBad; simp only [blv, decide_eq_false hf, decide_eq_true hjl, decide_eq_false hnf, decide_eq_true hn0, decide_eq_true hl0, decide_eq_false (show ¬ 0 < x.nd.lvl by omega), Bool.true_and, Bool.false_and, Bool.and_false, Bool.and_true, Bool.or_false, Bool.or_true]
                go_wp2
                clear n2 n7 d2 d3
                go_ret
                refine ⟨?_, K.out.trans K2.out (fun _ _ h => h)⟩
                have h := HJL.out
                rw [lvlFrom_at (e := x.pr) HXE.out, HXN.out, if_pos HBD.out] at h
                have h2 := HRES.out
                rw [packLs_at HLC.out, ← HLN.out, if_pos h] at h2
                rw [← h2]
                first | done | rfl
            · exact absurd hl0 (by omega)
          · have bn0 : ((x.nd.keys.length : Int) == 0) = false := by simp only [beq_eq_false_iff_ne, ne_eq]; omega
            as_aux_lemma =>
              have HBD : Hid (nodeBad a3 a2 x.nd j ((l.ks.length : Int) - 1) = false) := by show _ = _; unfold nodeBad; simp only [blv, decide_eq_false hf, decide_eq_true hjl, decide_eq_false hnf, decide_eq_false hn0, decide_eq_false (show ¬ 0 < x.nd.lvl by omega), Bool.true_and, Bool.false_and, Bool.and_false, Bool.or_false]
              go_wp2
              clear n2 n7 d2 d3
              go_roundw
              case rel =>
                refine ⟨j + 1, hlt, by simp, ?_, ?_, HB.out, K2.out⟩
                · rw [HKN.out]
                · have h := HJL.out
                  rw [lvlFrom_at (e := x.pr) HXE.out, HXN.out, if_neg (by rw [HBD.out]; decide)] at h
                  exact h
              case measure => simp [intOf]; omega
      · by_cases hn0 : (x.nd.keys.length : Int) = 0
        · have bn0 : ((x.nd.keys.length : Int) == 0) = true := by simp only [beq_iff_eq]; omega
          by_cases hl0 : (0 : Int) < ((l.ks.length : Int) - 1)
          · as_aux_lemma =>
              have HBD : Hid (nodeBad a3 a2 x.nd j ((l.ks.length : Int) - 1) = true) := by show _ = _; unfold nodeBad; simp only [blv, decide_eq_false hf, decide_eq_false hjl, decide_eq_true hn0, decide_eq_true hl0, decide_eq_false (show ¬ 0 < x.nd.lvl by omega), Bool.false_and, Bool.and_false, Bool.and_true, Bool.or_false, Bool.or_true]
              go_wp2
              clear n2 n7 d2 d3
              go_ret
              refine ⟨?_, K.out.trans K2.out (fun _ _ h => h)⟩
              have h := HJL.out
              rw [lvlFrom_at (e := x.pr) HXE.out, HXN.out, if_pos HBD.out] at h
              have h2 := HRES.out
              rw [packLs_at HLC.out, ← HLN.out, if_pos h] at h2
              rw [← h2]
              first | done | rfl
          · as_aux_lemma =>
              have HBD : Hid (nodeBad a3 a2 x.nd j ((l.ks.length : Int) - 1) = false) := by show _ = _; unfold nodeBad; simp only [blv, decide_eq_false hf, decide_eq_false hjl, decide_eq_true hn0, decide_eq_false hl0, decide_eq_false (show ¬ 0 < x.nd.lvl by omega), Bool.false_and, Bool.and_false, Bool.or_false]
              go_wp2
              clear n2 n7 d2 d3
              go_roundw
              case rel =>
                refine ⟨j + 1, hlt, by simp, ?_, ?_, HB.out, K2.out⟩
                · rw [HKN.out]
                · have h := HJL.out
                  rw [lvlFrom_at (e := x.pr) HXE.out, HXN.out, if_neg (by rw [HBD.out]; decide)] at h
                  exact h
              case measure => simp [intOf]; omega
        · have bn0 : ((x.nd.keys.length : Int) == 0) = false := by simp only [beq_eq_false_iff_ne, ne_eq]; omega
          as_aux_lemma =>
            have HBD : Hid (nodeBad a3 a2 x.nd j ((l.ks.length : Int) - 1) = false) := by show _ = _; unfold nodeBad; simp only [blv, decide_eq_false hf, decide_eq_false hjl, decide_eq_false hn0, decide_eq_false (show ¬ 0 < x.nd.lvl by omega), Bool.false_and, Bool.and_false, Bool.or_false]
            go_wp2
            clear n2 n7 d2 d3
            go_roundw
            case rel =>
              refine ⟨j + 1, hlt, by simp, ?_, ?_, HB.out, K2.out⟩
              · rw [HKN.out]
              · have h := HJL.out
                rw [lvlFrom_at (e := x.pr) HXE.out, HXN.out, if_neg (by rw [HBD.out]; decide)] at h
                exact h
            case measure => simp [intOf]; omega
  · have blv : (x.nd.lvl == 0) = false := by simp only [beq_eq_false_iff_ne, ne_eq]; omega
    by_cases hlp : 0 < x.nd.lvl
    · by_cases hjl : (j : Int) < ((l.ks.length : Int) - 1)
      · by_cases hki : (x.nd.kids.length : Int) = a2
        · have bki : ((x.nd.kids.length : Int) != a2) = false := by simp only [bne_eq_false_iff_eq]; omega
          as_aux_lemma =>
            have HBD : Hid (nodeBad a3 a2 x.nd j ((l.ks.length : Int) - 1) = false) := by show _ = _; unfold nodeBad; simp only [blv, decide_eq_true hlp, decide_eq_true hjl, decide_eq_false (not_not_intro hki), Bool.true_and, Bool.false_and, Bool.and_false, Bool.or_false]
            go_wp2
            clear n2 n7 d2 d3
            go_roundw
            case rel =>
              refine ⟨j + 1, hlt, by simp, ?_, ?_, HB.out, K2.out⟩
              · rw [HKN.out]
              · have h := HJL.out
                rw [lvlFrom_at (e := x.pr) HXE.out, HXN.out, if_neg (by rw [HBD.out]; decide)] at h
                exact h
            case measure => simp [intOf]; omega
        · have bki : ((x.nd.kids.length : Int) != a2) = true := by simp only [bne_iff_ne, ne_eq]; omega
          as_aux_lemma =>
            have HBD : Hid (nodeBad a3 a2 x.nd j ((l.ks.length : Int) - 1) = true) := by show _ = _; unfold nodeBad; simp only [blv, decide_eq_true hlp, decide_eq_true hjl, decide_eq_true (show (x.nd.kids.length : Int) ≠ a2 from hki), Bool.true_and, Bool.false_and, Bool.and_true, Bool.or_true]
            go_wp2
            clear n2 n7 d2 d3
            go_ret
            refine ⟨?_, K.out.trans K2.out (fun _ _ h => h)⟩
            have h := HJL.out
            rw [lvlFrom_at (e := x.pr) HXE.out, HXN.out, if_pos HBD.out] at h
            have h2 := HRES.out
            rw [packLs_at HLC.out, ← HLN.out, if_pos h] at h2
            rw [← h2]
            first | done | rfl
      · as_aux_lemma =>
          have HBD : Hid (nodeBad a3 a2 x.nd j ((l.ks.length : Int) - 1) = false) := by show _ = _; unfold nodeBad; simp only [blv, decide_eq_true hlp, decide_eq_false hjl, Bool.false_and, Bool.and_false, Bool.false_or, Bool.or_false]
          go_wp2
          clear n2 n7 d2 d3
          go_roundw
          case rel =>
            refine ⟨j + 1, hlt, by simp, ?_, ?_, HB.out, K2.out⟩
            · rw [HKN.out]
            · have h := HJL.out
              rw [lvlFrom_at (e := x.pr) HXE.out, HXN.out, if_neg (by rw [HBD.out]; decide)] at h
              exact h
          case measure => simp [intOf]; omega
    · as_aux_lemma =>
        have HBD : Hid (nodeBad a3 a2 x.nd j ((l.ks.length : Int) - 1) = false) := by show _ = _; unfold nodeBad; simp only [blv, decide_eq_false hlp, Bool.false_and, Bool.or_false]
        go_wp2
        clear n2 n7 d2 d3
        go_roundw
        case rel =>
          refine ⟨j + 1, hlt, by simp, ?_, ?_, HB.out, K2.out⟩
          · rw [HKN.out]
          · have h := HJL.out
            rw [lvlFrom_at (e := x.pr) HXE.out, HXN.out, if_neg (by rw [HBD.out]; decide)] at h
            exact h
        case measure => simp [intOf]; omega
end
end Go.Proofs.YtbhohohgojcapaaGreat
