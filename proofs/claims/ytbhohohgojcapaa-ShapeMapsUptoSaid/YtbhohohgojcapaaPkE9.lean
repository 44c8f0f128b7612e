import Derived.Test.YtbhohohgojcapaaPkE2
import Derived.Test.YtbhohohgojcapaaPkE7
import Derived.Test.YtbhohohgojcapaaPkE8
namespace Go.Proofs.Ytbhohohgojcapaa
open Go.RowKit

/-- A row of entries of whose texts only the form is known. -/
def EnSh (w : World) (S : Nat → Prop) (v : Value) (n : Nat) (xs : List Value) : Prop := Own w S 98 2 v n xs ∧ ∀ u ∈ xs, ∃ m, ShB w S u m
theorem PMapAt.sh {w : World} {S : Nat → Prop} {v : Value} {R : List Ent} (h : PMapAt w S v R) : ∃ xs, EnSh w S v R.length xs := by
  obtain ⟨l, h1, h2, h3⟩ := h
  have hl : l.length = R.length := by rw [← h3, List.length_map]
  refine ⟨enCells l, by rw [← hl]; exact h1, fun u hu => ?_⟩
  unfold enCells at hu
  obtain ⟨x, hx, hu⟩ := List.mem_flatMap.1 hu
  simp only [List.mem_cons, List.not_mem_nil, or_false] at hu
  rcases hu with rfl | rfl
  · exact ⟨_, (h2 x hx).1.sh⟩
  · exact ⟨_, (h2 x hx).2.sh⟩
theorem EnSh.keeps {w w' : World} {S N : Nat → Prop} {v : Value} {n : Nat} {xs : List Value} (h : EnSh w S v n xs) (k : Keeps N w w') (hd : ∀ b, b < w.heap.size → S b → ¬ N b) : EnSh w' S v n xs :=
  ⟨h.1.keeps k hd, fun u hu => by obtain ⟨m, hm⟩ := h.2 u hu; exact ⟨m, hm.keeps k hd⟩⟩
theorem EnSh.byte {w : World} {S : Nat → Prop} {v : Value} {n g i : Nat} {xs : List Value} {cs : Array Value} (h : EnSh w S v n xs) (hb : Blk w g 5 cs) (b : UInt8) : EnSh (w.setCell ⟨g, i, none⟩ (bV b)) S v n xs :=
  ⟨Own.keepsB h.1 hb (by decide) (Keeps.setCell w (M := fun b => b = g) rfl _), fun u hu => by obtain ⟨m, hm⟩ := h.2 u hu; exact ⟨m, hm.byte b⟩⟩
theorem EnSh.at_ {w : World} {S : Nat → Prop} {A : Option Addr} {n c j : Nat} {xs : List Value} (h : EnSh w S (.slice A n c) n xs) (hj : j < n * 2) : ∃ g o u KA m kc, A = some ⟨g, o, none⟩ ∧ xs[j]? = some u ∧ u = .slice KA m kc ∧ m ≤ 9223372036854775807 ∧ w.cell? ⟨g, o + j, none⟩ = some u ∧ ShB w S u m := by
  obtain ⟨h1, h2⟩ := h
  have hl := h1.1
  obtain ⟨q1, _, hf⟩ := h1.at_
  rcases hf with ⟨_, hc⟩ | ⟨g, o, cur, rfl, _, hb, _, hc⟩
  · omega
  have hx : xs[j]? = some xs[j] := List.getElem?_eq_getElem (by omega)
  obtain ⟨m, hm⟩ := h2 _ (List.mem_of_getElem? hx)
  obtain ⟨KA, kc, e, q2, q3⟩ := hm.form
  exact ⟨g, o, _, KA, m, kc, rfl, hx, e, by unfold maxLen at q3; omega, by rw [hb.cell]; exact hc _ _ hx, hm⟩
section
variable {w : World} {a0 a1 a2 a3 a4 : Int} {lo : Nat} {sv : Value} {os : List OpM}
set_option maxRecDepth 100000 in
set_option maxHeartbeats 64000000 in
theorem mapsOk (ho : OpsAt w lo sv os) (hlo : lo ≤ w.heap.size) (hwd : ∀ o ∈ os, Wd o.nd) (hks : ∀ o ∈ os, o.nd.keys.length ≤ 1048576) : Calls Try.prog 7 #[.agg #[sv, .int .i64 a0, .int .i64 a1, .int .i64 a2, .int .i64 a3, .int .i64 a4]] w fun e w' => e = .returned (.bool true) ∧ Keeps Nob w w' := by
  obtain ⟨sA, sc, es⟩ : ∃ A c, sv = .slice A os.length c := by obtain ⟨A, c, e, _⟩ := ho; exact ⟨A, c, e⟩
  subst es
  have hww : Wide64 (steps (ar0 40) os) := wdd_steps os _ (wdd_ar0 40) hwd
  have hkk : KeysLe 1048576 (steps (ar0 40) os) := kle_steps os _ (kle_ar0 40) hks
  have hrt := root_steps_ os (ar0 40) (root_ar0 40)
  obtain ⟨A, hA⟩ : ∃ A, steps (ar0 40) os = A := ⟨_, rfl⟩
  rw [hA] at hww hkk hrt
  have HO := Lib.hid ho
  have HLO := Lib.hid hlo
  have HA := Lib.hid hA
  have HWW := Lib.hid hww
  have HKK := Lib.hid hkk
  have HRT : Hid (1 ≤ A.root ∧ A.root ≤ A.sl.length) := hrt
  clear ho hlo hA hwd hks hww hkk hrt
  go_enter Try.func7, Try.ntmps7
  go_wp2_with fail
  obtain ⟨P1, hP⟩ : ∃ N, w.heap.size = N := ⟨_, rfl⟩
  rw [hP]
  refine calls_at (fun w1 hw => ?_)
  have hk : Keeps Nob w w1 := by rw [hw]; exact Keeps.alloc _ _ _
  have HB := Lib.hid (show Blk w1 P1 93 #[.slice sA os.length sc, .int .i64 a0, .int .i64 a1, .int .i64 a2, .int .i64 a3, .int .i64 a4] by rw [hw, ← hP]; exact Blk.new _ _ _)
  have K := Lib.hid hk
  clear hw hk hP
  refine (head11 _).mono ?_
  rintro e w2 ⟨rfl, hk⟩
  replace HB := Lib.hid (HB.out.keeps hk (fun h => h))
  replace K := Lib.hid (K.out.trans hk (fun _ _ h => h))
  clear hk
  have t0 := HB.out.cell 0
  have t1 := HB.out.cell 1
  have t2 := HB.out.cell 2
  have t3 := HB.out.cell 3
  have t4 := HB.out.cell 4
  have t5 := HB.out.cell 5
  go_wp2_with fail
  clear t0 t1 t2 t3 t4 t5
  refine (laidJ (HO.out.keeps K.out (fun _ _ => id)) (Nat.le_trans HLO.out K.out.size)).mono ?_
  rintro e w3 ⟨b, p, q, rfl, hj, hk⟩
  rw [HA.out] at hj
  replace K := Lib.hid (K.out.trans hk (fun _ _ h => h))
  have HJ := Lib.hid hj
  clear hj hk HB
  have hlen : A.sl.length ≤ 65536 := by
    obtain ⟨_, _, M, D, _, ⟨L, xs, h⟩, _⟩ := HJ.out.mem
    have := h.bound; omega
  obtain ⟨R, hR⟩ : ∃ R, mapOf A = R := ⟨_, rfl⟩
  have HBD : Hid (R.length ≤ 4000000000000) := by
    rw [← hR]
    have h := mapOf_bound HKK.out
    have h2 : (A.sl.length + 1) * 1048576 ≤ 65537 * 1048576 := Nat.mul_le_mul_right _ (by omega)
    show _ ≤ _
    omega
  have HR := Lib.hid hR
  clear hR
  have FX : Calls Try.prog 32 #[pV p] w3 fun e w' => ∃ v, e = .returned v ∧ PMapAt w' (Fresh w3 w') v R ∧ Keeps Nob w3 w' := by
    obtain ⟨M, D, _, _, ⟨sl, ids, h⟩, _⟩ := HJ.out.mem
    exact pmapR h HJ.out.smA HWW.out HRT.out HR.out HBD.out
  have FY : ∀ wx, Keeps Nob w3 wx → Calls Try.prog 35 #[pV q] wx fun e w' => ∃ v, e = .returned v ∧ MapAt w' (Fresh wx w') v R ∧ Keeps Nob wx w' := fun wx k => by
    obtain ⟨_, _, M, D, _, ⟨L, xs, h⟩, _⟩ := HJ.out.mem
    exact mapR (h.keeps k (fun _ _ _ h => h) (fun _ _ _ h => h)) HJ.out.smB HR.out HBD.out
  have s0 : w3.cell? ⟨b, 0, none⟩ = some (.pointer (some ⟨p, 0, none⟩)) := HJ.out.blk.cell 0
  have HS1 : Hid (w3.cell? ⟨b, 1, none⟩ = some (.pointer (some ⟨q, 0, none⟩))) := HJ.out.blk.cell 1
  have HFY := Lib.hid FY
  unfold pV at FX ⊢
  clear FY
  go_wp2_with fail
  clear s0
  refine FX.mono ?_
  rintro e w4 ⟨v, rfl, hm, hk⟩
  have HM := Lib.hid hm
  have KT := Lib.hid hk
  have s1 := hk.cell HS1.out (fun h => h)
  have FY := HFY.out w4 hk
  unfold pV at FY
  clear hm hk FX HFY
  go_wp2_with fail
  clear s1
  refine FY.mono ?_
  rintro e w5 ⟨v2, rfl, hm2, hk⟩
  replace HM := Lib.hid (show PMapAt w5 (Fresh w3 w4) v R from by
    obtain ⟨l, h1, h2, h3⟩ := HM.out
    exact ⟨l, h1.keeps hk (fun _ _ _ h => h), fun x hx => ⟨(h2 x hx).1.keeps hk (fun _ _ _ h => h), (h2 x hx).2.keeps hk (fun _ _ _ h => h)⟩, h3⟩)
  replace KT := Lib.hid (KT.out.trans hk (fun _ _ h => h))
  have FE := sameE HM.out.map hm2
  clear hm2 hk FY
  go_wp2_with fail
  refine FE.mono ?_
  rintro e w6 ⟨rfl, hk⟩
  obtain ⟨xs, hsh⟩ := HM.out.sh
  have HSH := Lib.hid (hsh.keeps hk (fun _ _ _ h => h))
  replace KT := Lib.hid (KT.out.trans hk (fun _ _ h => h))
  obtain ⟨n, hn⟩ : ∃ n, R.length = n := ⟨_, rfl⟩
  rw [hn] at HSH
  obtain ⟨vA, vc, ev⟩ := HSH.out.1.form
  subst ev
  have hnz : n ≤ 4000000000000 := by have := HBD.out; omega
  clear hsh hk FE HM hn HR HBD
  go_wp2
  go_loopw [9] (fun i wr => ∃ k : Nat, k ≤ n ∧ i = .int .i64 k ∧ EnSh wr (Fresh w3 w4) (.slice vA n vc) n xs ∧ Keeps Nob w3 wr) (fun i _ => n - (intOf i).toNat)
  case atStart => exact ⟨0, Nat.zero_le _, rfl, HSH.out, KT.out⟩
  clear HSH KT
  obtain ⟨k, hk, rfl, hsh, hkr⟩ := hrel
  have HSH := Lib.hid hsh
  have KT := Lib.hid hkr
  clear hsh hkr
  rcases Nat.lt_or_ge k n with hlt | hlt
  rotate_left
  · obtain rfl : k = n := by omega
    have FS := sameJ (HJ.out.nob KT.out)
    unfold pV at FS
    go_wp2_with fail
    refine FS.mono ?_
    rintro e w7 ⟨rfl, _, hk7⟩
    have HK7 := Lib.hid hk7
    clear hk7 FS
    go_wp2
    go_ret
    exact ⟨rfl, (K.out.trans KT.out (fun _ _ h => h)).trans HK7.out (fun _ _ h => h)⟩
  obtain ⟨g, o, u, KA, m, kc, eA, hxu, eu, hm, hcx, hsx⟩ := HSH.out.at_ (j := k * 2) (by omega)
  obtain ⟨g', o', u2, KB, m2, kc2, eA2, hxu2, eu2, hm2, hcx2, hsx2⟩ := HSH.out.at_ (j := k * 2 + 1) (by omega)
  clear hcx hsx hcx2 hsx2 eA2
  clear g' o'
  subst eA eu eu2
  have hkn : k < n := hlt
  have HX := Lib.hid (And.intro hxu hxu2)
  clear hxu hxu2
  -- the cells of the row, in whatever world that keeps it
  have HC : Hid (∀ wz, EnSh wz (Fresh w3 w4) (.slice (some ⟨g, o, none⟩) n vc) n xs → wz.cell? ⟨g, o + k * 2, none⟩ = some (.slice KA m kc) ∧ wz.cell? ⟨g, o + k * 2 + 1, none⟩ = some (.slice KB m2 kc2) ∧ ShB wz (Fresh w3 w4) (.slice KA m kc) m ∧ ShB wz (Fresh w3 w4) (.slice KB m2 kc2) m2) := Lib.hid (fun wz h => by
    obtain ⟨g1, o1, u1, K1, m1, c1, e1, x1, y1, _, z1, s1⟩ := h.at_ (j := k * 2) (by omega)
    obtain ⟨g3, o3, u3, K3, m3, c3, e3, x3, y3, _, z3, s3⟩ := h.at_ (j := k * 2 + 1) (by omega)
    injection e1 with e1
    injection e1 with e1 e2
    injection e3 with e3
    injection e3 with e3 e4
    subst e1 e2 e3 e4
    rw [HX.out.1] at x1
    rw [HX.out.2] at x3
    cases x1; cases x3
    injection y1 with q1 q2 q3
    injection y3 with q4 q5 q6
    subst q1 q2 q3 q4 q5 q6
    exact ⟨z1, z3, s1, s3⟩)
  clear HX
  go_wp2
  go_loopw [10] (fun i wz => ∃ j : Nat, j ≤ m ∧ i = .int .i64 j ∧ EnSh wz (Fresh w3 w4) (.slice (some ⟨g, o, none⟩) n vc) n xs ∧ Keeps Nob w3 wz) (fun i _ => m - (intOf i).toNat)
  case atStart => exact ⟨0, Nat.zero_le _, rfl, HSH.out, KT.out⟩
  clear HSH KT
  obtain ⟨j, hj, rfl, hsh, hkr⟩ := hrel
  have HSH := Lib.hid hsh
  have KT := Lib.hid hkr
  obtain ⟨z1, z2, s1, s2⟩ := HC.out _ hsh
  clear hsh hkr
  rcases Nat.lt_or_ge j m with hjm | hjm
  · obtain ⟨g2, o2, cs2, y, eK, hS2, hb2, hc2⟩ := s1.get hjm
    subst eK
    have hf2 := hb2.frozen (o2 + j)
    have HB2 := Lib.hid hb2
    have HG2 : Hid (w3.heap.size ≤ g2) := hS2.1
    unfold bV at hc2
    clear hS2 hb2 s1 s2
    go_wp2
    clear z1 z2 hc2 hf2
    go_roundw
    case rel => exact ⟨j + 1, by omega, by go_num, by rw [bV_inc]; exact HSH.out.byte HB2.out _, KT.out.trans (Keeps.setCell _ (M := fun x => x = g2) rfl _) (fun x hx e => by have e2 : x = g2 := e; have := HG2.out; omega)⟩
    case measure => simp [intOf]; omega
  obtain rfl : j = m := by omega
  clear s1 s2
  go_wp2
  clear z1 z2
  go_loopw [11] (fun i wz => ∃ j : Nat, j ≤ m2 ∧ i = .int .i64 j ∧ EnSh wz (Fresh w3 w4) (.slice (some ⟨g, o, none⟩) n vc) n xs ∧ Keeps Nob w3 wz) (fun i _ => m2 - (intOf i).toNat)
  case atStart => exact ⟨0, Nat.zero_le _, rfl, HSH.out, KT.out⟩
  clear HSH KT
  obtain ⟨j2, hj2, rfl, hsh, hkr⟩ := hrel
  have HSH := Lib.hid hsh
  have KT := Lib.hid hkr
  obtain ⟨z1, z2, s1, s2⟩ := HC.out _ hsh
  clear hsh hkr
  rcases Nat.lt_or_ge j2 m2 with hjm2 | hjm2
  · obtain ⟨g2, o2, cs2, y, eK, hS2, hb2, hc2⟩ := s2.get hjm2
    subst eK
    have hf2 := hb2.frozen (o2 + j2)
    have HB2 := Lib.hid hb2
    have HG2 : Hid (w3.heap.size ≤ g2) := hS2.1
    unfold bV at hc2
    clear hS2 hb2 s1 s2
    go_wp2
    clear z1 z2 hc2 hf2
    go_roundw
    case rel => exact ⟨j2 + 1, by omega, by go_num, by rw [bV_inc]; exact HSH.out.byte HB2.out _, KT.out.trans (Keeps.setCell _ (M := fun x => x = g2) rfl _) (fun x hx e => by have e2 : x = g2 := e; have := HG2.out; omega)⟩
    case measure => simp [intOf]; omega
  obtain rfl : j2 = m2 := by omega
  clear s1 s2
  go_wp2
  clear z1 z2
  go_roundw
  case rel => exact ⟨k + 1, by omega, by go_num, HSH.out, KT.out⟩
  case measure => simp [intOf]; omega
end
end Go.Proofs.Ytbhohohgojcapaa
