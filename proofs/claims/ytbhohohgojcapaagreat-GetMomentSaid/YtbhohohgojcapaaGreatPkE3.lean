import Derived.Test.YtbhohohgojcapaaGreatPkD4
import Derived.Test.YtbhohohgojcapaaGreatPkE2
set_option maxHeartbeats 64000000
namespace Go.Proofs.YtbhohohgojcapaaGreat
open Go.RowKit
section
variable {w : World} {M D : Nat -> Prop} {q : Nat} {L : Value} {xs : List Value} {A : Ar} {a0 a1 a2 a3 a4 : Int}
set_option maxRecDepth 100000 in
theorem checkRep (h0 : DocW w M D q L xs A) (hsm : ∀ s ∈ A.sl, NdSm 0 s.nd) :
  Calls Tryz.prog 12 #[pV q, .agg #[.int .i64 a0, .int .i64 a1, .int .i64 a2, .int .i64 a3, .int .i64 a4]] w λ e w' => e = .returned (.agg (rpV (checkM A a0 a1 a2 a3 a4))) /\ Keeps Nob w w' := by
 have H0 := Hd h0
 have HSM := Hd hsm
 have hbd := h0.bound
 obtain ⟨ls, R, hR⟩ : ∃ ls R, levelsM A a0 a1 a2 a3 a4 = (ls, R) := ⟨_, _, rfl⟩
 have hcm : checkM A a0 a1 a2 a3 a4 = checkOf A ls R := by unfold checkM; rw [hR]
 rw [hcm]
 have HR := Hd hR
 clear h0 hsm hR hcm
 have FL := λ wx (h : DocW wx M D q L xs A) => levelsR h HSM.out HR.out
 unfold pV rpV at FL
 unfold pV
 go_enter Tryz.func12, Tryz.ntmps12
 go_wp2_with fail
 refine calls_at (λ w1 hw => ?_)
 obtain ⟨P3, hP⟩ : ∃ N, w.heap.size = N := ⟨_, rfl⟩
 rw [hP]
 have HP := Hd hP
 have K : Hid (Keeps Nob w w1) := by show Keeps _ _ _; rw [hw]; exact (Keeps.alloc _ _ _).alloc' _
 have B4 : Hid (Blk w1 (P3 + 1) 42 #[.bool false, .int .i64 0, .int .i64 0, .int .i64 0, .int .i64 0, .int .i64 0]) := by show Blk _ _ _ _; rw [hw, <- hP]; exact Blk.new' (by simp) _ _
 clear hw hP
 have HY := Hd (H0.out.keeps K.out (λ _ _ _ h => h) (λ _ _ _ h => h))
 refine (FL _ HY.out).mono ?_
 rintro e w2 ⟨lv, rfl, hl, hk⟩
 replace K := tq_ K hk
 replace B4 := Hd (B4.out.keeps hk (λ h => h))
 obtain ⟨lds, hlm, hown, hlds⟩ := hl
 obtain ⟨lA, lc, el⟩ := hown.form
 subst el
 have HL := Hd hown
 have HLD := Hd hlds
 have HLM := Hd hlm
 have HLL : Hid (lds.length = ls.length) := by show _ = _; rw [<- hlm, List.length_map]
 clear FL hk hown hlds hlm
 obtain ⟨rs, rn, re, rl, rns, rents⟩ := R
 rcases rs with _ | _
 ·as_aux_lemma =>
  have hck : checkOf A ls ⟨false, rn, re, rl, rns, rents⟩ = ⟨false, rn, re, rl, rns, rents⟩ := rfl
  have HCK : Hid (checkOf A ls ⟨false, rn, re, rl, rns, rents⟩ = ⟨false, rn, re, rl, rns, rents⟩) := hck
  clear hck HL HLD HLM HLL HR HSM HY
  have l4 := B4.out.lt
  have f0 := λ o => (B4.out.alloc o).frozen 0
  have z0 := λ o => (B4.out.alloc o).cell 0
  have f1 := λ (o : Obj) (v0 : Value) => ((B4.out.set_ 0 v0).alloc o).frozen 1
  have z1 := λ (o : Obj) (v0 : Value) => ((B4.out.set_ 0 v0).alloc o).cell 1
  have f2 := λ (o : Obj) (v0 v1 : Value) => (((B4.out.set_ 0 v0).set_ 1 v1).alloc o).frozen 2
  have z2 := λ (o : Obj) (v0 v1 : Value) => (((B4.out.set_ 0 v0).set_ 1 v1).alloc o).cell 2
  have f3 := λ (o : Obj) (v0 v1 v2 : Value) => ((((B4.out.set_ 0 v0).set_ 1 v1).set_ 2 v2).alloc o).frozen 3
  have z3 := λ (o : Obj) (v0 v1 v2 : Value) => ((((B4.out.set_ 0 v0).set_ 1 v1).set_ 2 v2).alloc o).cell 3
  have f4 := λ (o : Obj) (v0 v1 v2 v3 : Value) => (((((B4.out.set_ 0 v0).set_ 1 v1).set_ 2 v2).set_ 3 v3).alloc o).frozen 4
  have z4 := λ (o : Obj) (v0 v1 v2 v3 : Value) => (((((B4.out.set_ 0 v0).set_ 1 v1).set_ 2 v2).set_ 3 v3).alloc o).cell 4
  have f5 := λ (o : Obj) (v0 v1 v2 v3 v4 : Value) => ((((((B4.out.set_ 0 v0).set_ 1 v1).set_ 2 v2).set_ 3 v3).set_ 4 v4).alloc o).frozen 5
  have z5 := λ (o : Obj) (v0 v1 v2 v3 v4 : Value) => ((((((B4.out.set_ 0 v0).set_ 1 v1).set_ 2 v2).set_ 3 v3).set_ 4 v4).alloc o).cell 5
  go_wp2
  clear f0 f1 f2 f3 f4 f5 z0 z1 z2 z3 z4 z5
  refine post_at (λ v3 hw => ?_)
  have hk : Keeps (λ x => x = P3 + 1) w2 v3 := by rw [hw]; exact ((((((Keeps.setCell _ (M := λ x => x = P3 + 1) rfl _).setCell' (λ _ => rfl) _).setCell' (λ _ => rfl) _).setCell' (λ _ => rfl) _).setCell' (λ _ => rfl) _).setCell' (λ _ => rfl) _).alloc' _
  have hb : Blk v3 (P3 + 1) 42 #[.bool false, .int .i64 rn, .int .i64 re, .int .i64 rl, .int .i64 rns, .int .i64 rents] := by rw [hw]; exact ((((((B4.out.set_ 0 _).set_ 1 _).set_ 2 _).set_ 3 _).set_ 4 _).set_ 5 _).alloc _
  have r0 := hb.cell 0
  have r1 := hb.cell 1
  have r2 := hb.cell 2
  have r3 := hb.cell 3
  have r4 := hb.cell 4
  have r5 := hb.cell 5
  refine bodyPost_ret (v := .agg #[.bool false, .int .i64 rn, .int .i64 re, .int .i64 rl, .int .i64 rns, .int .i64 rents]) (by simp [results, Tryz.results12, go_sem, r0, r1, r2, r3, r4, r5]) rfl ⟨by rw [HCK.out]; rfl, K.out.trans hk (λ x hx e => by have h := HP.out; have e2 : x = P3 + 1 := e; omega)⟩
 obtain ⟨hrp, hcf⟩ := levelsM_rp (A := A) (a0 := a0) (a1 := a1) (a2 := a2) (a3 := a3) (a4 := a4) (by rw [HR.out])
 rw [HR.out] at hrp
 injection hrp with _ e1 e2 e3 e4 e5
 subst e1 e2 e3 e4 e5
 obtain ⟨lv0, hT⟩ := levelsM_ok HR.out rfl
 obtain ⟨ch, hch, hpos, hlast, hkl, hcl⟩ := last_chain hT
 have hnb : nodesOf ls <= A.sl.length := by rw [nodesOf_flat]; exact hT.len
 have ha1 : a1 <= 64 := by unfold confOk at hcf; simp only [Bool.and_eq_true, decide_eq_true_eq] at hcf; exact hcf.2.1.2
 have hsl : A.sl.length <= 65536 := by omega
 have hkb : keysOf A ch <= 64 * 65536 := by
  have h := keysOf_le (A := A) (n := 64) ch (λ e he => by obtain ⟨s, h1, h2⟩ := hkl e he; rw [opNd_get h1]; omega)
  have h2 : 64 * ch.length <= 64 * 65536 := Nat.mul_le_mul_left _ (by omega)
  omega
 have HNB := Hd hnb
 have HKB := Hd hkb
 have HKL := Hd hkl
 have HCH := Hd hch
 have hck : checkOf A ls ⟨true, 0, 0, 0, 0, 0⟩ = ⟨true, 0, 0, ls.length, nodesOf ls, keysOf A ch⟩ := by unfold checkOf; rw [if_neg (by decide), hlast]
 have HCK := Hd hck
 have hlsn : (ls.length : Int) <= 65536 := by
  have h := hT.trs.length
  have h2 : ls.length <= nodesOf ls := by
   rw [nodesOf_flat]
   have : ∀ (l : List Ch), (∀ c ∈ l, c ≠ []) -> l.length <= l.flatten.length := λ l => by
    induction l with
    | nil => intro _; simp
    | cons c l ih =>
     intro hn
     have h1 := ih (λ x hx => hn x (List.mem_cons_of_mem _ hx))
     have h2 : 0 < c.length := List.length_pos_iff.2 (hn c (List.mem_cons_self ..))
     simp only [List.length_cons, List.flatten_cons, List.length_append]
     omega
   refine this ls (trs_ne hT.trs)
  omega
 have HPOS : Hid (0 < ls.length) := hpos
 have hlen64 : (lds.length : Int) <= 65536 := by rw [HLL.out]; exact hlsn
 clear hck hT hch hpos hlast hkl hcl hnb hkb hlsn ha1 hcf HR
 obtain ⟨hd1, _, hf⟩ := HL.out.at_
 rcases hf with ⟨_, hd0⟩ | ⟨gL, oL, cur, rfl, hgL, hbL, _, hxL⟩
 ·exact absurd hd1 (by have := HPOS.out; have := HLL.out; omega)
 have HCU : Hid (∀ (j : Nat) x, (ldCells lds)[j]? = some x -> w2.cell? ⟨gL, oL + j, none⟩ = some x) := λ j x hx => by rw [hbL.cell]; exact hxL j x hx
 clear hd1 hgL hbL hxL HL
 go_wp2
 refine code_at (λ w3 hw => ?_)
 obtain ⟨P6, hP⟩ : ∃ N, w2.heap.size = N := ⟨_, rfl⟩
 rw [hP]
 have HP6 : Hid (w2.heap.size <= P6) := Nat.le_of_eq hP
 have hk3 : Keeps Nob w2 w3 := by rw [hw]; exact Keeps.alloc _ _ _
 have hb6 : Blk w3 P6 42 #[.bool true, .int .i64 0, .int .i64 0, .int .i64 lds.length, .int .i64 0, .int .i64 0] := by rw [hw, <- hP]; exact Blk.new _ _ _
 have HB6 := Hd hb6
 have K3 := Hd hk3
 clear hw hP hk3 hb6
 go_loopw [7] (λ i wz => ∃ k : Nat, k <= lds.length /\ i = .int .i64 k /\ Blk wz P6 42 #[.bool true, .int .i64 0, .int .i64 0, .int .i64 lds.length, .int .i64 ((nodesOf (ls.take k) : Nat) : Int), .int .i64 0] /\ Keeps Nob w2 wz) (λ i _ => lds.length - (intOf i).toNat)
 case atStart => exact ⟨0, Nat.zero_le _, rfl, HB6.out, K3.out⟩
 clear HB6 K3
 obtain ⟨k, hk, rfl, hb6, hk2⟩ := hrel
 have HB6 := Hd hb6
 have K2 := Hd hk2
 clear hb6 hk2
 rcases Nat.lt_or_ge k lds.length with hlt | hlt
 ·as_aux_lemma =>
  obtain ⟨d, hd⟩ : ∃ d, lds[k]? = some d := ⟨_, List.getElem?_eq_getElem hlt⟩
  have hdc : ls[k]? = some d.c := by rw [<- HLM.out, List.getElem?_map, hd]; rfl
  obtain ⟨⟨hI, _⟩, _⟩ := HLD.out d (List.mem_of_getElem? hd)
  obtain ⟨CA, cc, eA, _, _⟩ := hI.form
  rw [List.length_map] at eA
  have r0 := HCU.out _ _ (ldCells_at hd).1
  rw [eA] at r0
  have HN : Hid (nodesOf (ls.take (k + 1)) = nodesOf (ls.take k) + d.c.length) := nodesOf_take hdc
  have hadd : IntKind.i64.wrap (((nodesOf (ls.take k) : Nat) : Int) + ((d.c.length : Nat) : Int)) = ((nodesOf (ls.take (k + 1)) : Nat) : Int) := by
   have h1 := nodesOf_le ls (k + 1)
   have h2 := HNB.out
   have h3 := HN.out
   rw [IntKind.wrap_i64]; omega
  have s0 := HB6.out.cell 4
  have s1 := K2.out.cell r0 (λ h => h)
  have hpk : 0 <= (k : Int) /\ (k : Int) < (lds.length : Int) := by omega
  clear hd hdc hI eA r0
  generalize d.c.length = cl at *
  generalize nodesOf (ls.take k) = n0 at *
  obtain ⟨n1, hn1⟩ : ∃ n1, nodesOf (ls.take (k + 1)) = n1 := ⟨_, rfl⟩
  rw [hn1] at hadd
  have HN1 := Hd hn1.symm
  clear hn1 HN
  go_wp2
  refine rC_ [0, 1, 2, 3, 4, 5, 6, 7, 8, 9, 10] 10 (λ W => W.cell? ⟨P6, 4, none⟩ = some (.int .i64 (n0 : Int)) /\ W.cell? ⟨gL, oL + k * 2, none⟩ = some (.slice CA cl cc)) ⟨s0, s1⟩ ?_
  refine canon_at (λ v0 hw => ?_)
  have hk : Keeps Nob wr v0 := by rw [hw]; exact Keeps.drew _ _
  replace HB6 := Hd (HB6.out.keeps hk (λ h => h))
  replace K2 := tq_ K2 hk
  clear hw s0 s1 hk
  iterate 10
   refine cR_ (v := ?_) rfl ?_ ?_
   rotate_left
   ·intro W hW
    try (obtain ⟨g1, g2⟩ : _ /\ _ := hW)
    go_simp
    try simp only [if_pos hpk, hadd, Int.toNat_natCast]
    try rfl
   simp only [Act.put, sa_, sb_, sc_]
  refine cA_ rfl ?_
  have z4 := HB6.out.cell 4
  have f4 := HB6.out.frozen 4
  go_wp2
  clear z4 f4
  refine canon_at' (λ v1 hw => ?_)
  have hk : Keeps (λ x => x = P6) v0 v1 := by rw [hw]; exact Keeps.setCell _ (M := λ x => x = P6) rfl _
  replace HB6 : Hid (Blk v1 P6 42 #[.bool true, .int .i64 0, .int .i64 0, .int .i64 lds.length, .int .i64 (n1 : Int), .int .i64 0]) := by show Blk _ _ _ _; rw [hw]; exact HB6.out.set_ 4 _
  replace K2 := Hd (K2.out.trans hk (λ x hx e => by have h := HP6.out; have e2 : x = P6 := e; omega))
  clear hw hk hadd hpk
  refine ⟨.inl (by rfl), ?_⟩
  refine wpCanon_nil ?_
  go_wp2
  go_roundw
  case rel => exact ⟨k + 1, by omega, by go_num, by rw [<- HN1.out]; exact HB6.out, K2.out⟩
  case measure => simp [intOf]; omega
 obtain rfl : k = lds.length := by omega
 have hfull : nodesOf (ls.take lds.length) = nodesOf ls := by rw [HLL.out, List.take_length]
 rw [hfull] at HB6
 clear hfull hk hlt
 -- the leaves' chain
 obtain ⟨ix, hix⟩ : ∃ ix : Nat, (lds.length : Int) - 1 = (ix : Int) := ⟨lds.length - 1, by have := HPOS.out; have := HLL.out; omega⟩
 have hxl : ix < lds.length := by omega
 have hxe : ls.length - 1 = ix := by have := HLL.out; omega
 obtain ⟨d, hd⟩ : ∃ d, lds[ix]? = some d := ⟨_, List.getElem?_eq_getElem hxl⟩
 have hdc : d.c = ch := by
  have h := HCH.out
  rw [hxe, <- HLM.out, List.getElem?_map, hd] at h
  injection h
 obtain ⟨⟨hI, hTx⟩, _⟩ := HLD.out d (List.mem_of_getElem? hd)
 rw [hdc] at hI hTx
 obtain ⟨CA, cc, eA, ha1, ha2⟩ := hI.form
 obtain ⟨CB, cd, eB, _, _⟩ := Txts.form hTx
 rw [List.length_map] at eA eB ha1
 have q0 := K2.out.cell (HCU.out _ _ (ldCells_at hd).1) (λ h => h)
 have q1 : wr.cell? ⟨gL, oL + ix * 2 + 1, none⟩ = some d.Lw := K2.out.cell (HCU.out _ _ (ldCells_at hd).2) (λ h => h)
 rw [eA] at q0 hI
 rw [eB] at q1
 have HI := Hd hI
 have hzc : ch.length <= 9223372036854775807 := Nat.le_trans ha1 ha2
 have hpx : 0 <= (ix : Int) /\ (ix : Int) < (lds.length : Int) := by omega
 have hix2 : IntKind.i64.wrap ((lds.length : Int) - 1) = (ix : Int) := by rw [IntKind.wrap_i64]; omega
 clear hxe hd hdc hI hTx eA eB ha1 ha2 HLD HCH HLM HPOS
 clear hix
 go_wp2
 clear q0 q1 hpx hix2
 refine code_at (λ w4 hw => ?_)
 obtain ⟨P8, hP⟩ : ∃ N, wr.heap.size = N := ⟨_, rfl⟩
 rw [hP]
 have hk4 : Keeps Nob wr w4 := by rw [hw]; exact Keeps.alloc _ _ _
 have B8 : Hid (Blk w4 P8 105 #[.slice CA ch.length cc, .slice CB ch.length cd]) := by show Blk _ _ _ _; rw [hw, <- hP]; exact Blk.new _ _ _
 have hne8 : P6 ≠ P8 := by have := HB6.out.lt; omega
 clear hw hP
 replace HB6 := Hd (HB6.out.keeps hk4 (λ h => h))
 replace K2 := Hd (K2.out.trans hk4 (λ _ _ h => h))
 clear hk4
 go_loopw [9] (λ i wz => ∃ k : Nat, k <= ch.length /\ i = .int .i64 k /\ Blk wz P6 42 #[.bool true, .int .i64 0, .int .i64 0, .int .i64 lds.length, .int .i64 ((nodesOf ls : Nat) : Int), .int .i64 ((keysOf A (ch.take k) : Nat) : Int)] /\ Blk wz P8 105 #[.slice CA ch.length cc, .slice CB ch.length cd] /\ Keeps Nob w2 wz) (λ i _ => ch.length - (intOf i).toNat)
 case atStart => exact ⟨0, Nat.zero_le _, rfl, HB6.out, B8.out, K2.out⟩
 clear HB6 K2 B8
 obtain ⟨k, hk, rfl, hb6, hb8, hk2⟩ := hrel
 have HB6 := Hd hb6
 have B8 := Hd hb8
 have K2 := Hd hk2
 clear hb6 hb8 hk2
 rcases Nat.lt_or_ge k ch.length with hlt | hlt
 ·as_aux_lemma =>
  obtain ⟨e, he⟩ : ∃ e, ch[k]? = some e := ⟨_, List.getElem?_eq_getElem hlt⟩
  obtain ⟨s, hs, _⟩ := HKL.out e (List.mem_of_getElem? he)
  obtain ⟨ca, ea, _, hc⟩ := SlR.cells HI.out (i := k) (by rw [List.length_map, List.length_map]; exact hlt)
  subst ea
  have t0 := hc k _ (by rw [List.getElem?_map, List.getElem?_map, he]; rfl)
  obtain ⟨i, g, o, cL, hid, hi, _, hL, X1, k1, X3, k3, X4, k4, X5, k5, n0, n1, n2, n3, n4, n5, hnd⟩ := DocW.mono_ H0.out hs
  have cb : w.cell? ⟨q, 1, none⟩ = some (.slice (some ⟨g, o, none⟩) A.sl.length cL) := by have h := H0.out.blk.cell 1; rw [hL] at h; exact h
  have KA := K.out.trans K2.out (λ _ _ h => h)
  have s0 := HB6.out.cell 5
  have s1 := KA.cell cb (λ h => h)
  have s2 := B8.out.cell 0
  have s3 := K2.out.cell t0 (λ h => h)
  have s4 := KA.cell n3 (λ h => h)
  have HN : Hid (keysOf A (ch.take (k + 1)) = keysOf A (ch.take k) + s.nd.keys.length) := by show _ = _; rw [keysOf_take he, opNd_get hs]
  have hle : keysOf A (ch.take (k + 1)) <= keysOf A ch := by
   have : keysOf A ch = keysOf A (ch.take (k + 1)) + keysOf A (ch.drop (k + 1)) := by
    unfold keysOf; rw [<- List.sum_append, <- List.map_append, List.take_append_drop]
   omega
  have hadd : IntKind.i64.wrap (((keysOf A (ch.take k) : Nat) : Int) + ((s.nd.keys.length : Nat) : Int)) = ((keysOf A (ch.take (k + 1)) : Nat) : Int) := by
   have h2 := HKB.out
   have h3 := HN.out
   rw [IntKind.wrap_i64]; omega
  have hwr : IntKind.i64.wrap (e.1 - 1) = (i : Int) := by rw [IntKind.wrap_i64]; omega
  have hpi : 0 <= (i : Int) /\ (i : Int) < (A.sl.length : Int) := by omega
  have hpk : 0 <= (k : Int) /\ (k : Int) < (ch.length : Int) := by omega
  unfold iV at s3
  clear he hs hc t0 hid hL n0 n1 n2 n3 n4 n5 hnd cb KA hle
  generalize s.nd.keys.length = cl at *
  generalize keysOf A (ch.take k) = n0 at *
  obtain ⟨n1, hn1⟩ : ∃ n1, keysOf A (ch.take (k + 1)) = n1 := ⟨_, rfl⟩
  rw [hn1] at hadd
  have HN1 := Hd hn1.symm
  clear hn1 HN
  generalize e.1 = id at *
  go_wp2
  refine rC_ [0, 1, 2, 3, 4, 5, 6, 7, 8, 9, 10, 11, 12, 13, 14, 15, 16, 17, 18, 19, 20] 20 (λ W => W.cell? ⟨P6, 5, none⟩ = some (.int .i64 (n0 : Int)) /\ W.cell? ⟨q, 1, none⟩ = some (.slice (some ⟨g, o, none⟩) A.sl.length cL) /\ W.cell? ⟨P8, 0, none⟩ = some (.slice (some ca) ch.length cc) /\ W.cell? (ca.add k) = some (.int .i64 id) /\ W.cell? ⟨g, o + i * 7 + 4, none⟩ = some (.slice X3 cl k3)) ⟨s0, s1, s2, s3, s4⟩ ?_
  refine canon_at (λ v0 hw => ?_)
  have hk : Keeps Nob wr v0 := by rw [hw]; exact Keeps.drew _ _
  replace HB6 := Hd (HB6.out.keeps hk (λ h => h))
  replace B8 := Hd (B8.out.keeps hk (λ h => h))
  replace K2 := tq_ K2 hk
  clear hw s0 s1 s2 s3 s4 hk
  iterate 20
   refine cR_ (v := ?_) rfl ?_ ?_
   rotate_left
   ·intro W hW
    try (obtain ⟨g1, g2, g3, g4, g5⟩ : _ /\ _ /\ _ /\ _ /\ _ := hW)
    go_simp
    try simp only [hwr, if_pos hpk, if_pos hpi, hadd, Int.toNat_natCast]
    try rfl
   simp only [Act.put, sa_, sb_, sc_]
  refine cA_ rfl ?_
  have z5 := HB6.out.cell 5
  have f5 := HB6.out.frozen 5
  go_wp2
  clear z5 f5
  refine canon_at' (λ v1 hw => ?_)
  have hk : Keeps (λ x => x = P6) v0 v1 := by rw [hw]; exact Keeps.setCell _ (M := λ x => x = P6) rfl _
  replace HB6 : Hid (Blk v1 P6 42 #[.bool true, .int .i64 0, .int .i64 0, .int .i64 lds.length, .int .i64 ((nodesOf ls : Nat) : Int), .int .i64 (n1 : Int)]) := by show Blk _ _ _ _; rw [hw]; exact HB6.out.set_ 5 _
  replace B8 := Hd (B8.out.keeps hk (λ e => hne8 (by have e2 : P8 = P6 := e; exact e2.symm)))
  replace K2 := Hd (K2.out.trans hk (λ x hx e => by have h := HP6.out; have e2 : x = P6 := e; omega))
  clear hw hk hadd hpk hwr hpi
  refine ⟨.inl (by rfl), ?_⟩
  refine wpCanon_nil ?_
  go_wp2
  go_roundw
  case rel => exact ⟨k + 1, by omega, by go_num, by rw [<- HN1.out]; exact HB6.out, B8.out, K2.out⟩
  case measure => simp [intOf]; omega
 obtain rfl : k = ch.length := by omega
 rw [List.take_length] at HB6
 have b80 := B8.out.cell 0
 clear B8 hne8 hlt hk
 have B4' := B4.out.keeps K2.out (λ h => h)
 have l6 := HB6.out.lt
 have l4' := B4'.lt
 generalize hn1 : nodesOf ls = n1 at *
 generalize hn2 : keysOf A ch = n2 at *
 have z0 := B4'.cell 0
 have f0 := B4'.frozen 0
 have y0 := HB6.out.cell 0
 have z1 := B4'.cell 1
 have f1 := B4'.frozen 1
 have y1 := HB6.out.cell 1
 have z2 := B4'.cell 2
 have f2 := B4'.frozen 2
 have y2 := HB6.out.cell 2
 have z3 := B4'.cell 3
 have f3 := B4'.frozen 3
 have y3 := HB6.out.cell 3
 have z4 := B4'.cell 4
 have f4 := B4'.frozen 4
 have y4 := HB6.out.cell 4
 have z5 := B4'.cell 5
 have f5 := B4'.frozen 5
 have y5 := HB6.out.cell 5
 go_wp2
 clear z0 f0 y0 z1 f1 y1 z2 f2 y2 z3 f3 y3 z4 f4 y4 z5 f5 y5
 refine post_at (λ v3 hw => ?_)
 have hk : Keeps (λ x => x = P3 + 1) wr v3 := by rw [hw]; exact (((((Keeps.setCell _ (M := λ x => x = P3 + 1) rfl _).setCell' (λ _ => rfl) _).setCell' (λ _ => rfl) _).setCell' (λ _ => rfl) _).setCell' (λ _ => rfl) _).setCell' (λ _ => rfl) _
 have hb : Blk v3 (P3 + 1) 42 #[.bool true, .int .i64 0, .int .i64 0, .int .i64 lds.length, .int .i64 (n1 : Int), .int .i64 (n2 : Int)] := by rw [hw]; exact (((((B4'.set_ 0 _).set_ 1 _).set_ 2 _).set_ 3 _).set_ 4 _).set_ 5 _
 have r0 := hb.cell 0
 have r1 := hb.cell 1
 have r2 := hb.cell 2
 have r3 := hb.cell 3
 have r4 := hb.cell 4
 have r5 := hb.cell 5
 refine bodyPost_ret (v := .agg #[.bool true, .int .i64 0, .int .i64 0, .int .i64 lds.length, .int .i64 (n1 : Int), .int .i64 (n2 : Int)]) (by simp [results, Tryz.results12, go_sem, r0, r1, r2, r3, r4, r5]) rfl ⟨by rw [HCK.out, <- HLL.out]; rfl, (K.out.trans K2.out (λ _ _ h => h)).trans hk (λ x hx e => by have h := HP.out; have e2 : x = P3 + 1 := e; omega)⟩
end
end Go.Proofs.YtbhohohgojcapaaGreat
