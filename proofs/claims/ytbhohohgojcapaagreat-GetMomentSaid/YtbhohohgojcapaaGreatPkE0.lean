import Derived.Test.YtbhohohgojcapaaGreatPkD1
import Derived.BigQuiet
set_option maxHeartbeats 64000000
namespace Go.Proofs.YtbhohohgojcapaaGreat
open Go.RowKit
def kidIn (down : Ch) (kid : Int) (want : List UInt8) (k : Nat) : Bool := (down.take k).any (λ d => d.1 == kid && d.2 == want)
theorem kidIn_all {down : Ch} {kid : Int} {want : List UInt8} : kidIn down kid want down.length = kidOk down kid want := by
 unfold kidIn kidOk; rw [List.take_length]
theorem kidIn_succ {down : Ch} {kid : Int} {want : List UInt8} {k : Nat} {d : Int × List UInt8} (h : down[k]? = some d) : kidIn down kid want (k + 1) = (kidIn down kid want k || (d.1 == kid && d.2 == want)) := by
 unfold kidIn
 rw [List.take_add_one, h, List.any_append]
 simp
def kidsIn (down : Ch) (low : List UInt8) (n : Nd) (k : Nat) : Bool := (List.range k).all (λ k => kidOk down (n.kids.getD k 0) (wantLow low n k))
theorem kidsIn_succ {down : Ch} {low : List UInt8} {n : Nd} {k : Nat} : kidsIn down low n (k + 1) = (kidsIn down low n k && kidOk down (n.kids.getD k 0) (wantLow low n k)) := by
 unfold kidsIn
 rw [List.range_succ, List.all_append]
 simp
theorem kidsIn_not {down : Ch} {low : List UInt8} {n : Nd} {k : Nat} (hk : k < n.kids.length) (h : kidOk down (n.kids.getD k 0) (wantLow low n k) = false) : nodeKids down low n = false := by
 unfold nodeKids
 rw [List.all_eq_false]
 exact ⟨k, List.mem_range.2 hk, by rw [h]; decide⟩
theorem kidsM_drop {A : Ar} {down up : Ch} {i : Nat} {id : Int} {low : List UInt8} (h : up[i]? = some (id, low)) : kidsM A down (up.drop i) = if nodeKids down low (opNd A id) = true then kidsM A down (up.drop (i + 1)) else .wrong id 113 := by
 obtain ⟨hi, e⟩ := List.getElem?_eq_some_iff.1 h
 rw [List.drop_eq_getElem_cons hi, e]
 rfl
section
variable {w : World} {M D F F' : Nat -> Prop} {q : Nat} {L : Value} {xs : List Value} {A : Ar} {up down : Ch} {Uv Uw Nv Nw : Value}
set_option maxRecDepth 100000 in
theorem kidsLR {R : Rp} (hD : DocW w M D q L xs A) (hU : (lvOb F D Uv Uw up).P w) (hN : (lvOb F' D Nv Nw down).P w) (hok : ∀ e ∈ up, ∃ s, A.get e.1 = some s /\ s.nd.kids.length <= s.nd.keys.length + 1) (hR : kidsM A down up = R) :
  Calls Tryz.prog 96 #[pV q, .agg #[Uv, Uw], .agg #[Nv, Nw]] w λ e w' => e = .returned (.agg (rpV R)) /\ Keeps Nob w w' := by
 have hD0 := Hd hD
 have HU := Hd hU
 have HN := Hd hN
 have HOK := Hd hok
 have HR := Hd hR
 obtain ⟨UA, uc, e1, hu1, hu2⟩ := (hU.1 : Ints w F Uv (up.map Prod.fst)).form
 obtain ⟨UB, ud, e2, _, _⟩ := Txts.form hU.2
 obtain ⟨NA, nc, e3, hn1, hn2⟩ := (hN.1 : Ints w F' Nv (down.map Prod.fst)).form
 obtain ⟨NB, nd, e4, _, _⟩ := Txts.form hN.2
 rw [List.length_map] at e1 e2 e3 e4 hu1 hn1
 subst e1 e2 e3 e4
 have hzu : up.length <= 9223372036854775807 := Nat.le_trans hu1 hu2
 have hzn : down.length <= 9223372036854775807 := Nat.le_trans hn1 hn2
 have hbd := hD.bound
 clear hD hU hN hok hR hu1 hu2 hn1 hn2
 unfold pV
 go_enter Tryz.func96, Tryz.ntmps96
 go_wp2
 refine code_at (λ w1 hw => ?_)
 obtain ⟨P4, hP⟩ : ∃ N, w.heap.size = N := ⟨_, rfl⟩
 rw [hP]
 have HP := Hd hP
 have hk1 : Keeps Nob w w1 := by rw [hw]; exact ((Keeps.alloc _ _ _).alloc' _).alloc' _
 have B4 : Blk w1 P4 105 #[.slice UA up.length uc, .slice UB up.length ud] := by rw [hw, <- hP]; exact ((Blk.new _ _ _).alloc _).alloc _
 have B5 : Blk w1 (P4 + 1) 105 #[.slice NA down.length nc, .slice NB down.length nd] := by rw [hw, <- hP]; exact (Blk.new' (by simp) _ _).alloc _
 have B6 : Blk w1 (P4 + 2) 42 #[.bool false, .int .i64 0, .int .i64 0, .int .i64 0, .int .i64 0, .int .i64 0] := by rw [hw, <- hP]; exact Blk.new' (by simp) _ _
 have K := Hd hk1
 have HB4 := Hd B4
 have HB5 := Hd B5
 have HB6 := Hd B6
 clear hw hP hk1 B4 B5 B6
 go_loopw [7] (λ i wr => ∃ k : Nat, k <= up.length /\ i = .int .i64 k /\ kidsM A down (up.drop k) = R /\ Keeps Nob w wr /\ Blk wr P4 105 #[.slice UA up.length uc, .slice UB up.length ud] /\ Blk wr (P4 + 1) 105 #[.slice NA down.length nc, .slice NB down.length nd] /\ Blk wr (P4 + 2) 42 #[.bool false, .int .i64 0, .int .i64 0, .int .i64 0, .int .i64 0, .int .i64 0]) (λ i _ => up.length - (intOf i).toNat)
 case atStart => exact ⟨0, Nat.zero_le _, rfl, HR.out, K.out, HB4.out, HB5.out, HB6.out⟩
 clear HR K HB4 HB5 HB6
 obtain ⟨k, hk, rfl, hR, hK, b4, b5, b6⟩ := hrel
 have HR := Hd hR
 have K := Hd hK
 have B4 := Hd b4
 have B5 := Hd b5
 have B6 := Hd b6
 clear hR hK b4 b5 b6
 rcases Nat.lt_or_ge k up.length with hlt | hlt
 rotate_left
 ·obtain rfl : k = up.length := by omega
  have hr : R = .ok := by have h := HR.out; rw [List.drop_length] at h; exact h.symm
  subst hr
  have c0 := B4.out.cell 0
  have l4 := B4.out.lt
  have q0 := B6.out.cell 0
  have q1 := B6.out.cell 1
  have q2 := B6.out.cell 2
  have q3 := B6.out.cell 3
  have q4 := B6.out.cell 4
  have q5 := B6.out.cell 5
  have f0 := B6.out.frozen 0
  have f1 := B6.out.frozen 1
  have f2 := B6.out.frozen 2
  have f3 := B6.out.frozen 3
  have f4 := B6.out.frozen 4
  have f5 := B6.out.frozen 5
  go_wp2
  clear c0 l4 q0 q1 q2 q3 q4 q5 f0 f1 f2 f3 f4 f5
  refine post_at (λ v3 hw => ?_)
  have hk : Keeps (λ x => x = P4 + 2) wr v3 := by rw [hw]; exact (((((Keeps.setCell _ (M := λ x => x = P4 + 2) rfl _).setCell' (λ _ => rfl) _).setCell' (λ _ => rfl) _).setCell' (λ _ => rfl) _).setCell' (λ _ => rfl) _).setCell' (λ _ => rfl) _
  have hb : Blk v3 (P4 + 2) 42 #[.bool true, .int .i64 0, .int .i64 0, .int .i64 0, .int .i64 0, .int .i64 0] := by rw [hw]; exact (((((B6.out.set_ 0 _).set_ 1 _).set_ 2 _).set_ 3 _).set_ 4 _).set_ 5 _
  have r0 := hb.cell 0
  have r1 := hb.cell 1
  have r2 := hb.cell 2
  have r3 := hb.cell 3
  have r4 := hb.cell 4
  have r5 := hb.cell 5
  refine bodyPost_ret (v := .agg #[.bool true, .int .i64 0, .int .i64 0, .int .i64 0, .int .i64 0, .int .i64 0]) (by simp [results, Tryz.results96, go_sem, r0, r1, r2, r3, r4, r5]) rfl ⟨rfl, K.out.trans hk (λ x hx e => by have h := HP.out; have e2 : x = P4 + 2 := e; omega)⟩
 obtain ⟨e, he⟩ : ∃ e, up[k]? = some e := ⟨_, List.getElem?_eq_getElem hlt⟩
 obtain ⟨id, low⟩ := e
 obtain ⟨s, hs, hkl⟩ := HOK.out _ (List.mem_of_getElem? he)
 have hop : opNd A id = s.nd := by unfold opNd; rw [hs]
 have HR2 : Hid ((if nodeKids down low s.nd = true then kidsM A down (up.drop (k + 1)) else .wrong id 113) = R) := by
  have h := HR.out; rw [kidsM_drop he, hop] at h; exact h
 clear HR hop
 -- the numbers of the slot
 obtain ⟨ua, ea, _, hca⟩ := SlR.cells HU.out.1 (i := k) (by rw [List.length_map, List.length_map]; exact hlt)
 subst ea
 have a0 : w.cell? (ua.add k) = some (.int .i64 id) := hca k _ (by rw [List.getElem?_map, List.getElem?_map, he]; rfl)
 obtain ⟨ub, eb, _, hcb⟩ := Txts.cells HU.out.2 (i := k) (by rw [List.length_map]; exact hlt)
 subst eb
 obtain ⟨lv, b0, hlow⟩ := hcb k low (by rw [List.getElem?_map, he]; rfl)
 obtain ⟨LA, lc, el, _, _⟩ := hlow.form
 subst el
 obtain ⟨i, g, o, cc, hid, hi, hl6, hL, X1, k1, X3, k3, X4, k4, X5, k5, n0, n1, n2, n3, n4, n5, hnd⟩ := DocW.mono_ (hD0.out) hs
 have ca : w.cell? ⟨q, 1, none⟩ = some (.slice (some ⟨g, o, none⟩) A.sl.length cc) := by have h := hD0.out.blk.cell 1; rw [hL] at h; exact h
 clear hL hca hcb
 have HA0 := Hd a0
 have HB0 := Hd b0
 have HLW := Hd hlow
 have HND := Hd hnd
 have HE := Hd he
 have hi0 : id - 1 = (i : Int) := by omega
 have hwr : IntKind.i64.wrap (id - 1) = (i : Int) := by rw [IntKind.wrap_i64]; omega
 have hpos : 0 <= (i : Int) /\ (i : Int) < (A.sl.length : Int) := by omega
 have hk64 : (k : Int) < (up.length : Int) := by omega
 clear hi0
 have hpk : 0 <= (k : Int) /\ (k : Int) < (up.length : Int) := by omega
 have HC : Hid (wr.cell? ⟨q, 1, none⟩ = some (.slice (some ⟨g, o, none⟩) A.sl.length cc) /\ wr.cell? ⟨P4, 0, none⟩ = some (.slice (some ua) up.length uc) /\ wr.cell? (ua.add k) = some (.int .i64 id) /\
  wr.cell? ⟨g, o + i * 7 + 1, none⟩ = some (.int .i64 s.nd.lvl) /\ wr.cell? ⟨g, o + i * 7 + 2, none⟩ = some (.slice X1 s.nd.high.length k1) /\ wr.cell? ⟨g, o + i * 7 + 3, none⟩ = some (.int .i64 s.nd.right) /\ wr.cell? ⟨g, o + i * 7 + 4, none⟩ = some (.slice X3 s.nd.keys.length k3) /\ wr.cell? ⟨g, o + i * 7 + 5, none⟩ = some (.slice X4 s.nd.vals.length k4) /\ wr.cell? ⟨g, o + i * 7 + 6, none⟩ = some (.slice X5 s.nd.kids.length k5)) :=
  ⟨K.out.cell ca (λ h => h), B4.out.cell 0, K.out.cell a0 (λ h => h), K.out.cell n0 (λ h => h), K.out.cell n1 (λ h => h), K.out.cell n2 (λ h => h), K.out.cell n3 (λ h => h), K.out.cell n4 (λ h => h), K.out.cell n5 (λ h => h)⟩
 clear a0 b0 hlow hnd he ca n0 n1 n2 n3 n4 n5 hid
 have c4 := B4.out.cell 0
 go_wp2
 clear c4
 refine rC_ [0, 1, 2, 3, 4, 5, 6, 7, 8, 9, 10, 11, 12, 13, 14] 14 (λ W => W.cell? ⟨q, 1, none⟩ = some (.slice (some ⟨g, o, none⟩) A.sl.length cc) /\ W.cell? ⟨P4, 0, none⟩ = some (.slice (some ua) up.length uc) /\ W.cell? (ua.add k) = some (.int .i64 id) /\ W.cell? ⟨g, o + i * 7 + 1, none⟩ = some (.int .i64 s.nd.lvl) /\ W.cell? ⟨g, o + i * 7 + 2, none⟩ = some (.slice X1 s.nd.high.length k1) /\ W.cell? ⟨g, o + i * 7 + 3, none⟩ = some (.int .i64 s.nd.right) /\ W.cell? ⟨g, o + i * 7 + 4, none⟩ = some (.slice X3 s.nd.keys.length k3) /\ W.cell? ⟨g, o + i * 7 + 5, none⟩ = some (.slice X4 s.nd.vals.length k4) /\ W.cell? ⟨g, o + i * 7 + 6, none⟩ = some (.slice X5 s.nd.kids.length k5)) HC.out ?_
 refine canon_at (λ v0 hw => ?_)
 have hk : Keeps Nob wr v0 := by rw [hw]; exact Keeps.drew _ _
 have HK0 := Hd hk
 replace K := tq_ K hk
 replace B4 := Hd (B4.out.keeps hk (λ h => h))
 replace B5 := Hd (B5.out.keeps hk (λ h => h))
 replace B6 := Hd (B6.out.keeps hk (λ h => h))
 clear hw hk
 iterate 13
  refine cR_ (v := ?_) rfl ?_ ?_
  rotate_left
  ·intro W hW
   try (obtain ⟨h1, h2, h3, h4, h5, h6, h7, h8, h9⟩ : _ /\ _ /\ _ /\ _ /\ _ /\ _ /\ _ /\ _ /\ _ := hW)
   go_simp
   try simp only [hwr, if_pos hpos, if_pos hpk, Int.toNat_natCast]
   try rfl
  simp only [Act.put, sa_, sb_, sc_]
 refine cA_ rfl ?_
 go_wp2
 refine canon_at' (λ v1 hw => ?_)
 obtain ⟨N8, hN⟩ : ∃ N, v0.heap.size = N := ⟨_, rfl⟩
 rw [hN]
 have hk : Keeps Nob v0 v1 := by rw [hw]; exact Keeps.alloc _ _ _
 have hb8 : Blk v1 N8 35 #[.int .i64 0, .slice none 0 0, .int .i64 0, .slice none 0 0, .slice none 0 0, .slice none 0 0] := by rw [hw, <- hN]; exact Blk.new _ _ _
 have lt4 := B4.out.lt
 have lt5 := B5.out.lt
 have lt6 := B6.out.lt
 replace K := tq_ K hk
 replace B4 := Hd (B4.out.keeps hk (λ h => h))
 replace B5 := Hd (B5.out.keeps hk (λ h => h))
 replace B6 := Hd (B6.out.keeps hk (λ h => h))
 have hsz := hk.size
 have ne : P4 + 2 < N8 := by omega
 have hle : w.heap.size <= N8 := by have h1 := K.out.size; have h2 := HP.out; omega
 have HD := HC.out
 have ki := HK0.out.trans hk (λ _ _ h => h)
 clear hw hk hsz lt4 lt5 lt6 HC HK0
 refine ⟨.inr ⟨ki.cell HD.1 (λ h => h), ki.cell HD.2.1 (λ h => h), ki.cell HD.2.2.1 (λ h => h), ki.cell HD.2.2.2.1 (λ h => h), ki.cell HD.2.2.2.2.1 (λ h => h), ki.cell HD.2.2.2.2.2.1 (λ h => h), ki.cell HD.2.2.2.2.2.2.1 (λ h => h), ki.cell HD.2.2.2.2.2.2.2.1 (λ h => h), ki.cell HD.2.2.2.2.2.2.2.2 (λ h => h)⟩, ?_⟩
 clear HD ki
 refine cA_ rfl ?_
 have q0 := hb8.cell 0
 have f0 := hb8.frozen 0
 have q1 := hb8.cell 1
 have f1 := hb8.frozen 1
 have q2 := hb8.cell 2
 have f2 := hb8.frozen 2
 have q3 := hb8.cell 3
 have f3 := hb8.frozen 3
 have q4 := hb8.cell 4
 have f4 := hb8.frozen 4
 have q5 := hb8.cell 5
 have f5 := hb8.frozen 5
 go_wp2
 clear q0 q1 q2 q3 q4 q5 f0 f1 f2 f3 f4 f5
 refine canon_at' (λ v2 hw => ?_)
 have hk : Keeps (λ x => x = N8) v1 v2 := by rw [hw]; exact (((((Keeps.setCell _ (M := λ x => x = N8) rfl _).setCell' (λ _ => rfl) _).setCell' (λ _ => rfl) _).setCell' (λ _ => rfl) _).setCell' (λ _ => rfl) _).setCell' (λ _ => rfl) _
 have B8 : Hid (Blk v2 N8 35 #[.int .i64 s.nd.lvl, .slice X1 s.nd.high.length k1, .int .i64 s.nd.right, .slice X3 s.nd.keys.length k3, .slice X4 s.nd.vals.length k4, .slice X5 s.nd.kids.length k5]) := by rw [hw]; exact (((((hb8.set_ 0 _).set_ 1 _).set_ 2 _).set_ 3 _).set_ 4 _).set_ 5 _
 replace K := Hd (K.out.trans hk (λ x hx e => by have e2 : x = N8 := e; omega))
 replace B4 := Hd (B4.out.keeps hk (λ h => by omega))
 replace B5 := Hd (B5.out.keeps hk (λ h => by omega))
 replace B6 := Hd (B6.out.keeps hk (λ h => by omega))
 clear hw hk hb8 hN
 refine ⟨.inl (by rfl), ?_⟩
 refine wpCanon_nil ?_
 go_wp2
 go_loopw [9] (λ i wr => ∃ m : Nat, m <= s.nd.kids.length /\ i = .int .i64 m /\ kidsIn down low s.nd m = true /\ Keeps Nob w wr /\ Blk wr P4 105 #[.slice (some ua) up.length uc, .slice (some ub) up.length ud] /\ Blk wr (P4 + 1) 105 #[.slice NA down.length nc, .slice NB down.length nd] /\ Blk wr (P4 + 2) 42 #[.bool false, .int .i64 0, .int .i64 0, .int .i64 0, .int .i64 0, .int .i64 0] /\ Blk wr N8 35 #[.int .i64 s.nd.lvl, .slice X1 s.nd.high.length k1, .int .i64 s.nd.right, .slice X3 s.nd.keys.length k3, .slice X4 s.nd.vals.length k4, .slice X5 s.nd.kids.length k5]) (λ i _ => s.nd.kids.length - (intOf i).toNat)
 case atStart => exact ⟨0, Nat.zero_le _, rfl, rfl, K.out, B4.out, B5.out, B6.out, B8.out⟩
 clear K B4 B5 B6 B8
 obtain ⟨m, hm, rfl, hin, hK, b4, b5, b6, b8⟩ := hrel
 have K := Hd hK
 have B4 := Hd b4
 have B5 := Hd b5
 have B6 := Hd b6
 have B8 := Hd b8
 have HIN := Hd hin
 clear hK b4 b5 b6 b8 hin
 have hkz : s.nd.kids.length <= 9223372036854775807 := by
  obtain ⟨_, _, _, h1, h2⟩ := (HND.out.2.kids : Ints _ _ _ _).form
  exact Nat.le_trans h1 h2
 have n5 := B8.out.cell 5
 have c8 := B8.out.lt
 rcases Nat.lt_or_ge m s.nd.kids.length with hml | hml
 rotate_left
 ·obtain rfl : m = s.nd.kids.length := by omega
  have hr : kidsM A down (up.drop (k + 1)) = R := by
   have h := HR2.out
   rw [if_pos (show nodeKids down low s.nd = true from HIN.out)] at h
   exact h
  have HR3 := Hd hr
  clear hr
  go_wp2
  go_roundw
  case rel => exact ⟨k + 1, by omega, by go_num, HR3.out, K.out, B4.out, B5.out, B6.out⟩
  case measure => simp [intOf]; omega
 obtain ⟨kid, hkid⟩ : ∃ y, s.nd.kids[m]? = some y := ⟨_, List.getElem?_eq_getElem hml⟩
 obtain ⟨ka, ea, _, hca⟩ := SlR.cells (HND.out.2.kids : Ints _ _ _ _) (i := m) (by rw [List.length_map]; exact hml)
 subst ea
 have a5 := K.out.cell (hca m _ (by rw [List.getElem?_map, hkid]; rfl)) (λ h => h)
 have hgd : s.nd.kids.getD m 0 = kid := by rw [List.getD_eq_getElem?_getD, hkid]; rfl
 have HGD := Hd hgd
 have A5 := Hd a5
 have b0 := K.out.cell HB0.out (λ h => h)
 have c4 := B4.out.cell 1
 have l4 := B4.out.lt
 have A5' : Hid (∀ wr, Keeps Nob w wr -> wr.cell? (ka.add m) = some (.int .i64 kid)) := λ wr hk => hk.cell (hca m _ (by rw [List.getElem?_map, hkid]; rfl)) (λ h => h)
 clear hca hkid hgd a5
 by_cases hm0 : m <= 0
 ·have HWL : Hid (wantLow low s.nd m = low) := by show _ = _; unfold wantLow; rw [if_pos (by omega)]
  go_wp2
  clear n5 c8 b0 c4 l4
  go_loopw [11, 12] (λ okv jv wr => ∃ n : Nat, n <= down.length /\ jv = .int .i64 n /\ okv = .bool (kidIn down kid low n) /\ Keeps Nob w wr /\ Blk wr P4 105 #[.slice (some ua) up.length uc, .slice (some ub) up.length ud] /\ Blk wr (P4 + 1) 105 #[.slice NA down.length nc, .slice NB down.length nd] /\ Blk wr (P4 + 2) 42 #[.bool false, .int .i64 0, .int .i64 0, .int .i64 0, .int .i64 0, .int .i64 0] /\ Blk wr N8 35 #[.int .i64 s.nd.lvl, .slice X1 s.nd.high.length k1, .int .i64 s.nd.right, .slice X3 s.nd.keys.length k3, .slice X4 s.nd.vals.length k4, .slice (some ka) s.nd.kids.length k5]) (λ _ j _ => down.length - (intOf j).toNat)
  case atStart => exact ⟨0, Nat.zero_le _, rfl, rfl, K.out, B4.out, B5.out, B6.out, B8.out⟩
  clear K B4 B5 B6 B8 A5
  obtain ⟨n, hn, rfl, rfl, hK, b4, b5, b6, b8⟩ := hrel
  have K := Hd hK
  have B4 := Hd b4
  have B5 := Hd b5
  have B6 := Hd b6
  have B8 := Hd b8
  clear hK b4 b5 b6 b8
  have d0 := B5.out.cell 0
  have l5 := B5.out.lt
  rcases Nat.lt_or_ge n down.length with hnl | hnl
  rotate_left
  ·obtain rfl : n = down.length := by omega
   rw [kidIn_all]
   rcases hko : kidOk down kid low with _ | _
   ·
    obtain rfl : R = .wrong id 113 := by
     have h := HR2.out
     rw [if_neg (by rw [kidsIn_not hml (by rw [HGD.out, HWL.out]; exact hko)]; decide)] at h
     exact h.symm
    clear hko
    have c0 := B4.out.cell 0
    have l4 := B4.out.lt
    have a0 := K.out.cell HA0.out (λ h => h)
    go_wp2_with (go_at_call 94; refine (wrongR id 113 _).mono ?_; rintro e v1 ⟨rfl, hk⟩; have q0 := (B6.out.keeps hk (λ h => h)).cell 0; have q1 := (B6.out.keeps hk (λ h => h)).cell 1; have q2 := (B6.out.keeps hk (λ h => h)).cell 2; have q3 := (B6.out.keeps hk (λ h => h)).cell 3; have q4 := (B6.out.keeps hk (λ h => h)).cell 4; have q5 := (B6.out.keeps hk (λ h => h)).cell 5; have f0 := (B6.out.keeps hk (λ h => h)).frozen 0; have f1 := (B6.out.keeps hk (λ h => h)).frozen 1; have f2 := (B6.out.keeps hk (λ h => h)).frozen 2; have f3 := (B6.out.keeps hk (λ h => h)).frozen 3; have f4 := (B6.out.keeps hk (λ h => h)).frozen 4; have f5 := (B6.out.keeps hk (λ h => h)).frozen 5; replace K := tq_ K hk; replace B6 := Hd (B6.out.keeps hk (λ h => h)))
    refine post_at (λ v3 hw => ?_)
    have hk' : Keeps (λ x => x = P4 + 2) v1 v3 := by rw [hw]; exact (((((Keeps.setCell _ (M := λ x => x = P4 + 2) rfl _).setCell' (λ _ => rfl) _).setCell' (λ _ => rfl) _).setCell' (λ _ => rfl) _).setCell' (λ _ => rfl) _).setCell' (λ _ => rfl) _
    have hb : Blk v3 (P4 + 2) 42 #[.bool false, .int .i64 id, .int .i64 113, .int .i64 0, .int .i64 0, .int .i64 0] := by rw [hw]; exact (((((B6.out.set_ 0 _).set_ 1 _).set_ 2 _).set_ 3 _).set_ 4 _).set_ 5 _
    have r0 := hb.cell 0
    have r1 := hb.cell 1
    have r2 := hb.cell 2
    have r3 := hb.cell 3
    have r4 := hb.cell 4
    have r5 := hb.cell 5
    refine bodyPost_ret (v := .agg #[.bool false, .int .i64 id, .int .i64 113, .int .i64 0, .int .i64 0, .int .i64 0]) (by simp [results, Tryz.results96, go_sem, r0, r1, r2, r3, r4, r5]) rfl ⟨rfl, K.out.trans hk' (λ x hx e => by have h := HP.out; have e2 : x = P4 + 2 := e; omega)⟩
   ·have HIN2 : Hid (kidsIn down low s.nd (m + 1) = true) := by
     show _ = _
     rw [kidsIn_succ, HIN.out, HGD.out, HWL.out, hko]; rfl
    clear hko
    go_wp2
    go_roundw
    case rel => exact ⟨m + 1, by omega, by go_num, HIN2.out, K.out, B4.out, B5.out, B6.out, B8.out⟩
    case measure => simp [intOf]; omega
  obtain ⟨d, hd⟩ : ∃ y, down[n]? = some y := ⟨_, List.getElem?_eq_getElem hnl⟩
  obtain ⟨did, dlow⟩ := d
  have hsucc := kidIn_succ (kid := kid) (want := low) hd
  rcases hki : kidIn down kid low n with _ | _
  rotate_left
  ·rw [hki, Bool.true_or] at hsucc
   clear hd
   have HS := Hd hsucc
   clear hsucc hki
   go_wp2
   go_quiet (fail)
   go_wp2
   go_roundw
   case rel => exact ⟨n + 1, by omega, by go_num, by rw [HS.out], K.out.drewN' _, B4.out.drewN _, B5.out.drewN _, B6.out.drewN _, B8.out.drewN _⟩
   case measure => simp [intOf]; omega
  rw [hki, Bool.false_or] at hsucc
  have HS := Hd hsucc
  clear hsucc hki
  obtain ⟨na, en, _, hcn⟩ := SlR.cells HN.out.1 (i := n) (by rw [List.length_map, List.length_map]; exact hnl)
  subst en
  have a1 : wr.cell? (na.add n) = some (.int .i64 did) := K.out.cell (hcn n _ (by rw [List.getElem?_map, List.getElem?_map, hd]; rfl)) (λ h => h)
  obtain ⟨nb, en, _, hcm⟩ := Txts.cells HN.out.2 (i := n) (by rw [List.length_map]; exact hnl)
  subst en
  obtain ⟨du, hdu, hdb⟩ := hcm n dlow (by rw [List.getElem?_map, hd]; rfl)
  have a2 := K.out.cell hdu (λ h => h)
  obtain ⟨sx, e1, s1⟩ := strN (hdb.keeps K.out (λ _ _ _ h => h))
  obtain ⟨sy, e2, s2⟩ := strN (HLW.out.keeps K.out (λ _ _ _ h => h))
  have d1 := B5.out.cell 1
  have n5 := B8.out.cell 5
  have c8 := B8.out.lt
  have a5 : wr.cell? (ka.add m) = some (.int .i64 kid) := A5'.out wr K.out
  clear hcn hcm hdu hdb hd
  by_cases hid : did = kid
  rotate_left
  ·have hq : (did == kid) = false := by simpa using hid
   have hfin : Hid (kidIn down kid low (n + 1) = false) := by show _ = _; rw [HS.out, hq]; rfl
   clear HS hid s1 s2 e1 e2
   go_wp2
   go_quiet (fail)
   go_wp2
   go_roundw
   case rel => exact ⟨n + 1, by omega, by go_num, by rw [hfin.out], K.out.drewN' _, B4.out.drewN _, B5.out.drewN _, B6.out.drewN _, B8.out.drewN _⟩
   case measure => simp [intOf]; omega
  subst hid
  by_cases hx : dlow = low
  ·have hfin : Hid (kidIn down did low (n + 1) = true) := by show _ = _; rw [HS.out, hx]; simp
   rw [hx] at e1
   clear HS hx
   go_wp2
   go_quiet (fail)
   go_wp2
   go_roundw
   case rel => exact ⟨n + 1, by omega, by go_num, by rw [hfin.out], K.out.drewN' _, B4.out.drewN _, B5.out.drewN _, B6.out.drewN _, B8.out.drewN _⟩
   case measure => simp [intOf]; omega
  ·have hfin : Hid (kidIn down did low (n + 1) = false) := by show _ = _; rw [HS.out]; simp [hx]
   have hxx : (dlow == low) = false := by simpa using hx
   clear HS hx
   go_wp2
   go_quiet (fail)
   go_wp2
   go_roundw
   case rel => exact ⟨n + 1, by omega, by go_num, by rw [hfin.out], K.out.drewN' _, B4.out.drewN _, B5.out.drewN _, B6.out.drewN _, B8.out.drewN _⟩
   case measure => simp [intOf]; omega
 have hk1 : m - 1 < s.nd.keys.length := by omega
 obtain ⟨wt, hwt⟩ : ∃ y, s.nd.keys[m - 1]? = some y := ⟨_, List.getElem?_eq_getElem hk1⟩
 have HWL : Hid (wantLow low s.nd m = wt) := by show _ = _; unfold wantLow; rw [if_neg (by omega), List.getD_eq_getElem?_getD, hwt]; rfl
 obtain ⟨xa, ex, _, hcx⟩ := Txts.cells HND.out.2.keys (i := m - 1) hk1
 subst ex
 obtain ⟨wu, hwu, hwb⟩ := hcx (m - 1) wt hwt
 obtain ⟨WA, wc, ew, _, _⟩ := hwb.form
 subst ew
 have x3 := K.out.cell hwu (λ h => h)
 have n3 := B8.out.cell 3
 have HWB := Hd hwb
 have hm1 : (m : Int) - 1 = ((m - 1 : Nat) : Int) := by omega
 have hm2 : ((m : Int) - 1).toNat = m - 1 := by omega
 clear hwt hcx hwu hwb
 go_wp2
 clear n3 x3
 clear n5 c8 b0 c4 l4
 go_loopw [11, 12] (λ okv jv wr => ∃ n : Nat, n <= down.length /\ jv = .int .i64 n /\ okv = .bool (kidIn down kid wt n) /\ Keeps Nob w wr /\ Blk wr P4 105 #[.slice (some ua) up.length uc, .slice (some ub) up.length ud] /\ Blk wr (P4 + 1) 105 #[.slice NA down.length nc, .slice NB down.length nd] /\ Blk wr (P4 + 2) 42 #[.bool false, .int .i64 0, .int .i64 0, .int .i64 0, .int .i64 0, .int .i64 0] /\ Blk wr N8 35 #[.int .i64 s.nd.lvl, .slice X1 s.nd.high.length k1, .int .i64 s.nd.right, .slice (some xa) s.nd.keys.length k3, .slice X4 s.nd.vals.length k4, .slice (some ka) s.nd.kids.length k5]) (λ _ j _ => down.length - (intOf j).toNat)
 case atStart => exact ⟨0, Nat.zero_le _, rfl, rfl, K.out, B4.out, B5.out, B6.out, B8.out⟩
 clear K B4 B5 B6 B8 A5
 obtain ⟨n, hn, rfl, rfl, hK, b4, b5, b6, b8⟩ := hrel
 have K := Hd hK
 have B4 := Hd b4
 have B5 := Hd b5
 have B6 := Hd b6
 have B8 := Hd b8
 clear hK b4 b5 b6 b8
 have d0 := B5.out.cell 0
 have l5 := B5.out.lt
 rcases Nat.lt_or_ge n down.length with hnl | hnl
 rotate_left
 ·obtain rfl : n = down.length := by omega
  rw [kidIn_all]
  rcases hko : kidOk down kid wt with _ | _
  ·
   obtain rfl : R = .wrong id 113 := by
    have h := HR2.out
    rw [if_neg (by rw [kidsIn_not hml (by rw [HGD.out, HWL.out]; exact hko)]; decide)] at h
    exact h.symm
   clear hko
   have c0 := B4.out.cell 0
   have l4 := B4.out.lt
   have a0 := K.out.cell HA0.out (λ h => h)
   go_wp2_with (go_at_call 94; refine (wrongR id 113 _).mono ?_; rintro e v1 ⟨rfl, hk⟩; have q0 := (B6.out.keeps hk (λ h => h)).cell 0; have q1 := (B6.out.keeps hk (λ h => h)).cell 1; have q2 := (B6.out.keeps hk (λ h => h)).cell 2; have q3 := (B6.out.keeps hk (λ h => h)).cell 3; have q4 := (B6.out.keeps hk (λ h => h)).cell 4; have q5 := (B6.out.keeps hk (λ h => h)).cell 5; have f0 := (B6.out.keeps hk (λ h => h)).frozen 0; have f1 := (B6.out.keeps hk (λ h => h)).frozen 1; have f2 := (B6.out.keeps hk (λ h => h)).frozen 2; have f3 := (B6.out.keeps hk (λ h => h)).frozen 3; have f4 := (B6.out.keeps hk (λ h => h)).frozen 4; have f5 := (B6.out.keeps hk (λ h => h)).frozen 5; replace K := tq_ K hk; replace B6 := Hd (B6.out.keeps hk (λ h => h)))
   refine post_at (λ v3 hw => ?_)
   have hk' : Keeps (λ x => x = P4 + 2) v1 v3 := by rw [hw]; exact (((((Keeps.setCell _ (M := λ x => x = P4 + 2) rfl _).setCell' (λ _ => rfl) _).setCell' (λ _ => rfl) _).setCell' (λ _ => rfl) _).setCell' (λ _ => rfl) _).setCell' (λ _ => rfl) _
   have hb : Blk v3 (P4 + 2) 42 #[.bool false, .int .i64 id, .int .i64 113, .int .i64 0, .int .i64 0, .int .i64 0] := by rw [hw]; exact (((((B6.out.set_ 0 _).set_ 1 _).set_ 2 _).set_ 3 _).set_ 4 _).set_ 5 _
   have r0 := hb.cell 0
   have r1 := hb.cell 1
   have r2 := hb.cell 2
   have r3 := hb.cell 3
   have r4 := hb.cell 4
   have r5 := hb.cell 5
   refine bodyPost_ret (v := .agg #[.bool false, .int .i64 id, .int .i64 113, .int .i64 0, .int .i64 0, .int .i64 0]) (by simp [results, Tryz.results96, go_sem, r0, r1, r2, r3, r4, r5]) rfl ⟨rfl, K.out.trans hk' (λ x hx e => by have h := HP.out; have e2 : x = P4 + 2 := e; omega)⟩
  ·have HIN2 : Hid (kidsIn down low s.nd (m + 1) = true) := by
    show _ = _
    rw [kidsIn_succ, HIN.out, HGD.out, HWL.out, hko]; rfl
   clear hko
   go_wp2
   go_roundw
   case rel => exact ⟨m + 1, by omega, by go_num, HIN2.out, K.out, B4.out, B5.out, B6.out, B8.out⟩
   case measure => simp [intOf]; omega
 obtain ⟨d, hd⟩ : ∃ y, down[n]? = some y := ⟨_, List.getElem?_eq_getElem hnl⟩
 obtain ⟨did, dlow⟩ := d
 have hsucc := kidIn_succ (kid := kid) (want := wt) hd
 rcases hki : kidIn down kid wt n with _ | _
 rotate_left
 ·rw [hki, Bool.true_or] at hsucc
  clear hd
  have HS := Hd hsucc
  clear hsucc hki
  go_wp2
  go_quiet (fail)
  go_wp2
  go_roundw
  case rel => exact ⟨n + 1, by omega, by go_num, by rw [HS.out], K.out.drewN' _, B4.out.drewN _, B5.out.drewN _, B6.out.drewN _, B8.out.drewN _⟩
  case measure => simp [intOf]; omega
 rw [hki, Bool.false_or] at hsucc
 have HS := Hd hsucc
 clear hsucc hki
 obtain ⟨na, en, _, hcn⟩ := SlR.cells HN.out.1 (i := n) (by rw [List.length_map, List.length_map]; exact hnl)
 subst en
 have a1 : wr.cell? (na.add n) = some (.int .i64 did) := K.out.cell (hcn n _ (by rw [List.getElem?_map, List.getElem?_map, hd]; rfl)) (λ h => h)
 obtain ⟨nb, en, _, hcm⟩ := Txts.cells HN.out.2 (i := n) (by rw [List.length_map]; exact hnl)
 subst en
 obtain ⟨du, hdu, hdb⟩ := hcm n dlow (by rw [List.getElem?_map, hd]; rfl)
 have a2 := K.out.cell hdu (λ h => h)
 obtain ⟨sx, e1, s1⟩ := strN (hdb.keeps K.out (λ _ _ _ h => h))
 obtain ⟨sy, e2, s2⟩ := strN (HWB.out.keeps K.out (λ _ _ _ h => h))
 have d1 := B5.out.cell 1
 have n5 := B8.out.cell 5
 have c8 := B8.out.lt
 have a5 : wr.cell? (ka.add m) = some (.int .i64 kid) := A5'.out wr K.out
 clear hcn hcm hdu hdb hd
 by_cases hid : did = kid
 rotate_left
 ·have hq : (did == kid) = false := by simpa using hid
  have hfin : Hid (kidIn down kid wt (n + 1) = false) := by show _ = _; rw [HS.out, hq]; rfl
  clear HS hid s1 s2 e1 e2
  go_wp2
  go_quiet (fail)
  go_wp2
  go_roundw
  case rel => exact ⟨n + 1, by omega, by go_num, by rw [hfin.out], K.out.drewN' _, B4.out.drewN _, B5.out.drewN _, B6.out.drewN _, B8.out.drewN _⟩
  case measure => simp [intOf]; omega
 subst hid
 by_cases hx : dlow = wt
 ·have hfin : Hid (kidIn down did wt (n + 1) = true) := by show _ = _; rw [HS.out, hx]; simp
  rw [hx] at e1
  clear HS hx
  go_wp2
  go_quiet (fail)
  go_wp2
  go_roundw
  case rel => exact ⟨n + 1, by omega, by go_num, by rw [hfin.out], K.out.drewN' _, B4.out.drewN _, B5.out.drewN _, B6.out.drewN _, B8.out.drewN _⟩
  case measure => simp [intOf]; omega
 ·have hfin : Hid (kidIn down did wt (n + 1) = false) := by show _ = _; rw [HS.out]; simp [hx]
  have hxx : (dlow == wt) = false := by simpa using hx
  clear HS hx
  go_wp2
  go_quiet (fail)
  go_wp2
  go_roundw
  case rel => exact ⟨n + 1, by omega, by go_num, by rw [hfin.out], K.out.drewN' _, B4.out.drewN _, B5.out.drewN _, B6.out.drewN _, B8.out.drewN _⟩
  case measure => simp [intOf]; omega
end
end Go.Proofs.YtbhohohgojcapaaGreat
