/- GetPlays walked: look-ups of both kinds, step by step, in a tree that others turn. -/
import Derived.Test.YtbhohohgojcapaaGreatTurn
import Derived.Test.YtbhohohgojcapaaGreatGPlaysA
import Derived.Test.YtbhohohgojcapaaGreatTexts
import Derived.Test.YtbhohohgojcapaaGreatSame10
namespace Go.Proofs.YtbhohohgojcapaaGreat
open Go.RowKit

theorem map_gx2 {p n : Nat} {gs : List Gu} {g : Gu} {A' B' : Gc} {S T : Nat → Prop} : ((gs.set n g).set n { g with A := A', Sx := S }).map (gxO p) = (gs.set n { g with A := A', Sx := S, B := B', Sy := T }).map (gxO p) := by rw [List.set_set, List.map_set, List.map_set]; rfl
theorem map_gr2 {q n : Nat} {gs : List Gu} {g : Gu} {A' B' : Gc} {S T : Nat → Prop} : ((gs.set n g).set n { g with B := B', Sy := T }).map (grO q) = (gs.set n { g with A := A', Sx := S, B := B', Sy := T }).map (grO q) := by rw [List.set_set, List.map_set, List.map_set]; rfl
theorem ar0_ok (n : Nat) (h : 1 ≤ n) : RightA (ar0 n) ∧ (∀ c, c ≤ 200000000000000 → SmA c (ar0 n)) ∧ 1 ≤ (ar0 n).root ∧ (ar0 n).root ≤ (ar0 n).sl.length :=
  ⟨fun s hs => by simp [ar0] at hs; subst hs; exact right_zero, fun c hc s hs => by simp [ar0] at hs; subst hs; exact zero_sm hc, by simp [ar0], by simp [ar0]⟩

section
variable {w : World} {os : List O13} {v : Value}
set_option maxRecDepth 100000 in
set_option maxHeartbeats 12800000 in
theorem gplays_ok (h : O13At w w.heap.size v os) : Calls Tryz.prog 4 #[v] w fun e w' => e = .returned (.bool true) ∧ Keeps Nob w w' := by
  have HO := Lib.hid h
  obtain ⟨SA, sc, hv, hc1, hc2, hc3, _⟩ := h
  subst hv
  have HH := Lib.hid (head13 w)
  have HB := fun wx => begunJ (n := 60) wx (by decide) (by decide)
  have hos : os.length < 800000000000 := by omega
  clear hc1 hc2 hc3
  unfold iV pV at *
  go_enter Tryz.func4, Tryz.ntmps4
  go_wp2_with (first
    | (go_at_call 8; refine HH.out.mono ?_; rintro e w1 ⟨rfl, hk⟩; have K := Lib.hid hk; clear hk)
    | (go_at_call 9; refine (HB _).mono ?_; rintro e w2 ⟨b, p, q, rfl, hj, hk⟩; have HS := Lib.hid ((((Su.begin (w0 := w) hj (fun x hx => Nat.le_trans K.out.size hx) (K.out.trans hk (fun _ _ h => h))).nilRow 67 3).addNo.addNo.addNo.addGrp.addGrp)); clear hj hk))
  clear HB HH K
  go_loopw [5, 6, 7] (fun okv lv i wr => ∃ k : Nat, k ≤ os.length ∧ i = .int .i64 k ∧ okv = .bool true ∧ ∃ A gs, ∃ o1 o2 o3 : Ob, gs.length ≤ k ∧ Alike (12 * k) gs ∧ RightA A ∧ SmA (BIG - 24 * k) A ∧ (1 ≤ A.root ∧ A.root ≤ A.sl.length) ∧ Su w wr b p q A A [rowOb 67 3 lv gs.length (prs3 gs), o1, o2, o3, grpOb (gs.map (gxO p)), grpOb (gs.map (grO q))]) (fun _ _ i _ => os.length - (intOf i).toNat)
  case atStart =>
    obtain ⟨z1, z2, z3⟩ := ar0_ok 60 (by decide)
    exact ⟨0, Nat.zero_le _, rfl, rfl, _, [], _, _, _, Nat.le_refl _, fun d hd => by simp at hd, z1, z2 _ (by decide), z3, HS.out⟩
  clear HS
  obtain ⟨k, hk, rfl, rfl, AR, gs, o1, o2, o3, hgl, hal, hra, hsa, hroot, hs⟩ := hrel
  rcases Nat.lt_or_ge k os.length with hlt | hlt
  · obtain ⟨o, ho⟩ : ∃ o, os[k]? = some o := ⟨_, List.getElem?_eq_getElem hlt⟩
    obtain ⟨ad, cs, rfl, hlo, hop, hcs⟩ := (HO.out.keeps hs.kept (fun _ _ => id) (fun _ _ h => h.keeps hs.kept (fun _ _ => id))).at_ ho
    have HOP := Lib.hid hop
    obtain ⟨kv, vv, hv, c0, c1, c2, c3, c4, c5, rfl, ⟨hkey, hval, hhi, hn⟩, ⟨i1, i2, i3⟩, z1, z2, z3, z4⟩ := hop
    obtain ⟨KA, kc, ek, _, _⟩ := hkey.form
    obtain ⟨VA, vc, ev, _, _⟩ := hval.form
    obtain ⟨HA, hc, eh, _, _⟩ := hhi.form
    subst ek ev eh
    obtain ⟨X1, k1, e1, _, _⟩ := hn.1.high.form
    obtain ⟨X3, k3, e3, _, _⟩ := hn.2.keys.form
    obtain ⟨X4, k4, e4, _, _⟩ := hn.2.vals.form
    obtain ⟨X5, k5, e5, _, _⟩ := hn.2.kids.form
    have e0 := hn.1.lvl
    have e2 := hn.1.right
    unfold iV at e0 e2
    subst e0 e1 e2 e3 e4 e5
    clear hval hhi hn z3 z4 z2
    obtain ⟨lA, lc, el⟩ := (hs.get (i := 0) rfl : Own wr _ _ 3 _ _ _).form
    subst el
    have q0 := hcs 0 _ rfl
    have q1 := hcs 1 _ rfl
    have q2 := hcs 2 _ rfl
    have q3 := hcs 3 _ rfl
    have q4 := hcs 4 _ rfl
    have q5 := hcs 5 _ rfl
    have q6 := hcs 6 _ rfl
    have q7 := hcs 7 _ rfl
    have q8 := hcs 8 _ rfl
    have q9 := hcs 9 _ rfl
    have q10 := hcs 10 _ rfl
    have q11 := hcs 11 _ rfl
    have q12 := hcs 12 _ rfl
    simp only [sub_] at q0 q1 q2 q3 q4 q5 q6 q7 q8 q9 q10 q11 q12
    clear hcs hlo ho
    have HS := Lib.hid hs
    have HAL := Lib.hid hal
    have HRA := Lib.hid hra
    have HSA := Lib.hid hsa
    have HROOT : Hid (1 ≤ AR.root ∧ AR.root ≤ AR.sl.length) := hroot
    have HKEY := Lib.hid hkey
    have HSM : Hid (Sm BIG 1 o.key.length) := z1
    have PB := fun wx => pick13_ (n := 12) wx i3 (by decide)
    obtain ⟨hpb1, hpb2⟩ := pk_range o.b 12 (by decide)
    have PI := fun wx (hn : 1 ≤ (gs.length : Int)) => pick13_ (n := (gs.length : Int)) wx i2 hn
    clear hs hal hra hsa hroot hkey z1 i1
    unfold iV at PB PI
    generalize pk o.b 12 = most at *
    have hk64 : k < 9223372036854775807 := by omega
    by_cases ht : 0 ≤ o.kd ∧ o.kd ≤ 6
    · as_aux_lemma =>
      obtain ⟨ht1, ht2⟩ := ht
      clear PB PI hpb1 hpb2 i2 i3
      go_wp2_with fail
      clear q0 q1 q2 q3 q4 q5 q6 q7 q8 q9 q10 q11 q12
      refine calls_at (fun w1 hw => ?_)
      have hk1 : Keeps Nob wr w1 := by rw [hw]; exact Keeps.alloc _ _ _
      obtain ⟨P8, hP8⟩ : ∃ N, wr.heap.size = N := ⟨_, rfl⟩
      have hb8 : Blk w1 P8 37 #[.int .i64 o.kd, .int .i64 o.a, .int .i64 o.b, .slice KA o.key.length kc, .slice VA o.val.length vc, .slice HA o.hi.length hc, .bool o.ch, .int .i64 o.nd.lvl, .slice X1 o.nd.high.length k1, .int .i64 o.nd.right, .slice X3 o.nd.keys.length k3, .slice X4 o.nd.vals.length k4, .slice X5 o.nd.kids.length k5] := by rw [hw, ← hP8]; exact Blk.new _ _ _
      clear hw
      replace HS := Lib.hid (HS.out.blkPut (i := 2) rfl hk1 hb8 (by rw [hP8]; exact Nat.le_refl _))
      obtain ⟨G, hJ, hG, hback⟩ := HS.out.arena
      have hop2 := HOP.out.keeps hk1 (fun _ _ => id)
      have hb0 : AR.sl.length ≤ AR.nodes := by obtain ⟨_, ⟨_, _, _, _, ⟨_, _, hX⟩, _⟩, _⟩ := hJ; exact hX.bound.1
      obtain ⟨_, _, _, _, _, _, _, _, _, _, _, _, z1, z2, z3, z4⟩ := HOP.out
      have TJ := turnJ hJ hop2 (fun x hx hg => absurd hx (Nat.not_lt.2 (hG x hg))) HRA.out (fun s hs => (HSA.out s hs).mono (by unfold BIG; omega)) (by have := HROOT.out; omega) HROOT.out
      have HR2 := Lib.hid (right_turn (o := o) HRA.out hb0)
      have HS2 : Hid (SmA (BIG - 24 * (k + 1)) (turnM AR o)) := sm_turn (by rw [show BIG - 24 * (k + 1) + 24 = BIG - 24 * k by unfold BIG; omega]; exact HSA.out) (by unfold BIG; omega) hb0 (z1.mono (by omega)) (z2.mono (by omega)) (z4.mono (by omega))
      have HRT := Lib.hid (root_turn (o := o) HROOT.out)
      have HBK := Lib.hid hback
      clear hJ hG hback hop2 hb0 z1 z2 z3 z4 hk1 hb8 hP8 HS
      unfold pV at TJ
      refine TJ.mono ?_
      rintro e w4 ⟨rfl, hj, hk4⟩
      have HS4 := Lib.hid (HBK.out _ _ _ hj hk4)
      clear hj hk4 TJ HBK
      go_wp2
      go_roundw
      case rel => exact ⟨k + 1, by omega, by go_num, rfl, _, gs, _, _, _, by omega, HAL.out.mono (by omega), HR2.out, HS2.out, HRT.out, HS4.out⟩
      case measure => simp [intOf]; omega
    by_cases h7 : o.kd = 7
    · as_aux_lemma =>
      have hge : ¬ o.kd ≤ 6 := by omega
      have hge0 : 0 ≤ o.kd := by omega
      have he7 : (o.kd == 7) = true := by rw [h7]; rfl
      clear h7 ht PB PI hpb1 hpb2 i2 i3
      generalize o.kd = kd at *
      obtain ⟨i0, hi, hz0, hz1, hz2⟩ := info_parts Tryz.inf_u8
      go_wp2_with (at_builtin; refine list_at (fun wd hwd => ?_); refine wpList_app rfl (.tmp 60) (.tmp 62) 23 rfl Tryz.underlying23 hi hz0 hz1 hz2 rfl (by decide) (v := .slice (some ⟨wr.heap.size + 1, 0, none⟩) 0 0) (n := 0) (m := o.key.length) (S := fun x => x = wr.heap.size + 1) (T := fun b => b < w.heap.size) (xs := []) (news := o.key.map bV) rfl ?c1 (y := .slice KA o.key.length kc) rfl ?c2 ?c3 ?c4 ?c5 ?c6)
      case c1 => try rw [hwd]
                 exact Own.empty_ (by simp) rfl
      case c2 => try rw [hwd]
                 exact HKEY.out.g.keeps ((Keeps.alloc Nob _ _).alloc' _) (fun _ _ _ => id)
      case c3 => first | exact bV_one o.key | (intro a ha; exact bV_one o.key _ (List.mem_map.2 ⟨a, ha, rfl⟩))
      case c4 => have := HSM.out; unfold Sm at this; unfold maxLen; omega
      case c5 => have := HSM.out; unfold Sm at this; omega
      case c6 =>
      intro v' w2 hown hk2 _
      try rw [← hwd] at hown
      try rw [← hwd] at hk2
      try simp only [Nat.zero_add, List.nil_append] at hown
      obtain ⟨B1, d1, hf⟩ := hown.form
      subst hf
      clear q0 q1 q2 q3 q4 q5 q6 q7 q8 q9 q10 q11 q12
      obtain ⟨w1, hw1⟩ : ∃ x, x = wr.alloc (.cells #[.int .i64 kd, .int .i64 o.a, .int .i64 o.b, .slice KA o.key.length kc, .slice VA o.val.length vc, .slice HA o.hi.length hc, .bool o.ch, .int .i64 o.nd.lvl, .slice X1 o.nd.high.length k1, .int .i64 o.nd.right, .slice X3 o.nd.keys.length k3, .slice X4 o.nd.vals.length k4, .slice X5 o.nd.kids.length k5] 37) := ⟨_, rfl⟩
      obtain ⟨P8, hP8⟩ : ∃ N, wr.heap.size = N := ⟨_, rfl⟩
      have hk1 : Keeps Nob wr w1 := by rw [hw1]; exact Keeps.alloc _ _ _
      have hb8 : Blk w1 P8 37 #[.int .i64 kd, .int .i64 o.a, .int .i64 o.b, .slice KA o.key.length kc, .slice VA o.val.length vc, .slice HA o.hi.length hc, .bool o.ch, .int .i64 o.nd.lvl, .slice X1 o.nd.high.length k1, .int .i64 o.nd.right, .slice X3 o.nd.keys.length k3, .slice X4 o.nd.vals.length k4, .slice X5 o.nd.kids.length k5] := by rw [hw1, ← hP8]; exact Blk.new _ _ _
      have hs1 : w1.heap.size = P8 + 1 := by rw [hw1, ← hP8]; simp
      have hkd : Keeps Nob w1 wd := by rw [hwd, hw1]; exact Keeps.alloc _ _ _
      have hsd : wd.heap.size = P8 + 2 := by rw [hwd, ← hP8]; simp
      rw [hP8] at hk2 hown
      replace HS := Lib.hid (HS.out.blkPut (i := 2) rfl hk1 hb8 (by rw [hP8]; exact Nat.le_refl _))
      have hk12 : Keeps Nob w1 w2 := hkd.trans hk2 (fun b hb e => by simp [Value.ownBlock] at e; omega)
      have ho2 : Own w2 (Fresh w1 w2) 5 1 (.slice B1 o.key.length d1) o.key.length (o.key.map bV) := hown.mono (fun x hx h => by
        rcases h with h | h
        · simp [Value.ownBlock] at h; exact ⟨by omega, hx⟩
        · have h1 := h.1; exact ⟨by omega, hx⟩)
      rw [hP8]
      replace HS := Lib.hid (HS.out.rowPut (i := 1) rfl hk12 ho2)
      replace HKEY := Lib.hid ((HKEY.out.keeps hk1 (fun _ _ _ => id)).keeps hk12 (fun _ _ _ => id))
      have b3 : w2.cell? ⟨P8, 3, none⟩ = some (.slice KA o.key.length kc) := hk12.cell (hb8.cell 3) id
      have lt8 : P8 < w2.heap.size := Nat.lt_of_lt_of_le hb8.lt hk12.size
      clear hown hk2 hk12 ho2 hwd hw1 hk1 hb8 hs1 hkd hsd hP8
      have HKB : Hid (Byts w2 (fun x => (Value.slice B1 o.key.length d1).ownBlock = some x) (.slice B1 o.key.length d1) o.key) := (HS.out.get (i := 1) rfl : Own w2 _ _ 1 _ _ _).r
      have s0 := HS.out.blk.cell 0
      have s1 := HS.out.blk.cell 1
      unfold pV at s0 s1
      go_wp2
      obtain ⟨wq, hwq⟩ : ∃ x, x = w2 := ⟨_, rfl⟩
      subst hwq
      refine wp_region_treV (X := Nat × Nat × Nat × Nat × Nat) (fun x => [(some 64, .pointer (some ⟨b, 0, none⟩)), (some 65, .pointer (some ⟨b, 0, none⟩)), (some 66, .pointer (some ⟨b, 0, none⟩)), (some 67, .pointer (some ⟨p, 0, none⟩)), (some 68, .slice B1 o.key.length d1), (some 69, .pointer (some ⟨x.1, 0, none⟩)), (some 70, .pointer (some ⟨b, 0, none⟩)), (some 71, .pointer (some ⟨b, 0, none⟩)), (some 72, .pointer (some ⟨b, 1, none⟩)), (some 73, .pointer (some ⟨q, 0, none⟩)), (some 74, .pointer (some ⟨P8, 3, none⟩)), (some 75, .slice KA o.key.length kc), (some 76, .pointer (some ⟨x.2.2.1, 0, none⟩)), (some 77, .pointer (some ⟨P8, 3, none⟩)), (some 78, .slice KA o.key.length kc), (some 79, .agg #[.pointer (some ⟨x.1, 0, none⟩), .pointer (some ⟨x.2.2.1, 0, none⟩), .slice KA o.key.length kc]), (some 10, .pointer (some ⟨x.2.2.2.2, 0, none⟩))]) (fun x W => (∃ Sx Sy, NewOb wq W (fun y => y = x.2.2.2.2) (gxOb p x.1 x.2.1 Sx (Gc.new o.key)) ∧ NewOb wq W (fun y => y = x.2.2.2.2) (grOb q x.2.2.1 x.2.2.2.1 Sy (Gc.new o.key)) ∧ ∀ y, (gxOb p x.1 x.2.1 Sx (Gc.new o.key)).F y → ¬ (grOb q x.2.2.1 x.2.2.2.1 Sy (Gc.new o.key)).F y) ∧ Blk W x.2.2.2.2 67 #[.pointer (some ⟨x.1, 0, none⟩), .pointer (some ⟨x.2.2.1, 0, none⟩), .slice KA o.key.length kc] ∧ wq.heap.size ≤ x.2.2.2.2 ∧ Keeps Nob wq W) (Wlk.reads [0, 1, 2, 3, 4, 6, 7, 8, 9, 10, 11, 13, 14] (.two 5 (.two 12 (Wlk.reads [15] (.act 16 (.act 17 (.nil)))) 16 (.act 12 (Wlk.reads [15] (.act 17 (.nil))))) 16 (.act 5 (.act 12 (Wlk.reads [15] (.act 17 (.nil))))))) 17 (fun W => W.cell? ⟨b, 0, none⟩ = some (.pointer (some ⟨p, 0, none⟩)) ∧ W.cell? ⟨b, 1, none⟩ = some (.pointer (some ⟨q, 0, none⟩)) ∧ W.cell? ⟨P8, 3, none⟩ = some (.slice KA o.key.length kc)) (by kernel_rfl) (by kernel_rfl) (of_decide_eq_true (by kernel_rfl)) (by kernel_rfl) (fun _ _ d _ _ h => by cases d <;> exact h) ?_ ?_ ?_
      · exact ⟨s0, s1, b3⟩
      · refine tre_at (fun v0 hw => ?_)
        have hk : Keeps Nob wq v0 := by rw [hw]; exact Keeps.drew _ _
        clear hw
        have HC : Hid (v0.cell? ⟨b, 0, none⟩ = some (.pointer (some ⟨p, 0, none⟩)) ∧ v0.cell? ⟨b, 1, none⟩ = some (.pointer (some ⟨q, 0, none⟩)) ∧ v0.cell? ⟨P8, 3, none⟩ = some (.slice KA o.key.length kc)) := ⟨hk.cell s0 id, hk.cell s1 id, hk.cell b3 id⟩
        replace HKB := Lib.hid (HKB.out.keeps hk (fun _ _ _ => id))
        replace HKEY := Lib.hid (HKEY.out.keeps hk (fun _ _ _ => id))
        have K := Lib.hid hk
        have FX := fun wx S (h : Byts wx S (.slice B1 o.key.length d1) o.key) => getNewX (p := p) h (HSM.out.mono (Nat.zero_le _))
        have FR := fun wx S (h : Byts wx S (.slice KA o.key.length kc) o.key) => getNewR (q := q) h (HSM.out.mono (Nat.zero_le _))
        unfold pV at FX FR
        clear hk s0 s1 b3 HS
        unfold Wlk.reads
        iterate 13
          refine wpTre_read (v := ?_) rfl (by rfl) ?_ ?_
          rotate_left
          · intro W hW
            try (obtain ⟨z1, z2, z3⟩ : _ ∧ _ ∧ _ := hW)
            go_simp
            try rfl
          simp only [Act.put, List.setIfInBounds_toArray, List.set_cons_zero, List.set_cons_succ]
        refine wpTre_two rfl rfl ?_ ?_
        · go_wp2_with (go_at_call 14; refine (FX _ _ HKB.out).mono ?_; rintro e v1 ⟨mx, dx, rfl, hf, hf2, hX, hk⟩)
          have HX : Hid (∃ Sx, NewOb wq v1 (fun _ => False) (gxOb p mx dx Sx (Gc.new o.key))) := ⟨_, NewOb.made K.out hX (fun x hx => by rcases hx with rfl | rfl | hx; exact hf; exact hf2; exact hx.1) (fun _ h => h.elim)⟩
          clear hf hf2 hX
          replace HC : Hid (_ ∧ _ ∧ _) := ⟨hk.cell HC.out.1 id, hk.cell HC.out.2.1 id, hk.cell HC.out.2.2 id⟩
          replace HKB := Lib.hid (HKB.out.keeps hk (fun _ _ _ => id))
          replace HKEY := Lib.hid (HKEY.out.keeps hk (fun _ _ _ => id))
          replace K := Lib.hid (K.out.trans hk (fun _ _ h => h))
          clear hk
          refine ⟨.inr HC.out, ?_⟩
          refine wpTre_two rfl rfl ?_ ?_
          · go_wp2_with (go_at_call 20; refine (FR _ _ HKEY.out).mono ?_; rintro e v2 ⟨my, dy, rfl, hf, hf2, hX, hk⟩)
            obtain ⟨Sx, hnx⟩ := HX.out
            replace HX : Hid (∃ Sx Sy, NewOb wq v2 (fun _ => False) (gxOb p mx dx Sx (Gc.new o.key)) ∧ NewOb wq v2 (fun _ => False) (grOb q my dy Sy (Gc.new o.key)) ∧ ∀ y, (gxOb p mx dx Sx (Gc.new o.key)).F y → ¬ (grOb q my dy Sy (Gc.new o.key)).F y) := ⟨Sx, _, hnx.keeps hk (fun _ _ h => h.elim), NewOb.made K.out hX (fun x hx => by rcases hx with rfl | rfl | hx; exact hf; exact hf2; exact hx.1) (fun _ h => h.elim), fun y hy hy2 => by
              have h1 := (hnx.F y hy).1.2
              have h2 : v1.heap.size ≤ y := by rcases hy2 with rfl | rfl | hy2; exact hf.1; exact hf2.1; exact hy2.1.1
              omega⟩
            clear hf hf2 hX hnx
            replace HC : Hid (_ ∧ _ ∧ _) := ⟨hk.cell HC.out.1 id, hk.cell HC.out.2.1 id, hk.cell HC.out.2.2 id⟩
            replace HKB := Lib.hid (HKB.out.keeps hk (fun _ _ _ => id))
            replace HKEY := Lib.hid (HKEY.out.keeps hk (fun _ _ _ => id))
            replace K := Lib.hid (K.out.trans hk (fun _ _ h => h))
            clear hk
            refine ⟨.inr HC.out, ?_⟩
            iterate 1
              refine wpTre_read (v := ?_) rfl (by rfl) ?_ ?_
              rotate_left
              · intro W hW
                try (obtain ⟨z1, z2, z3⟩ : _ ∧ _ ∧ _ := hW)
                go_simp
                try rfl
              simp only [Act.put, List.setIfInBounds_toArray, List.set_cons_zero, List.set_cons_succ]
            refine wpTre_act rfl ?_
            go_wp2
            refine tre_at' (fun v3 hw => ?_)
            obtain ⟨N, hN⟩ : ∃ N, v2.heap.size = N := ⟨_, rfl⟩
            have hk : Keeps Nob v2 v3 := by rw [hw]; exact Keeps.alloc _ _ _
            have HN : Hid (wq.heap.size ≤ N) := by show _ ≤ _; rw [← hN]; exact K.out.size
            have HB := Lib.hid (Blk.new v2 67 #[.pointer none, .pointer none, .slice none 0 0])
            rw [← hw, hN] at HB
            obtain ⟨Sx, Sy, hnx, hny, hdis⟩ := HX.out
            replace HX : Hid (∃ Sx Sy, NewOb wq v3 (fun x => x = N) (gxOb p mx dx Sx (Gc.new o.key)) ∧ NewOb wq v3 (fun x => x = N) (grOb q my dy Sy (Gc.new o.key)) ∧ ∀ y, (gxOb p mx dx Sx (Gc.new o.key)).F y → ¬ (grOb q my dy Sy (Gc.new o.key)).F y) := ⟨Sx, Sy, (hnx.avoid N (Nat.le_of_eq hN)).keeps hk (fun _ _ h => h.elim), (hny.avoid N (Nat.le_of_eq hN)).keeps hk (fun _ _ h => h.elim), hdis⟩
            clear hnx hny hdis
            rw [hN]
            clear hw hN
            replace HC : Hid (_ ∧ _ ∧ _) := ⟨hk.cell HC.out.1 id, hk.cell HC.out.2.1 id, hk.cell HC.out.2.2 id⟩
            replace HKB := Lib.hid (HKB.out.keeps hk (fun _ _ _ => id))
            replace HKEY := Lib.hid (HKEY.out.keeps hk (fun _ _ _ => id))
            replace K := Lib.hid (K.out.trans hk (fun _ _ h => h))
            clear hk
            refine ⟨.inr HC.out, ?_⟩
            refine wpTre_act rfl ?_
            have z0 := HB.out.cell 0
            have z1 := HB.out.cell 1
            have z2 := HB.out.cell 2
            have f0 := HB.out.frozen 0
            have f1 := HB.out.frozen 1
            have f2 := HB.out.frozen 2
            go_wp2
            clear z0 z1 z2 f0 f1 f2
            refine tre_at' (fun v4 hw => ?_)
            have hk : Keeps (fun x => x = N) v3 v4 := by rw [hw]; exact ((Keeps.setCell _ (M := fun x => x = N) rfl _).setCell' (fun _ => rfl) _).setCell' (fun _ => rfl) _
            replace HB : Hid (Blk v4 N 67 #[.pointer (some ⟨mx, 0, none⟩), .pointer (some ⟨my, 0, none⟩), .slice KA o.key.length kc]) := by show Blk _ _ _ _; rw [hw]; exact ((HB.out.set_ 0 _).set_ 1 _).set_ 2 _
            obtain ⟨Sx, Sy, hnx, hny, hdis⟩ := HX.out
            replace HX : Hid (∃ Sx Sy, NewOb wq v4 (fun x => x = N) (gxOb p mx dx Sx (Gc.new o.key)) ∧ NewOb wq v4 (fun x => x = N) (grOb q my dy Sy (Gc.new o.key)) ∧ ∀ y, (gxOb p mx dx Sx (Gc.new o.key)).F y → ¬ (grOb q my dy Sy (Gc.new o.key)).F y) := ⟨Sx, Sy, hnx.keeps hk (fun _ _ h => h), hny.keeps hk (fun _ _ h => h), hdis⟩
            clear hnx hny hdis
            replace K := Lib.hid (K.out.trans hk (fun x hx e => by have h := HN.out; have e2 : x = N := e; omega))
            clear hk hw
            refine ⟨.inl (by rfl), ?_⟩
            refine wpTre_nil ?_
            obtain ⟨Sx, Sy, hnx, hny, hdis⟩ := HX.out
            first
              | refine ⟨mx, dx, my, dy, N, ?_, ⟨Sx, hnx, Sy, hny, hdis⟩, HB.out, HN.out, K.out⟩
              | refine ⟨mx, dx, my, dy, N, ?_, ⟨Sx, Sy, hnx, hny, hdis⟩, HB.out, HN.out, K.out⟩
              | refine ⟨(mx, dx, my, dy, N), ?_, ⟨Sx, Sy, hnx, hny, hdis⟩, HB.out, HN.out, K.out⟩
            simp only [putsA, Act.put, List.setIfInBounds_toArray, List.set_cons_zero, List.set_cons_succ]
          · go_wp2
            refine tre_at' (fun v5 hw => ?_)
            obtain ⟨N, hN⟩ : ∃ N, v1.heap.size = N := ⟨_, rfl⟩
            have hk : Keeps Nob v1 v5 := by rw [hw]; exact Keeps.alloc _ _ _
            have HN : Hid (wq.heap.size ≤ N) := by show _ ≤ _; rw [← hN]; exact K.out.size
            have HB := Lib.hid (Blk.new v1 67 #[.pointer none, .pointer none, .slice none 0 0])
            rw [← hw, hN] at HB
            obtain ⟨Sx, hnx⟩ := HX.out
            replace HX : Hid (∃ Sx, NewOb wq v5 (fun x => x = N) (gxOb p mx dx Sx (Gc.new o.key))) := ⟨Sx, (hnx.avoid N (Nat.le_of_eq hN)).keeps hk (fun _ _ h => h.elim)⟩
            clear hnx
            rw [hN]
            clear hw hN
            replace HC : Hid (_ ∧ _ ∧ _) := ⟨hk.cell HC.out.1 id, hk.cell HC.out.2.1 id, hk.cell HC.out.2.2 id⟩
            replace HKB := Lib.hid (HKB.out.keeps hk (fun _ _ _ => id))
            replace HKEY := Lib.hid (HKEY.out.keeps hk (fun _ _ _ => id))
            replace K := Lib.hid (K.out.trans hk (fun _ _ h => h))
            clear hk
            refine ⟨.inr HC.out, ?_⟩
            refine wpTre_act rfl ?_
            go_wp2_with (go_at_call 20; refine (FR _ _ HKEY.out).mono ?_; rintro e v6 ⟨my, dy, rfl, hf, hf2, hX, hk⟩)
            obtain ⟨Sx, hnx⟩ := HX.out
            replace HX : Hid (∃ Sx Sy, NewOb wq v6 (fun x => x = N) (gxOb p mx dx Sx (Gc.new o.key)) ∧ NewOb wq v6 (fun x => x = N) (grOb q my dy Sy (Gc.new o.key)) ∧ ∀ y, (gxOb p mx dx Sx (Gc.new o.key)).F y → ¬ (grOb q my dy Sy (Gc.new o.key)).F y) := ⟨Sx, _, hnx.keeps hk (fun _ _ h => h.elim), NewOb.made K.out hX (fun x hx => by rcases hx with rfl | rfl | hx; exact hf; exact hf2; exact hx.1) (fun x e => by rw [show x = N from e]; exact HB.out.lt), fun y hy hy2 => by
              have h1 := (hnx.F y hy).1.2
              have h2 : v5.heap.size ≤ y := by rcases hy2 with rfl | rfl | hy2; exact hf.1; exact hf2.1; exact hy2.1.1
              omega⟩
            clear hf hf2 hX hnx
            replace HC : Hid (_ ∧ _ ∧ _) := ⟨hk.cell HC.out.1 id, hk.cell HC.out.2.1 id, hk.cell HC.out.2.2 id⟩
            replace HKB := Lib.hid (HKB.out.keeps hk (fun _ _ _ => id))
            replace HKEY := Lib.hid (HKEY.out.keeps hk (fun _ _ _ => id))
            replace HB := Lib.hid (HB.out.keeps hk id)
            replace K := Lib.hid (K.out.trans hk (fun _ _ h => h))
            clear hk
            refine ⟨.inr HC.out, ?_⟩
            iterate 1
              refine wpTre_read (v := ?_) rfl (by rfl) ?_ ?_
              rotate_left
              · intro W hW
                try (obtain ⟨z1, z2, z3⟩ : _ ∧ _ ∧ _ := hW)
                go_simp
                try rfl
              simp only [Act.put, List.setIfInBounds_toArray, List.set_cons_zero, List.set_cons_succ]
            refine wpTre_act rfl ?_
            have z0 := HB.out.cell 0
            have z1 := HB.out.cell 1
            have z2 := HB.out.cell 2
            have f0 := HB.out.frozen 0
            have f1 := HB.out.frozen 1
            have f2 := HB.out.frozen 2
            go_wp2
            clear z0 z1 z2 f0 f1 f2
            refine tre_at' (fun v7 hw => ?_)
            have hk : Keeps (fun x => x = N) v6 v7 := by rw [hw]; exact ((Keeps.setCell _ (M := fun x => x = N) rfl _).setCell' (fun _ => rfl) _).setCell' (fun _ => rfl) _
            replace HB : Hid (Blk v7 N 67 #[.pointer (some ⟨mx, 0, none⟩), .pointer (some ⟨my, 0, none⟩), .slice KA o.key.length kc]) := by show Blk _ _ _ _; rw [hw]; exact ((HB.out.set_ 0 _).set_ 1 _).set_ 2 _
            obtain ⟨Sx, Sy, hnx, hny, hdis⟩ := HX.out
            replace HX : Hid (∃ Sx Sy, NewOb wq v7 (fun x => x = N) (gxOb p mx dx Sx (Gc.new o.key)) ∧ NewOb wq v7 (fun x => x = N) (grOb q my dy Sy (Gc.new o.key)) ∧ ∀ y, (gxOb p mx dx Sx (Gc.new o.key)).F y → ¬ (grOb q my dy Sy (Gc.new o.key)).F y) := ⟨Sx, Sy, hnx.keeps hk (fun _ _ h => h), hny.keeps hk (fun _ _ h => h), hdis⟩
            clear hnx hny hdis
            replace K := Lib.hid (K.out.trans hk (fun x hx e => by have h := HN.out; have e2 : x = N := e; omega))
            clear hk hw
            refine ⟨.inl (by rfl), ?_⟩
            refine wpTre_nil ?_
            obtain ⟨Sx, Sy, hnx, hny, hdis⟩ := HX.out
            first
              | refine ⟨mx, dx, my, dy, N, ?_, ⟨Sx, hnx, Sy, hny, hdis⟩, HB.out, HN.out, K.out⟩
              | refine ⟨mx, dx, my, dy, N, ?_, ⟨Sx, Sy, hnx, hny, hdis⟩, HB.out, HN.out, K.out⟩
              | refine ⟨(mx, dx, my, dy, N), ?_, ⟨Sx, Sy, hnx, hny, hdis⟩, HB.out, HN.out, K.out⟩
            simp only [putsA, Act.put, List.setIfInBounds_toArray, List.set_cons_zero, List.set_cons_succ]
        · go_wp2
          refine tre_at' (fun v8 hw => ?_)
          obtain ⟨N, hN⟩ : ∃ N, v0.heap.size = N := ⟨_, rfl⟩
          have hk : Keeps Nob v0 v8 := by rw [hw]; exact Keeps.alloc _ _ _
          have HN : Hid (wq.heap.size ≤ N) := by show _ ≤ _; rw [← hN]; exact K.out.size
          have HB := Lib.hid (Blk.new v0 67 #[.pointer none, .pointer none, .slice none 0 0])
          rw [← hw, hN] at HB
          rw [hN]
          clear hw hN
          replace HC : Hid (_ ∧ _ ∧ _) := ⟨hk.cell HC.out.1 id, hk.cell HC.out.2.1 id, hk.cell HC.out.2.2 id⟩
          replace HKB := Lib.hid (HKB.out.keeps hk (fun _ _ _ => id))
          replace HKEY := Lib.hid (HKEY.out.keeps hk (fun _ _ _ => id))
          replace K := Lib.hid (K.out.trans hk (fun _ _ h => h))
          clear hk
          refine ⟨.inr HC.out, ?_⟩
          refine wpTre_act rfl ?_
          go_wp2_with (go_at_call 14; refine (FX _ _ HKB.out).mono ?_; rintro e v9 ⟨mx, dx, rfl, hf, hf2, hX, hk⟩)
          have HX : Hid (∃ Sx, NewOb wq v9 (fun x => x = N) (gxOb p mx dx Sx (Gc.new o.key))) := ⟨_, NewOb.made K.out hX (fun x hx => by rcases hx with rfl | rfl | hx; exact hf; exact hf2; exact hx.1) (fun x e => by rw [show x = N from e]; exact HB.out.lt)⟩
          clear hf hf2 hX
          replace HC : Hid (_ ∧ _ ∧ _) := ⟨hk.cell HC.out.1 id, hk.cell HC.out.2.1 id, hk.cell HC.out.2.2 id⟩
          replace HKB := Lib.hid (HKB.out.keeps hk (fun _ _ _ => id))
          replace HKEY := Lib.hid (HKEY.out.keeps hk (fun _ _ _ => id))
          replace HB := Lib.hid (HB.out.keeps hk id)
          replace K := Lib.hid (K.out.trans hk (fun _ _ h => h))
          clear hk
          refine ⟨.inr HC.out, ?_⟩
          refine wpTre_act rfl ?_
          go_wp2_with (go_at_call 20; refine (FR _ _ HKEY.out).mono ?_; rintro e v10 ⟨my, dy, rfl, hf, hf2, hX, hk⟩)
          obtain ⟨Sx, hnx⟩ := HX.out
          replace HX : Hid (∃ Sx Sy, NewOb wq v10 (fun x => x = N) (gxOb p mx dx Sx (Gc.new o.key)) ∧ NewOb wq v10 (fun x => x = N) (grOb q my dy Sy (Gc.new o.key)) ∧ ∀ y, (gxOb p mx dx Sx (Gc.new o.key)).F y → ¬ (grOb q my dy Sy (Gc.new o.key)).F y) := ⟨Sx, _, hnx.keeps hk (fun _ _ h => h.elim), NewOb.made K.out hX (fun x hx => by rcases hx with rfl | rfl | hx; exact hf; exact hf2; exact hx.1) (fun x e => by rw [show x = N from e]; exact HB.out.lt), fun y hy hy2 => by
            have h1 := (hnx.F y hy).1.2
            have h2 : v9.heap.size ≤ y := by rcases hy2 with rfl | rfl | hy2; exact hf.1; exact hf2.1; exact hy2.1.1
            omega⟩
          clear hf hf2 hX hnx
          replace HC : Hid (_ ∧ _ ∧ _) := ⟨hk.cell HC.out.1 id, hk.cell HC.out.2.1 id, hk.cell HC.out.2.2 id⟩
          replace HKB := Lib.hid (HKB.out.keeps hk (fun _ _ _ => id))
          replace HKEY := Lib.hid (HKEY.out.keeps hk (fun _ _ _ => id))
          replace HB := Lib.hid (HB.out.keeps hk id)
          replace K := Lib.hid (K.out.trans hk (fun _ _ h => h))
          clear hk
          refine ⟨.inr HC.out, ?_⟩
          iterate 1
            refine wpTre_read (v := ?_) rfl (by rfl) ?_ ?_
            rotate_left
            · intro W hW
              try (obtain ⟨z1, z2, z3⟩ : _ ∧ _ ∧ _ := hW)
              go_simp
              try rfl
            simp only [Act.put, List.setIfInBounds_toArray, List.set_cons_zero, List.set_cons_succ]
          refine wpTre_act rfl ?_
          have z0 := HB.out.cell 0
          have z1 := HB.out.cell 1
          have z2 := HB.out.cell 2
          have f0 := HB.out.frozen 0
          have f1 := HB.out.frozen 1
          have f2 := HB.out.frozen 2
          go_wp2
          clear z0 z1 z2 f0 f1 f2
          refine tre_at' (fun v11 hw => ?_)
          have hk : Keeps (fun x => x = N) v10 v11 := by rw [hw]; exact ((Keeps.setCell _ (M := fun x => x = N) rfl _).setCell' (fun _ => rfl) _).setCell' (fun _ => rfl) _
          replace HB : Hid (Blk v11 N 67 #[.pointer (some ⟨mx, 0, none⟩), .pointer (some ⟨my, 0, none⟩), .slice KA o.key.length kc]) := by show Blk _ _ _ _; rw [hw]; exact ((HB.out.set_ 0 _).set_ 1 _).set_ 2 _
          obtain ⟨Sx, Sy, hnx, hny, hdis⟩ := HX.out
          replace HX : Hid (∃ Sx Sy, NewOb wq v11 (fun x => x = N) (gxOb p mx dx Sx (Gc.new o.key)) ∧ NewOb wq v11 (fun x => x = N) (grOb q my dy Sy (Gc.new o.key)) ∧ ∀ y, (gxOb p mx dx Sx (Gc.new o.key)).F y → ¬ (grOb q my dy Sy (Gc.new o.key)).F y) := ⟨Sx, Sy, hnx.keeps hk (fun _ _ h => h), hny.keeps hk (fun _ _ h => h), hdis⟩
          clear hnx hny hdis
          replace K := Lib.hid (K.out.trans hk (fun x hx e => by have h := HN.out; have e2 : x = N := e; omega))
          clear hk hw
          refine ⟨.inl (by rfl), ?_⟩
          refine wpTre_nil ?_
          obtain ⟨Sx, Sy, hnx, hny, hdis⟩ := HX.out
          first
            | refine ⟨mx, dx, my, dy, N, ?_, ⟨Sx, hnx, Sy, hny, hdis⟩, HB.out, HN.out, K.out⟩
            | refine ⟨mx, dx, my, dy, N, ?_, ⟨Sx, Sy, hnx, hny, hdis⟩, HB.out, HN.out, K.out⟩
            | refine ⟨(mx, dx, my, dy, N), ?_, ⟨Sx, Sy, hnx, hny, hdis⟩, HB.out, HN.out, K.out⟩
          simp only [putsA, Act.put, List.setIfInBounds_toArray, List.set_cons_zero, List.set_cons_succ]
      · rintro ⟨mx, dx, my, dy, N⟩ w3 ⟨⟨Sx, Sy, hnx, hny, hdis⟩, hbn, hnw, hk3⟩
        simp only at hnx hny hdis hbn hnw
        replace HS := Lib.hid (HS.out.newPair (ox := gxO p ⟨mx, dx, my, dy, Sx, Sy, Gc.new o.key, Gc.new o.key, .slice KA o.key.length kc⟩) (oy := grO q ⟨mx, dx, my, dy, Sx, Sy, Gc.new o.key, Gc.new o.key, .slice KA o.key.length kc⟩) hk3 hbn hnw hnx hny (fun x hx => hx.imp id .inl) (fun x hx => hx.imp id .inl) hdis)
        have t1 := run_str (HKB.out.keeps hk3 (fun _ _ _ => id))
        have t2 := run_str (HKEY.out.keeps hk3 (fun _ _ _ => id))
        have n0 : w3.cell? ⟨N, 0, none⟩ = some (.pointer (some ⟨mx, 0, none⟩)) := hbn.cell 0
        have n3 : w3.cell? ⟨P8, 3, none⟩ = some (.slice KA o.key.length kc) := hk3.cell b3 id
        have HD : Hid (Alike (12 * k) (gs ++ [⟨mx, dx, my, dy, Sx, Sy, Gc.new o.key, Gc.new o.key, .slice KA o.key.length kc⟩])) := HAL.out.snoc rfl (Mc.le.new _ _ _) ⟨_, _, _, rfl⟩
        clear s0 s1 b3 lt8 hbn hnw hk3 HKB HKEY HAL hnx hny hdis
        generalize hgn : (⟨mx, dx, my, dy, Sx, Sy, Gc.new o.key, Gc.new o.key, .slice KA o.key.length kc⟩ : Gu) = gn at *
        have hgx : gn.mx = mx := by rw [← hgn]
        have hgy : gn.my = my := by rw [← hgn]
        have hgk : gn.kv = .slice KA o.key.length kc := by rw [← hgn]
        clear hgn
        simp only [putsA, Act.put, List.setIfInBounds_toArray, List.set_cons_zero, List.set_cons_succ]
        have HGK := Lib.hid (And.intro hgx (And.intro hgy hgk))
        clear hgx hgy hgk
        go_wp2
        clear t1 t2 n0 n3
        have hkl : o.key.length ≤ 9223372036854775807 := by have := HSM.out; unfold Sm at this; omega
        go_loopw [11] (fun i wz => ∃ j : Nat, j ≤ o.key.length ∧ i = .int .i64 j ∧ ∃ (kl : List UInt8) (o4 : Ob), kl.length = o.key.length ∧ Su w wz b p q AR AR [rowOb 67 3 (.slice lA gs.length lc) gs.length (prs3 gs), byOb (.slice B1 kl.length d1) kl, o4, blkOb N 67 #[.pointer (some ⟨mx, 0, none⟩), .pointer (some ⟨my, 0, none⟩), .slice KA o.key.length kc], grpOb ((gs ++ [gn]).map (gxO p)), grpOb ((gs ++ [gn]).map (grO q))]) (fun i _ => o.key.length - (intOf i).toNat)
        case atStart =>
          refine ⟨0, Nat.zero_le _, rfl, o.key, blkOb P8 37 #[.int .i64 kd, .int .i64 o.a, .int .i64 o.b, .slice KA o.key.length kc, .slice VA o.val.length vc, .slice HA o.hi.length hc, .bool o.ch, .int .i64 o.nd.lvl, .slice X1 o.nd.high.length k1, .int .i64 o.nd.right, .slice X3 o.nd.keys.length k3, .slice X4 o.nd.vals.length k4, .slice X5 o.nd.kids.length k5], rfl, ?_⟩
          have h := HS.out
          rw [List.map_append, List.map_append]
          exact h
        clear HS
        obtain ⟨j, hj, rfl, kl, o4, hkl2, hsz⟩ := hrel
        rcases Nat.lt_or_ge j o.key.length with hjl | hjl
        · have how : Own wr _ 5 1 (.slice B1 kl.length d1) kl.length (kl.map bV) := hsz.get (i := 1) rfl
          obtain ⟨hd1, _, hf⟩ := how.at_
          rcases hf with ⟨_, hd0⟩ | ⟨g, o5, cur, rfl, hg, hb, hcz, hx⟩
          · exact absurd hd1 (by omega)
          obtain ⟨y, hy⟩ : ∃ y, kl[j]? = some y := ⟨_, List.getElem?_eq_getElem (by omega)⟩
          have r0 : wr.cell? ⟨g, o5 + j, none⟩ = some (bV y) := by rw [hb.cell]; exact hx j _ (by rw [List.getElem?_map, hy]; rfl)
          have f0 := hb.frozen (o5 + j)
          have HSZ := Lib.hid hsz
          have HJK : Hid (j < kl.length) := by show j < kl.length; omega
          have HKL := Lib.hid hkl2
          clear how hd1 hg hb hcz hx hy hsz hkl2
          unfold bV at r0
          go_wp2
          clear r0 f0
          go_roundw
          case rel => exact ⟨j + 1, by omega, by go_num, kl.set j (y + 1), o4, by rw [List.length_set]; exact HKL.out, by rw [bV_inc]; exact HSZ.out.byte (i := 1) rfl HJK.out _⟩
          case measure => simp [intOf]; omega
        obtain rfl : j = o.key.length := by omega
        have hbN : Blk wr N 67 #[.pointer (some ⟨mx, 0, none⟩), .pointer (some ⟨my, 0, none⟩), .slice KA o.key.length kc] := hsz.get (i := 3) rfl
        have n0 : wr.cell? ⟨N, 0, none⟩ = some (.pointer (some ⟨mx, 0, none⟩)) := hbN.cell 0
        have n1 : wr.cell? ⟨N, 1, none⟩ = some (.pointer (some ⟨my, 0, none⟩)) := hbN.cell 1
        have n2 : wr.cell? ⟨N, 2, none⟩ = some (.slice KA o.key.length kc) := hbN.cell 2
        have HSZ := Lib.hid hsz
        clear hsz hj hjl hkl2 hbN
        obtain ⟨i1, hi, hy0, hy1, hy2⟩ := info_parts Tryz.inf_pair13
        go_wp2_with (at_builtin; refine wpList_app rfl (.tmp 103) (.tmp 105) 63 rfl Tryz.underlying63 hi hy0 hy1 hy2 rfl (by decide) (v := .slice lA gs.length lc) (n := gs.length) (m := 1) (S := fun x => (Value.slice lA gs.length lc).ownBlock = some x) (T := fun _ => True) (xs := prs3 gs) (news := [.pointer (some ⟨mx, 0, none⟩), .pointer (some ⟨my, 0, none⟩), .slice KA o.key.length kc]) rfl ?d1 (y := .slice (some ⟨wr.heap.size, 0, none⟩) 1 1) rfl ?d2 ?d3 ?d4 ?d5 ?d6)
        case d1 => exact (HSZ.out.nob (Keeps.alloc Nob _ _)).get (i := 0) rfl
        case d2 => exact (SlG.lit _ _ [.pointer (some ⟨mx, 0, none⟩), .pointer (some ⟨my, 0, none⟩), .slice KA o.key.length kc] 3 1 _ rfl rfl (by decide)).mono (fun _ _ _ => trivial)
        case d3 => intro u hu; simp only [List.mem_cons, List.not_mem_nil, or_false] at hu; rcases hu with h | h | h <;> subst h <;> rfl
        case d4 => unfold maxLen; omega
        case d5 => omega
        case d6 =>
        intro v' w6 ho hk6 _
        obtain ⟨Av, cv, ev⟩ := ho.form
        subst ev
        have HS6 := Lib.hid ((HSZ.out.nob (Keeps.alloc Nob _ _)).app (i := 0) rfl hk6 (ho.mono (fun b _ hb => hb.imp id (fun h => ⟨by simpa using h.1, h.2⟩))))
        clear ho hk6 HSZ n0 n1 n2
        go_wp2
        go_roundw
        case rel =>
          have h := HS6.out
          simp only [List.set_cons_zero] at h
          exact ⟨k + 1, by omega, by go_num, rfl, AR, gs ++ [gn], byOb (.slice B1 kl.length d1) kl, o4, blkOb N 67 #[.pointer (some ⟨mx, 0, none⟩), .pointer (some ⟨my, 0, none⟩), .slice KA o.key.length kc], by simp; omega, HD.out.mono (by omega), HRA.out, (fun s hs => (HSA.out s hs).mono (by omega)), HROOT.out, by rw [List.length_append, List.length_singleton, prs3_snoc, HGK.out.1, HGK.out.2.1, HGK.out.2.2]; exact h⟩
        case measure => simp [intOf]; omega
    have he7 : (o.kd == 7) = false := by simpa using h7
    have hneg : ¬ (0 ≤ o.kd ∧ o.kd ≤ 6) := ht
    clear ht h7
    rcases Nat.eq_zero_or_pos gs.length with hz | hpos
    · obtain rfl : gs = [] := List.length_eq_zero_iff.1 hz
      clear hz PB PI hpb1 hpb2 i2 i3
      rcases Int.lt_or_le o.kd 0 with h0 | h0
      · as_aux_lemma =>
        clear hneg
        go_wp2
        go_roundw
        case rel => exact ⟨k + 1, by omega, by go_num, rfl, AR, [], o1, o2, o3, by omega, HAL.out.mono (by omega), HRA.out, (fun s hs => (HSA.out s hs).mono (by omega)), HROOT.out, HS.out.nob (Keeps.alloc _ _ _)⟩
        case measure => simp [intOf]; omega
      · as_aux_lemma =>
        have h6 : ¬ o.kd ≤ 6 := fun h => hneg ⟨h0, h⟩
        clear hneg
        go_wp2
        go_roundw
        case rel => exact ⟨k + 1, by omega, by go_num, rfl, AR, [], o1, o2, o3, by omega, HAL.out.mono (by omega), HRA.out, (fun s hs => (HSA.out s hs).mono (by omega)), HROOT.out, HS.out.nob (Keeps.alloc _ _ _)⟩
        case measure => simp [intOf]; omega
    obtain ⟨hx1, hx2⟩ := pk_range o.a (gs.length : Int) (by omega)
    replace PI := fun wx => PI wx (by omega)
    obtain ⟨n, hn⟩ : ∃ n : Nat, pk o.a (gs.length : Int) = (n : Int) := ⟨(pk o.a (gs.length : Int)).toNat, by omega⟩
    rw [hn] at PI hx1 hx2
    have hnl : n < gs.length := by omega
    clear hn hx1 hx2
    obtain ⟨g, hg⟩ : ∃ g, gs[n]? = some g := ⟨_, List.getElem?_eq_getElem hnl⟩
    obtain ⟨gA, gle, GA, gn, gc, hgk⟩ := HAL.out g (List.mem_of_getElem? hg)
    obtain ⟨p0, p1, p2⟩ := prs3_at gs n g hg
    have how : Own wr _ 67 3 _ _ _ := HS.out.get (i := 0) rfl
    obtain ⟨hd1, hd1', hf⟩ := how.at_
    rcases hf with ⟨_, hd0⟩ | ⟨gb, o5, cur, rfl, hgb, hb, hcz, hx⟩
    · exact absurd hd1 (by omega)
    clear how hd1 hd1' hgb hb hcz hx p0 p1 p2
    have hll : gs.length ≤ 9223372036854775807 := by omega
    have hpos' : (0 : Int) < gs.length := by omega
    have HDS := Lib.hid hg
    have HGK : Hid (g.kv = .slice GA gn gc) := hgk
    have HGA : Hid (g.A = g.B ∧ g.A.D.le (12 * k)) := ⟨gA, gle⟩
    clear hg gA gle hgk
    rcases Int.lt_or_le o.kd 0 with h0 | h0
    · as_aux_lemma =>
      clear hneg
      go_wp2_with fail
      clear q0 q1 q2 q3 q4 q5 q6 q7 q8 q9 q10 q11 q12
      refine calls_at (fun w1 hw => ?_)
      have hk1 : Keeps Nob wr w1 := by rw [hw]; exact Keeps.alloc _ _ _
      obtain ⟨P8, hP8⟩ : ∃ N, wr.heap.size = N := ⟨_, rfl⟩
      have hb8 : Blk w1 P8 37 #[.int .i64 o.kd, .int .i64 o.a, .int .i64 o.b, .slice KA o.key.length kc, .slice VA o.val.length vc, .slice HA o.hi.length hc, .bool o.ch, .int .i64 o.nd.lvl, .slice X1 o.nd.high.length k1, .int .i64 o.nd.right, .slice X3 o.nd.keys.length k3, .slice X4 o.nd.vals.length k4, .slice X5 o.nd.kids.length k5] := by rw [hw, ← hP8]; exact Blk.new _ _ _
      clear hw
      replace HS := Lib.hid (HS.out.blkPut (i := 2) rfl hk1 hb8 (by rw [hP8]; exact Nat.le_refl _))
      rw [hP8]
      refine (PI w1).mono ?_
      rintro e w' ⟨rfl, rfl⟩
      obtain ⟨p0, p1, p2⟩ := prs3_at gs n g HDS.out
      have how : Own w1 _ 67 3 _ _ _ := HS.out.get (i := 0) rfl
      obtain ⟨hd1, hd1', hf⟩ := how.at_
      rcases hf with ⟨hd0, _⟩ | ⟨gb', o5', cur', hrr, hgb, hb, hcz, hx⟩
      · cases hd0
      cases hrr
      have r0 : w1.cell? ⟨gb, o5 + n * 3, none⟩ = some (.pointer (some ⟨g.mx, 0, none⟩)) := by rw [hb.cell]; exact hx _ _ p0
      have r1 : w1.cell? ⟨gb, o5 + n * 3 + 1, none⟩ = some (.pointer (some ⟨g.my, 0, none⟩)) := by rw [hb.cell]; exact hx _ _ p1
      have r2 : w1.cell? ⟨gb, o5 + n * 3 + 2, none⟩ = some (.slice GA gn gc) := by rw [hb.cell, ← HGK.out]; exact hx _ _ p2
      have HP : Hid (prs3 gs = prs3 gs) := rfl
      clear how hd1 hd1' hgb hb hcz hx p0 p1 p2 hk1 hb8 hP8
      go_wp2_with fail
      clear r0 r1 r2
      refine code_at (fun w2 hw => ?_)
      have hk2 : Keeps Nob w1 w2 := by rw [hw]; exact Keeps.alloc _ _ _
      obtain ⟨N, hN⟩ : ∃ N, w1.heap.size = N := ⟨_, rfl⟩
      have hb2 : Blk w2 N 67 #[.pointer (some ⟨g.mx, 0, none⟩), .pointer (some ⟨g.my, 0, none⟩), .slice GA gn gc] := by rw [hw, ← hN]; exact Blk.new _ _ _
      clear hw
      replace HS := Lib.hid (HS.out.blkPut (i := 3) rfl hk2 hb2 (by rw [hN]; exact Nat.le_refl _))
      rw [hN]
      clear hk2 hb2 hN
      go_wp2
      go_loopw [5, 13] (fun okv i wz => ∃ j : Nat, j ≤ 12 ∧ i = .int .i64 j ∧ okv = .bool true ∧ ∃ g' : Gu, g'.mx = g.mx ∧ g'.my = g.my ∧ g'.kv = g.kv ∧ g'.A = g'.B ∧ g'.A.D.le (12 * k + j) ∧ Su w wz b p q AR AR [rowOb 67 3 (.slice (some ⟨gb, o5, none⟩) gs.length lc) gs.length (prs3 gs), o1, blkOb P8 37 #[.int .i64 o.kd, .int .i64 o.a, .int .i64 o.b, .slice KA o.key.length kc, .slice VA o.val.length vc, .slice HA o.hi.length hc, .bool o.ch, .int .i64 o.nd.lvl, .slice X1 o.nd.high.length k1, .int .i64 o.nd.right, .slice X3 o.nd.keys.length k3, .slice X4 o.nd.vals.length k4, .slice X5 o.nd.kids.length k5], blkOb N 67 #[.pointer (some ⟨g.mx, 0, none⟩), .pointer (some ⟨g.my, 0, none⟩), .slice GA gn gc], grpOb ((gs.set n g').map (gxO p)), grpOb ((gs.set n g').map (grO q))]) (fun _ i _ => 12 - (intOf i).toNat)
      case atStart =>
        refine ⟨0, Nat.zero_le _, rfl, rfl, g, rfl, rfl, rfl, HGA.out.1, HGA.out.2, ?_⟩
        have h := HS.out
        rw [set_self3 HDS.out]
        exact h
      clear HS
      obtain ⟨j, hj, rfl, rfl, g', hx', hy', hkv', hAB, hle, hs⟩ := hrel
      have HS := Lib.hid hs
      have b0 : wr.cell? ⟨P8, 0, none⟩ = some (.int .i64 o.kd) := (hs.get (i := 2) rfl : Blk wr P8 _ _).cell 0
      have b2 : wr.cell? ⟨P8, 2, none⟩ = some (.int .i64 o.b) := (hs.get (i := 2) rfl : Blk wr P8 _ _).cell 2
      have n0 : wr.cell? ⟨N, 0, none⟩ = some (.pointer (some ⟨g.mx, 0, none⟩)) := (hs.get (i := 3) rfl : Blk wr N _ _).cell 0
      have n1 : wr.cell? ⟨N, 1, none⟩ = some (.pointer (some ⟨g.my, 0, none⟩)) := (hs.get (i := 3) rfl : Blk wr N _ _).cell 1
      have n2 : wr.cell? ⟨N, 2, none⟩ = some (.slice GA gn gc) := (hs.get (i := 3) rfl : Blk wr N _ _).cell 2
      have HLE := Lib.hid hle
      have HNL : Hid ((gs.set n g')[n]? = some g') := by show _ = _; rw [List.getElem?_set, if_pos rfl, if_pos hnl]
      clear hs hle
      by_cases hgo : (j : Int) ≤ most ∧ o.kd = 8
      · obtain ⟨hjm, hod⟩ := hgo
        exact absurd hod (by omega)
      · have H2 : Hid (Alike (12 * (k + 1)) (gs.set n g')) := (HAL.out.mono (by omega)).set (Nat.le_refl _) hAB (HLE.out.mono (by omega)) ⟨GA, gn, gc, hkv'.trans HGK.out⟩
        have HX := Lib.hid ((HS.out.get (i := 4) rfl : Fam wr Nob _).ok n _ (map_at (f := gxO p) HNL.out))
        have HY := Lib.hid ((HS.out.get (i := 5) rfl : Fam wr Nob _).ok n _ (map_at (f := grO q) HNL.out))
        have HT := answers_ (KA := GA) (kn := gn) (kc := gc) (show GX wr g'.mx g'.dx p g'.Sx g'.A from HX.out) (by rw [hAB]; exact (show GR wr g'.my g'.dy q g'.Sy g'.B from HY.out))
        have HPR : Hid (prs3 gs = prs3 (gs.set n g')) := (prs3_set gs n g g' HDS.out hx' hy' hkv').symm
        rw [hx', hy'] at HT
        unfold pV at HT
        clear HX HY
        rcases Int.lt_or_le most j with hjm | hjm
        · go_wp2_with (go_at_call 21; refine (PB _).mono ?_; rintro e wk ⟨rfl, rfl⟩)
          clear b0 b2
          refine HT.mono ?_
          rintro e w5 ⟨rfl, hk5⟩
          have HS5 := Lib.hid (HS.out.nob hk5)
          clear n0 n1 n2 hk5 HT HS
          go_wp2
          go_roundw
          case rel =>
            have h := HS5.out
            rw [HPR.out, show gs.length = (gs.set n g').length by simp] at h
            exact ⟨k + 1, by omega, by go_num, rfl, AR, gs.set n g', _, _, _, by simp; omega, H2.out, HRA.out, (fun s hs => (HSA.out s hs).mono (by omega)), HROOT.out, by simpa using h⟩
          case measure => simp [intOf]; omega
        · have hod : (o.kd == 8) = false := by
            have : ¬ o.kd = 8 := fun h => hgo ⟨hjm, h⟩
            simpa using this
          go_wp2_with (go_at_call 21; refine (PB _).mono ?_; rintro e wk ⟨rfl, rfl⟩)
          clear b0 b2
          refine HT.mono ?_
          rintro e w5 ⟨rfl, hk5⟩
          have HS5 := Lib.hid (HS.out.nob hk5)
          clear n0 n1 n2 hk5 HT HS
          go_wp2
          go_roundw
          case rel =>
            have h := HS5.out
            rw [HPR.out, show gs.length = (gs.set n g').length by simp] at h
            exact ⟨k + 1, by omega, by go_num, rfl, AR, gs.set n g', _, _, _, by simp; omega, H2.out, HRA.out, (fun s hs => (HSA.out s hs).mono (by omega)), HROOT.out, by simpa using h⟩
          case measure => simp [intOf]; omega
    have h6 : ¬ o.kd ≤ 6 := fun h => hneg ⟨h0, h⟩
    · as_aux_lemma =>
      clear hneg
      go_wp2_with fail
      clear q0 q1 q2 q3 q4 q5 q6 q7 q8 q9 q10 q11 q12
      refine calls_at (fun w1 hw => ?_)
      have hk1 : Keeps Nob wr w1 := by rw [hw]; exact Keeps.alloc _ _ _
      obtain ⟨P8, hP8⟩ : ∃ N, wr.heap.size = N := ⟨_, rfl⟩
      have hb8 : Blk w1 P8 37 #[.int .i64 o.kd, .int .i64 o.a, .int .i64 o.b, .slice KA o.key.length kc, .slice VA o.val.length vc, .slice HA o.hi.length hc, .bool o.ch, .int .i64 o.nd.lvl, .slice X1 o.nd.high.length k1, .int .i64 o.nd.right, .slice X3 o.nd.keys.length k3, .slice X4 o.nd.vals.length k4, .slice X5 o.nd.kids.length k5] := by rw [hw, ← hP8]; exact Blk.new _ _ _
      clear hw
      replace HS := Lib.hid (HS.out.blkPut (i := 2) rfl hk1 hb8 (by rw [hP8]; exact Nat.le_refl _))
      rw [hP8]
      refine (PI w1).mono ?_
      rintro e w' ⟨rfl, rfl⟩
      obtain ⟨p0, p1, p2⟩ := prs3_at gs n g HDS.out
      have how : Own w1 _ 67 3 _ _ _ := HS.out.get (i := 0) rfl
      obtain ⟨hd1, hd1', hf⟩ := how.at_
      rcases hf with ⟨hd0, _⟩ | ⟨gb', o5', cur', hrr, hgb, hb, hcz, hx⟩
      · cases hd0
      cases hrr
      have r0 : w1.cell? ⟨gb, o5 + n * 3, none⟩ = some (.pointer (some ⟨g.mx, 0, none⟩)) := by rw [hb.cell]; exact hx _ _ p0
      have r1 : w1.cell? ⟨gb, o5 + n * 3 + 1, none⟩ = some (.pointer (some ⟨g.my, 0, none⟩)) := by rw [hb.cell]; exact hx _ _ p1
      have r2 : w1.cell? ⟨gb, o5 + n * 3 + 2, none⟩ = some (.slice GA gn gc) := by rw [hb.cell, ← HGK.out]; exact hx _ _ p2
      have HP : Hid (prs3 gs = prs3 gs) := rfl
      clear how hd1 hd1' hgb hb hcz hx p0 p1 p2 hk1 hb8 hP8
      go_wp2_with fail
      clear r0 r1 r2
      refine code_at (fun w2 hw => ?_)
      have hk2 : Keeps Nob w1 w2 := by rw [hw]; exact Keeps.alloc _ _ _
      obtain ⟨N, hN⟩ : ∃ N, w1.heap.size = N := ⟨_, rfl⟩
      have hb2 : Blk w2 N 67 #[.pointer (some ⟨g.mx, 0, none⟩), .pointer (some ⟨g.my, 0, none⟩), .slice GA gn gc] := by rw [hw, ← hN]; exact Blk.new _ _ _
      clear hw
      replace HS := Lib.hid (HS.out.blkPut (i := 3) rfl hk2 hb2 (by rw [hN]; exact Nat.le_refl _))
      rw [hN]
      clear hk2 hb2 hN
      go_wp2
      go_loopw [5, 13] (fun okv i wz => ∃ j : Nat, j ≤ 12 ∧ i = .int .i64 j ∧ okv = .bool true ∧ ∃ g' : Gu, g'.mx = g.mx ∧ g'.my = g.my ∧ g'.kv = g.kv ∧ g'.A = g'.B ∧ g'.A.D.le (12 * k + j) ∧ Su w wz b p q AR AR [rowOb 67 3 (.slice (some ⟨gb, o5, none⟩) gs.length lc) gs.length (prs3 gs), o1, blkOb P8 37 #[.int .i64 o.kd, .int .i64 o.a, .int .i64 o.b, .slice KA o.key.length kc, .slice VA o.val.length vc, .slice HA o.hi.length hc, .bool o.ch, .int .i64 o.nd.lvl, .slice X1 o.nd.high.length k1, .int .i64 o.nd.right, .slice X3 o.nd.keys.length k3, .slice X4 o.nd.vals.length k4, .slice X5 o.nd.kids.length k5], blkOb N 67 #[.pointer (some ⟨g.mx, 0, none⟩), .pointer (some ⟨g.my, 0, none⟩), .slice GA gn gc], grpOb ((gs.set n g').map (gxO p)), grpOb ((gs.set n g').map (grO q))]) (fun _ i _ => 12 - (intOf i).toNat)
      case atStart =>
        refine ⟨0, Nat.zero_le _, rfl, rfl, g, rfl, rfl, rfl, HGA.out.1, HGA.out.2, ?_⟩
        have h := HS.out
        rw [set_self3 HDS.out]
        exact h
      clear HS
      obtain ⟨j, hj, rfl, rfl, g', hx', hy', hkv', hAB, hle, hs⟩ := hrel
      have HS := Lib.hid hs
      have b0 : wr.cell? ⟨P8, 0, none⟩ = some (.int .i64 o.kd) := (hs.get (i := 2) rfl : Blk wr P8 _ _).cell 0
      have b2 : wr.cell? ⟨P8, 2, none⟩ = some (.int .i64 o.b) := (hs.get (i := 2) rfl : Blk wr P8 _ _).cell 2
      have n0 : wr.cell? ⟨N, 0, none⟩ = some (.pointer (some ⟨g.mx, 0, none⟩)) := (hs.get (i := 3) rfl : Blk wr N _ _).cell 0
      have n1 : wr.cell? ⟨N, 1, none⟩ = some (.pointer (some ⟨g.my, 0, none⟩)) := (hs.get (i := 3) rfl : Blk wr N _ _).cell 1
      have n2 : wr.cell? ⟨N, 2, none⟩ = some (.slice GA gn gc) := (hs.get (i := 3) rfl : Blk wr N _ _).cell 2
      have HLE := Lib.hid hle
      have HNL : Hid ((gs.set n g')[n]? = some g') := by show _ = _; rw [List.getElem?_set, if_pos rfl, if_pos hnl]
      clear hs hle
      by_cases hgo : (j : Int) ≤ most ∧ o.kd = 8
      · obtain ⟨hjm, hod⟩ := hgo
        replace hod : (o.kd == 8) = true := by simpa using hod
        have FX := HS.out.getX (i := 4) rfl HNL.out (HLE.out.low (by omega))
        rw [show pV g'.mx = pV g.mx by rw [hx']] at FX
        unfold pV at FX
        clear HS
        go_wp2_with (go_at_call 21; refine (PB _).mono ?_; rintro e wk ⟨rfl, rfl⟩)
        clear b0 b2 n0 n1 n2
        refine FX.mono ?_
        rintro e w3 ⟨rfl, S, hs⟩
        have n1 : w3.cell? ⟨N, 1, none⟩ = some (.pointer (some ⟨g.my, 0, none⟩)) := (hs.get (i := 3) rfl : Blk w3 N _ _).cell 1
        have FR := hs.getR (i := 5) rfl HNL.out (by rw [← hAB]; exact HLE.out.low (by omega))
        rw [show pV g'.my = pV g.my by rw [hy']] at FR
        rw [show stepG AR g'.B = stepG AR g'.A by rw [hAB]] at FR
        simp only [List.set_cons_zero, List.set_cons_succ] at FR
        unfold pV at FR
        clear hs FX
        have HST : Hid (∀ c, g'.A.D.le c → (stepG AR g'.A).2.D.le (c + 1)) := fun c h => stepG_le h
        generalize hzz : stepG AR g'.A = zz at *
        obtain ⟨⟨za, zb⟩, ng⟩ := zz
        clear hzz
        simp only at FR HST
        go_wp2_with fail
        clear n1
        refine FR.mono ?_
        rintro e w4 ⟨rfl, S', hs⟩
        try simp only [List.set_cons_zero, List.set_cons_succ] at hs
        rw [map_gx2 (B' := ng) (T := S'), map_gr2 (A' := ng) (S := S)] at hs
        have HS4 := Lib.hid hs
        have HLE2 := Lib.hid (HST.out _ HLE.out)
        clear hs FR HST
        go_wp2
        go_roundw
        case rel => exact ⟨j + 1, by omega, by go_num, by simp, { g' with A := ng, Sx := S, B := ng, Sy := S' }, hx', hy', hkv', rfl, HLE2.out.mono (by omega), HS4.out⟩
        case measure => simp [intOf]; omega
      · have H2 : Hid (Alike (12 * (k + 1)) (gs.set n g')) := (HAL.out.mono (by omega)).set (Nat.le_refl _) hAB (HLE.out.mono (by omega)) ⟨GA, gn, gc, hkv'.trans HGK.out⟩
        have HX := Lib.hid ((HS.out.get (i := 4) rfl : Fam wr Nob _).ok n _ (map_at (f := gxO p) HNL.out))
        have HY := Lib.hid ((HS.out.get (i := 5) rfl : Fam wr Nob _).ok n _ (map_at (f := grO q) HNL.out))
        have HT := answers_ (KA := GA) (kn := gn) (kc := gc) (show GX wr g'.mx g'.dx p g'.Sx g'.A from HX.out) (by rw [hAB]; exact (show GR wr g'.my g'.dy q g'.Sy g'.B from HY.out))
        have HPR : Hid (prs3 gs = prs3 (gs.set n g')) := (prs3_set gs n g g' HDS.out hx' hy' hkv').symm
        rw [hx', hy'] at HT
        unfold pV at HT
        clear HX HY
        rcases Int.lt_or_le most j with hjm | hjm
        · go_wp2_with (go_at_call 21; refine (PB _).mono ?_; rintro e wk ⟨rfl, rfl⟩)
          clear b0 b2
          refine HT.mono ?_
          rintro e w5 ⟨rfl, hk5⟩
          have HS5 := Lib.hid (HS.out.nob hk5)
          clear n0 n1 n2 hk5 HT HS
          go_wp2
          go_roundw
          case rel =>
            have h := HS5.out
            rw [HPR.out, show gs.length = (gs.set n g').length by simp] at h
            exact ⟨k + 1, by omega, by go_num, rfl, AR, gs.set n g', _, _, _, by simp; omega, H2.out, HRA.out, (fun s hs => (HSA.out s hs).mono (by omega)), HROOT.out, by simpa using h⟩
          case measure => simp [intOf]; omega
        · have hod : (o.kd == 8) = false := by
            have : ¬ o.kd = 8 := fun h => hgo ⟨hjm, h⟩
            simpa using this
          go_wp2_with (go_at_call 21; refine (PB _).mono ?_; rintro e wk ⟨rfl, rfl⟩)
          clear b0 b2
          refine HT.mono ?_
          rintro e w5 ⟨rfl, hk5⟩
          have HS5 := Lib.hid (HS.out.nob hk5)
          clear n0 n1 n2 hk5 HT HS
          go_wp2
          go_roundw
          case rel =>
            have h := HS5.out
            rw [HPR.out, show gs.length = (gs.set n g').length by simp] at h
            exact ⟨k + 1, by omega, by go_num, rfl, AR, gs.set n g', _, _, _, by simp; omega, H2.out, HRA.out, (fun s hs => (HSA.out s hs).mono (by omega)), HROOT.out, by simpa using h⟩
          case measure => simp [intOf]; omega
  obtain rfl : k = os.length := by omega
  have K := Lib.hid hs.kept
  obtain ⟨G, hJ, _, _⟩ := hs.arena
  have HN := Lib.hid (sameJ hJ)
  unfold pV at HN
  clear hs hJ hal hgl hra hsa hroot
  go_wp2_with fail
  refine HN.out.mono ?_
  rintro e wl ⟨rfl, _, hk2⟩
  have HK3 := Lib.hid (K.out.trans hk2 (fun _ _ h => h))
  clear hk2 HN
  go_wp2
  go_ret
  exact ⟨rfl, HK3.out⟩
end
end Go.Proofs.YtbhohohgojcapaaGreat
