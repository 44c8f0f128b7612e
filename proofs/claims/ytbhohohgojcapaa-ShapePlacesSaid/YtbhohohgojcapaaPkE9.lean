import Derived.Test.YtbhohohgojcapaaPkE1
import Derived.Test.YtbhohohgojcapaaPkE4
import Derived.Test.YtbhohohgojcapaaPkE7
import Derived.Test.YtbhohohgojcapaaPkC7
import Derived.Test.YtbhohohgojcapaaPkE8
import Derived.Test.YtbhohohgojcapaaPkE2
namespace Go.Proofs.Ytbhohohgojcapaa
open Go.RowKit

/-- How many nodes the arena may have stays. -/
theorem nodes_step (A : Ar) (P : OpM) : (step A P).nodes = A.nodes := by
  have hlock : ∀ (B : Ar) (i : Int) (x : Nat), (opLock B i x).2.2.nodes = B.nodes := fun B i x => by unfold opLock; split; rfl; split <;> rfl
  have hunl : ∀ (B : Ar) (i : Int) (x : Bool), (opUnlock B i x).2.nodes = B.nodes := fun B i x => by unfold opUnlock; split; rfl; split <;> rfl
  have hsh : ∀ (B : Ar) (i : Int) (x : Nd), (opSetHead B i x).2.nodes = B.nodes := fun B i x => by unfold opSetHead; split; rfl; split <;> rfl
  have hsb : ∀ (B : Ar) (i : Int) (x : Nd), (opSetBody B i x).2.nodes = B.nodes := fun B i x => by unfold opSetBody; split; rfl; split <;> rfl
  have hal : (opAlloc A).2.2.nodes = A.nodes := by unfold opAlloc; split <;> rfl
  have h3 : ∀ (B : Ar) (i : Int) (x : Nd), (opLay3 B i x).nodes = B.nodes := fun B i x => by unfold opLay3; rw [hunl, hsb, hsh]
  unfold step
  split
  · exact hal
  split
  · rfl
  split
  · exact hlock _ _ _
  split
  · exact hunl _ _ _
  split
  · exact hsh _ _ _
  split
  · exact hsb _ _ _
  split
  · unfold opGrow
    split
    · rfl
    · split <;> rfl
  split
  · unfold opLay
    split
    · split
      · rw [h3]; exact hal
      · exact hal
    · rw [h3]; exact hlock _ _ _
  · exact hlock _ _ _
theorem nodes_steps : ∀ (os : List OpM) (A : Ar), (steps A os).nodes = A.nodes
  | [], _ => rfl
  | o :: os, A => (nodes_steps os (step A o)).trans (nodes_step A o)
section
variable {w : World} {a0 a1 a2 a3 a4 : Int} {lo : Nat} {sv : Value} {os : List OpM}
set_option maxRecDepth 100000 in
set_option maxHeartbeats 64000000 in
theorem placesOk (ho : OpsAt w lo sv os) (hlo : lo ≤ w.heap.size) (hwd : ∀ o ∈ os, Wd o.nd) : Calls Try.prog 8 #[.agg #[sv, .int .i64 a0, .int .i64 a1, .int .i64 a2, .int .i64 a3, .int .i64 a4]] w fun e w' => e = .returned (.bool true) ∧ Keeps Nob w w' := by
  obtain ⟨sA, sc, es⟩ : ∃ A c, sv = .slice A os.length c := by obtain ⟨A, c, e, _⟩ := ho; exact ⟨A, c, e⟩
  subst es
  have hww : Wide64 (steps (ar0 40) os) := wdd_steps os _ (wdd_ar0 40) hwd
  have hrt := root_steps_ os (ar0 40) (root_ar0 40)
  have hnn : (steps (ar0 40) os).nodes = 40 := nodes_steps os _
  obtain ⟨A, hA⟩ : ∃ A, steps (ar0 40) os = A := ⟨_, rfl⟩
  rw [hA] at hww hrt hnn
  obtain ⟨⟨rs, rn, re, rl, rns, rents⟩, hR⟩ : ∃ R, checkM A a0 a1 a2 a3 a4 = R := ⟨_, rfl⟩
  have HO := Lib.hid ho
  have HLO := Lib.hid hlo
  have HA := Lib.hid hA
  have HWW := Lib.hid hww
  have HRT : Hid (1 ≤ A.root ∧ A.root ≤ A.sl.length) := hrt
  have HNN : Hid (A.nodes = 40) := hnn
  have HR := Lib.hid hR
  clear ho hlo hA hww hrt hnn hR hwd
  go_enter Try.func8, Try.ntmps8
  go_wp2_with fail
  obtain ⟨P1, hP⟩ : ∃ N, w.heap.size = N := ⟨_, rfl⟩
  rw [hP]
  refine calls_at (fun w1 hw => ?_)
  have hk : Keeps Nob w w1 := by rw [hw]; exact Keeps.alloc _ _ _
  have HB := Lib.hid (show Blk w1 P1 93 #[.slice sA os.length sc, .int .i64 a0, .int .i64 a1, .int .i64 a2, .int .i64 a3, .int .i64 a4] by rw [hw, ← hP]; exact Blk.new _ _ _)
  have K := Lib.hid hk
  clear hw hk hP
  refine (head11 _).mono ?_
  rintro e w2 ⟨rfl, hk⟩
  replace HB := Lib.hid (HB.out.keeps hk (fun h => h))
  replace K := Lib.hid (K.out.trans hk (fun _ _ h => h))
  clear hk
  have t0 := HB.out.cell 0
  have t1 := HB.out.cell 1
  have t2 := HB.out.cell 2
  have t3 := HB.out.cell 3
  have t4 := HB.out.cell 4
  have t5 := HB.out.cell 5
  go_wp2_with fail
  clear t0 t1 t2 t3 t4 t5
  refine (laidJ (HO.out.keeps K.out (fun _ _ => id)) (Nat.le_trans HLO.out K.out.size)).mono ?_
  rintro e w3 ⟨b, p, q, rfl, hj, hk⟩
  rw [HA.out] at hj
  replace HB := Lib.hid (HB.out.keeps hk (fun h => h))
  replace K := Lib.hid (K.out.trans hk (fun _ _ h => h))
  have HJ := Lib.hid hj
  clear hj hk
  unfold pV
  go_upto_region 5 with (fail)
  have cb : w3.cell? ⟨b, 0, none⟩ = some (.pointer (some ⟨p, 0, none⟩)) := HJ.out.blk.cell 0
  have t1 := HB.out.cell 1
  have t2 := HB.out.cell 2
  have t3 := HB.out.cell 3
  have t4 := HB.out.cell 4
  have t5 := HB.out.cell 5
  have HX : Hid (∃ M D slots ids, ArW w3 M D p slots ids A) := by obtain ⟨M, D, _, _, ⟨sl, ids, h⟩, _⟩ := HJ.out.mem; exact Lib.hid ⟨M, D, sl, ids, h⟩
  have FX : ∀ wx, Keeps Nob w3 wx → Calls Try.prog 31 #[.pointer (some ⟨p, 0, none⟩), .agg #[.int .i64 a0, .int .i64 a1, .int .i64 a2, .int .i64 a3, .int .i64 a4]] wx fun e w' => e = .returned (.agg #[.bool rs, .int .i64 rn, .int .i64 re, .int .i64 rl, .int .i64 rns, .int .i64 rents]) ∧ Keeps Nob wx w' := fun wx k => by
    obtain ⟨M, D, sl, ids, h⟩ := HX.out
    have h2 := pcheckR (a0 := a0) (a1 := a1) (a2 := a2) (a3 := a3) (a4 := a4) (h.keeps k (fun _ _ _ h => h) (fun _ _ _ h => h)) HJ.out.smA HWW.out.kids
    rw [HR.out] at h2
    exact h2
  have HFX := Lib.hid FX
  clear FX HX
  refine wp_region_treeV (X := Nat) (fun x => [(some 22, .pointer (some ⟨b, 0, none⟩)), (some 23, .pointer (some ⟨b, 0, none⟩)), (some 24, .pointer (some ⟨b, 0, none⟩)), (some 25, .pointer (some ⟨p, 0, none⟩)), (some 26, .pointer (some ⟨P1, 1, none⟩)), (some 27, .agg #[.int .i64 a0, .int .i64 a1, .int .i64 a2, .int .i64 a3, .int .i64 a4]), (some 28, .agg #[.bool rs, .int .i64 rn, .int .i64 re, .int .i64 rl, .int .i64 rns, .int .i64 rents]), (some 6, .pointer (some ⟨x, 0, none⟩))]) (fun x w' => Blk w' x 74 #[.bool rs, .int .i64 rn, .int .i64 re, .int .i64 rl, .int .i64 rns, .int .i64 rents] ∧ w3.heap.size ≤ x ∧ Keeps Nob w3 w') (Walk.reads [0, 1, 2, 3, 4, 5] (.two 6 ((.act 7 ((.act 8 (.nil))))) 7 ((.act 6 ((.act 8 (.nil))))))) 8 (fun W => W.cell? ⟨b, 0, none⟩ = some (.pointer (some ⟨p, 0, none⟩)) ∧ W.cell? ⟨P1, 1, none⟩ = some (.int .i64 a0) ∧ W.cell? ⟨P1, 2, none⟩ = some (.int .i64 a1) ∧ W.cell? ⟨P1, 3, none⟩ = some (.int .i64 a2) ∧ W.cell? ⟨P1, 4, none⟩ = some (.int .i64 a3) ∧ W.cell? ⟨P1, 5, none⟩ = some (.int .i64 a4)) (by kernel_rfl) (by kernel_rfl) (by decide) (by kernel_rfl) (fun _ _ d _ _ h => by cases d <;> exact h) ?_ ?_ ?_
  · exact ⟨cb, t1, t2, t3, t4, t5⟩
  · as_aux_lemma =>
    refine tree_at (fun v0 hw => ?_)
    have hk : Keeps Nob w3 v0 := by rw [hw]; exact Keeps.drew _ _
    have HC : Hid (v0.cell? ⟨b, 0, none⟩ = some (.pointer (some ⟨p, 0, none⟩)) ∧ v0.cell? ⟨P1, 1, none⟩ = some (.int .i64 a0) ∧ v0.cell? ⟨P1, 2, none⟩ = some (.int .i64 a1) ∧ v0.cell? ⟨P1, 3, none⟩ = some (.int .i64 a2) ∧ v0.cell? ⟨P1, 4, none⟩ = some (.int .i64 a3) ∧ v0.cell? ⟨P1, 5, none⟩ = some (.int .i64 a4)) := Lib.hid ⟨hk.cell cb id, hk.cell t1 id, hk.cell t2 id, hk.cell t3 id, hk.cell t4 id, hk.cell t5 id⟩
    have KT := Lib.hid hk
    clear hw hk cb t1 t2 t3 t4 t5
    unfold Walk.reads
    iterate 6
      refine wpTree_read (v := ?_) rfl (by rfl) ?_ ?_
      rotate_left
      · intro W hW
        try (obtain ⟨g1, g2, g3, g4, g5, g6⟩ : _ ∧ _ ∧ _ ∧ _ ∧ _ ∧ _ := hW)
        go_simp
        try rfl
      simp only [Act.put, List.setIfInBounds_toArray, List.set_cons_zero, List.set_cons_succ]
    refine wpTree_two rfl rfl ?_ ?_
    · go_wp2_with (go_at_call 31; refine (HFX.out _ KT.out).mono ?_; rintro e v1 ⟨rfl, hk⟩)
      replace HC : Hid (_ ∧ _ ∧ _ ∧ _ ∧ _ ∧ _) := Lib.hid ⟨hk.cell HC.out.1 id, hk.cell HC.out.2.1 id, hk.cell HC.out.2.2.1 id, hk.cell HC.out.2.2.2.1 id, hk.cell HC.out.2.2.2.2.1 id, hk.cell HC.out.2.2.2.2.2 id⟩
      replace KT := Lib.hid (KT.out.trans hk (fun _ _ h => h))
      clear hk
      refine ⟨.inr HC.out, ?_⟩
      refine wpTree_act rfl ?_
      go_wp2
      refine tree_at' (fun v2 hw => ?_)
      obtain ⟨N, hN⟩ : ∃ N, v1.heap.size = N := ⟨_, rfl⟩
      have hk : Keeps Nob v1 v2 := by rw [hw]; exact Keeps.alloc _ _ _
      have HB := Lib.hid (Blk.new v1 74 #[.bool false, .int .i64 0, .int .i64 0, .int .i64 0, .int .i64 0, .int .i64 0])
      rw [← hw, hN] at HB
      have HN : Hid (w3.heap.size ≤ N) := by rw [← hN]; exact Lib.hid KT.out.size
      replace HC : Hid (_ ∧ _ ∧ _ ∧ _ ∧ _ ∧ _) := Lib.hid ⟨hk.cell HC.out.1 id, hk.cell HC.out.2.1 id, hk.cell HC.out.2.2.1 id, hk.cell HC.out.2.2.2.1 id, hk.cell HC.out.2.2.2.2.1 id, hk.cell HC.out.2.2.2.2.2 id⟩
      replace KT := Lib.hid (KT.out.trans hk (fun _ _ h => h))
      clear hk hw
      rw [hN]
      clear hN
      refine ⟨.inr HC.out, ?_⟩
      refine wpTree_act rfl ?_
      have q0 := HB.out.cell 0
      have f0 := HB.out.frozen 0
      have q1 := HB.out.cell 1
      have f1 := HB.out.frozen 1
      have q2 := HB.out.cell 2
      have f2 := HB.out.frozen 2
      have q3 := HB.out.cell 3
      have f3 := HB.out.frozen 3
      have q4 := HB.out.cell 4
      have f4 := HB.out.frozen 4
      have q5 := HB.out.cell 5
      have f5 := HB.out.frozen 5
      go_wp2
      clear q0 f0 q1 f1 q2 f2 q3 f3 q4 f4 q5 f5
      refine tree_at' (fun v3 hw => ?_)
      have hk : Keeps (fun x => x = N) v2 v3 := by rw [hw]; exact (((((Keeps.setCell _ (M := fun x => x = N) rfl _).setCell' (fun _ => rfl) _).setCell' (fun _ => rfl) _).setCell' (fun _ => rfl) _).setCell' (fun _ => rfl) _).setCell' (fun _ => rfl) _
      have hb : Blk v3 N 74 #[.bool rs, .int .i64 rn, .int .i64 re, .int .i64 rl, .int .i64 rns, .int .i64 rents] := by rw [hw]; exact (((((HB.out.set_ 0 _).set_ 1 _).set_ 2 _).set_ 3 _).set_ 4 _).set_ 5 _
      clear hw
      refine ⟨.inl (by rfl), wpTree_nil ⟨N, by simp only [putsA, Act.put, List.setIfInBounds_toArray, List.set_cons_zero, List.set_cons_succ], hb, HN.out, KT.out.trans hk (fun x hx e => by have e2 : x = N := e; have h := HN.out; omega)⟩⟩
    · go_wp2
      refine tree_at' (fun v2 hw => ?_)
      obtain ⟨N, hN⟩ : ∃ N, v0.heap.size = N := ⟨_, rfl⟩
      have hk : Keeps Nob v0 v2 := by rw [hw]; exact Keeps.alloc _ _ _
      have HB := Lib.hid (Blk.new v0 74 #[.bool false, .int .i64 0, .int .i64 0, .int .i64 0, .int .i64 0, .int .i64 0])
      rw [← hw, hN] at HB
      have HN : Hid (w3.heap.size ≤ N) := by rw [← hN]; exact Lib.hid KT.out.size
      replace HC : Hid (_ ∧ _ ∧ _ ∧ _ ∧ _ ∧ _) := Lib.hid ⟨hk.cell HC.out.1 id, hk.cell HC.out.2.1 id, hk.cell HC.out.2.2.1 id, hk.cell HC.out.2.2.2.1 id, hk.cell HC.out.2.2.2.2.1 id, hk.cell HC.out.2.2.2.2.2 id⟩
      replace KT := Lib.hid (KT.out.trans hk (fun _ _ h => h))
      clear hk hw
      rw [hN]
      clear hN
      refine ⟨.inr HC.out, ?_⟩
      refine wpTree_act rfl ?_
      go_wp2_with (go_at_call 31; refine (HFX.out _ KT.out).mono ?_; rintro e v1 ⟨rfl, hk⟩)
      replace HC : Hid (_ ∧ _ ∧ _ ∧ _ ∧ _ ∧ _) := Lib.hid ⟨hk.cell HC.out.1 id, hk.cell HC.out.2.1 id, hk.cell HC.out.2.2.1 id, hk.cell HC.out.2.2.2.1 id, hk.cell HC.out.2.2.2.2.1 id, hk.cell HC.out.2.2.2.2.2 id⟩
      replace HB := Lib.hid (HB.out.keeps hk (fun h => h))
      replace KT := Lib.hid (KT.out.trans hk (fun _ _ h => h))
      clear hk
      refine ⟨.inr HC.out, ?_⟩
      refine wpTree_act rfl ?_
      have q0 := HB.out.cell 0
      have f0 := HB.out.frozen 0
      have q1 := HB.out.cell 1
      have f1 := HB.out.frozen 1
      have q2 := HB.out.cell 2
      have f2 := HB.out.frozen 2
      have q3 := HB.out.cell 3
      have f3 := HB.out.frozen 3
      have q4 := HB.out.cell 4
      have f4 := HB.out.frozen 4
      have q5 := HB.out.cell 5
      have f5 := HB.out.frozen 5
      go_wp2
      clear q0 f0 q1 f1 q2 f2 q3 f3 q4 f4 q5 f5
      refine tree_at' (fun v3 hw => ?_)
      have hk : Keeps (fun x => x = N) v1 v3 := by rw [hw]; exact (((((Keeps.setCell _ (M := fun x => x = N) rfl _).setCell' (fun _ => rfl) _).setCell' (fun _ => rfl) _).setCell' (fun _ => rfl) _).setCell' (fun _ => rfl) _).setCell' (fun _ => rfl) _
      have hb : Blk v3 N 74 #[.bool rs, .int .i64 rn, .int .i64 re, .int .i64 rl, .int .i64 rns, .int .i64 rents] := by rw [hw]; exact (((((HB.out.set_ 0 _).set_ 1 _).set_ 2 _).set_ 3 _).set_ 4 _).set_ 5 _
      clear hw
      refine ⟨.inl (by rfl), wpTree_nil ⟨N, by simp only [putsA, Act.put, List.setIfInBounds_toArray, List.set_cons_zero, List.set_cons_succ], hb, HN.out, KT.out.trans hk (fun x hx e => by have e2 : x = N := e; have h := HN.out; omega)⟩⟩
  clear cb t1 t2 t3 t4 t5
  rintro P6 w4 ⟨hb6, _, hk⟩
  have HB6 := Lib.hid hb6
  replace HB := Lib.hid (HB.out.keeps hk (fun h => h))
  replace K := Lib.hid (K.out.trans hk (fun _ _ h => h))
  replace HJ := Lib.hid (HJ.out.nob hk)
  clear hb6 hk HFX
  simp only [putsA, Act.put, List.setIfInBounds_toArray, List.set_cons_zero, List.set_cons_succ]
  go_upto_region 6 with (fail)
  have r0 := (HB6.out).cell 0
  rcases Bool.eq_false_or_eq_true rs with hrs | hrs
  rotate_left
  · subst hrs
    have hbad := checkM_bad (A := A) (a0 := a0) (a1 := a1) (a2 := a2) (a3 := a3) (a4 := a4)
    rw [HR.out] at hbad
    obtain ⟨hb1, hb2, hb3, hb4⟩ := hbad rfl
    simp only at hb1 hb2 hb3 hb4
    subst hb2 hb3 hb4
    have hne : (re != 0) = true := by simpa using hb1
    have r2 := (HB6.out).cell 2
    have r3 := (HB6.out).cell 3
    have r4 := (HB6.out).cell 4
    have r5 := (HB6.out).cell 5
    go_wp2
    go_ret
    exact ⟨rfl, K.out⟩
  subst hrs
  have hlen : A.sl.length ≤ 200 := by
    obtain ⟨_, _, M, D, _, ⟨L, xs, h⟩, _⟩ := HJ.out.mem
    have h1 := h.bound; have h2 := HNN.out; omega
  have hgood := checkM_good (A := A) (a0 := a0) (a1 := a1) (a2 := a2) (a3 := a3) (a4 := a4) (by rw [HR.out]) hlen
  rw [HR.out] at hgood
  simp only at hgood
  obtain ⟨hg1, hg2, hg3, hg4, hg5, hg6⟩ := hgood
  obtain ⟨R, hRR⟩ : ∃ R, mapOf A = R := ⟨_, rfl⟩
  rw [hRR] at hg3 hg4 hg5 hg6
  subst hg1 hg2 hg3
  have FX : Calls Try.prog 32 #[pV p] w4 fun e w' => ∃ v, e = .returned v ∧ PMapAt w' (Fresh w4 w') v R ∧ Keeps Nob w4 w' := by
    obtain ⟨M, D, _, _, ⟨sl, ids, h⟩, _⟩ := HJ.out.mem
    exact pmapR h HJ.out.smA HWW.out HRT.out hRR (by omega)
  have HRI := Lib.hid hg4
  have HFO := Lib.hid hg6
  have s0 : w4.cell? ⟨b, 0, none⟩ = some (.pointer (some ⟨p, 0, none⟩)) := HJ.out.blk.cell 0
  unfold pV at FX
  clear hg4 hg6 hRR hlen HR HNN
  go_wp2_with fail
  clear s0 r0
  refine FX.mono ?_
  rintro e w5 ⟨v, rfl, hm, hk⟩
  replace HB6 := Lib.hid (HB6.out.keeps hk (fun h => h))
  replace K := Lib.hid (K.out.trans hk (fun _ _ h => h))
  replace HJ := Lib.hid (HJ.out.nob hk)
  obtain ⟨l, ho, hl, hlR⟩ := hm
  have hll : l.length = R.length := by rw [← hlR, List.length_map]
  obtain ⟨n, hn⟩ : ∃ n, R.length = n := ⟨_, rfl⟩
  rw [hn] at hll hg5
  rw [hll] at ho
  obtain ⟨vA, vc, ev⟩ := ho.form
  subst ev
  have HOW := Lib.hid ho
  have HL : Hid (∀ x ∈ l, Byts w5 (Fresh w4 w5) x.kv x.k ∧ Byts w5 (Fresh w4 w5) x.vv x.v) := fun x hx => ⟨(hl x hx).1.r, (hl x hx).2.r⟩
  have HLR := Lib.hid hlR
  have HLL := Lib.hid hll
  have HN := Lib.hid hn
  have r1 := (HB6.out).cell 1
  have r2 := (HB6.out).cell 2
  have r5 := (HB6.out).cell 5
  rw [hn] at r5
  have hnn : ((n : Int) != (n : Int)) = false := by simp
  clear ho hl hlR hll hn hk FX
  go_wp2
  clear r1 r2 r5 hnn
  go_loopw [8] (fun i wr => ∃ k : Nat, k ≤ n ∧ i = .int .i64 k ∧ Keeps Nob w5 wr) (fun i _ => n - (intOf i).toNat)
  case atStart => exact ⟨0, Nat.zero_le _, rfl, Keeps.refl _ _⟩
  obtain ⟨k, hk, rfl, hkr⟩ := hrel
  have KT := Lib.hid hkr
  clear hkr
  rcases Nat.lt_or_ge k n with hlt | hlt
  rotate_left
  · obtain rfl : k = n := by omega
    go_wp2
    go_ret
    exact ⟨rfl, K.out.trans KT.out (fun _ _ h => h)⟩
  obtain ⟨x, hx⟩ : ∃ x, l[k]? = some x := ⟨_, List.getElem?_eq_getElem (by have := HLL.out; omega)⟩
  obtain ⟨g, o, eA, c0, c1⟩ := enAt HOW.out HLL.out hx
  subst eA
  obtain ⟨t1, t2⟩ := HL.out x (List.mem_of_getElem? hx)
  obtain ⟨xkv, xvv, xk, xv⟩ := x
  simp only at t1 t2 c0 c1
  obtain ⟨A1, d1, rfl, _, _⟩ := t1.form
  obtain ⟨A2, d2, rfl, _, _⟩ := t2.form
  replace c0 := KT.out.cell c0 id
  replace c1 := KT.out.cell c1 id
  have hRk : R[k]? = some (xk, xv) := by rw [← HLR.out, List.getElem?_map, hx]; rfl
  have HF : Hid (foundM A xk xv 200 A.root = true) := HFO.out (xk, xv) (List.mem_of_getElem? hRk)
  have T1 := Lib.hid (t1.keeps KT.out (fun _ _ _ h => h))
  have T2 := Lib.hid (t2.keeps KT.out (fun _ _ _ h => h))
  have C0 := Lib.hid (And.intro c0 c1)
  clear t1 t2 c0 c1 hx
  have HP : Hid (∀ k', k = k' + 1 → ∃ yk B1 e1, wr.cell? ⟨g, o + k' * 2, none⟩ = some (.slice B1 yk.length e1) ∧ Byts wr (Fresh w4 w5) (.slice B1 yk.length e1) yk ∧ cmp yk xk = -1) := Lib.hid (fun k' hk' => by
    obtain ⟨y, hy⟩ : ∃ y, l[k']? = some y := ⟨_, List.getElem?_eq_getElem (by have := HLL.out; omega)⟩
    obtain ⟨g', o', eB, b0, b1⟩ := enAt HOW.out HLL.out hy
    injection eB with eB
    injection eB with e1 e2
    subst e1 e2
    obtain ⟨u1, u2⟩ := HL.out y (List.mem_of_getElem? hy)
    obtain ⟨ykv, yvv, yk, yv⟩ := y
    simp only at u1 u2 b0 b1
    obtain ⟨B1, e1, rfl, _, _⟩ := u1.form
    refine ⟨yk, B1, e1, KT.out.cell b0 id, u1.keeps KT.out (fun _ _ _ h => h), ?_⟩
    have h1 : (R.map Prod.fst)[k']? = some yk := by rw [List.getElem?_map, ← HLR.out, List.getElem?_map, hy]; rfl
    have h2 : (R.map Prod.fst)[k' + 1]? = some xk := by rw [← hk', List.getElem?_map, hRk]; rfl
    have h3 := HRI.out k' yk xk h1 h2
    rcases cmp_cases yk xk with h | h | h <;> omega)
  clear hRk
  go_upto_region 14 with (fail)
  have hp1 : (k : Int) < (n : Int) := by omega
  rcases k with _ | k
  · replace C0 : Hid (wr.cell? ⟨g, o, none⟩ = some (.slice A1 xk.length d1) ∧ wr.cell? ⟨g, o + 1, none⟩ = some (.slice A2 xv.length d2)) := Lib.hid (by have h := C0.out; simp only [Nat.zero_mul, Nat.add_zero] at h; exact h)
    have hg1 : decide (((0 : Nat) : Int) > 0) = false := by decide
    refine wp_region_canon [0, 1, 2, 3, 4, 5, 6, 7, 8, 9, 10, 11, 12, 13, 14, 15, 16] 17 (fun _ => True) (by kernel_rfl) (by kernel_rfl) rfl (by kernel_rfl) (fun _ _ d _ _ h => by cases d <;> exact h) trivial ?_
    refine canon_at (fun v9 hw => ?_)
    have hk9 : Keeps Nob wr v9 := by rw [hw]; exact Keeps.drew _ _
    replace KT := Lib.hid (KT.out.trans hk9 (fun _ _ h => h))
    replace C0 := Lib.hid (And.intro (hk9.cell C0.out.1 id) (hk9.cell C0.out.2 id))
    replace T1 := Lib.hid (T1.out.keeps hk9 (fun _ _ _ h => h))
    replace T2 := Lib.hid (T2.out.keeps hk9 (fun _ _ _ h => h))
    clear hw hk9
    iterate 14
        first
          | refine wpCanon_skip rfl (by kernel_rfl) (by rfl) ?_
          | (refine wpCanon_read (v := ?_) rfl (by kernel_rfl) (by rfl) ?_ ?_
             rotate_left
             · intro W hW
               try (obtain ⟨g1, g2⟩ : _ ∧ _ := hW)
               go_simp
               try simp only [hg1, if_pos hp1]
               try rfl)
        simp only [Act.put, List.setIfInBounds_toArray, List.set_cons_zero, List.set_cons_succ]
    refine wpCanon_act rfl (by kernel_rfl) ?_
    go_wp2
    refine ⟨.inr trivial, ?_⟩
    iterate 2
        first
          | refine wpCanon_skip rfl (by kernel_rfl) (by rfl) ?_
          | (refine wpCanon_read (v := ?_) rfl (by kernel_rfl) (by rfl) ?_ ?_
             rotate_left
             · intro W hW
               try (obtain ⟨g1, g2⟩ : _ ∧ _ := hW)
               go_simp
               try simp only [hg1, if_pos hp1]
               try rfl)
        simp only [Act.put, List.setIfInBounds_toArray, List.set_cons_zero, List.set_cons_succ]
    refine wpCanon_nil ?_
    go_upto_region 16 with (fail)
    have s0 : v9.cell? ⟨b, 0, none⟩ = some (.pointer (some ⟨p, 0, none⟩)) := (HJ.out.nob KT.out).blk.cell 0
    refine wp_region_canon [0, 1, 2, 3, 4, 5, 6, 7, 8, 9] 10 (fun W => W.cell? ⟨b, 0, none⟩ = some (.pointer (some ⟨p, 0, none⟩)) ∧ W.cell? ⟨g, o, none⟩ = some (.slice A1 xk.length d1) ∧ W.cell? ⟨g, o + 1, none⟩ = some (.slice A2 xv.length d2)) (by kernel_rfl) (by kernel_rfl) rfl (by kernel_rfl) (fun _ _ d _ _ h => by cases d <;> exact h) ⟨s0, C0.out.1, C0.out.2⟩ ?_
    refine canon_at (fun v0 hw => ?_)
    have hk9 : Keeps Nob v9 v0 := by rw [hw]; exact Keeps.drew _ _
    replace KT := Lib.hid (KT.out.trans hk9 (fun _ _ h => h))
    replace C0 := Lib.hid (And.intro (hk9.cell C0.out.1 id) (hk9.cell C0.out.2 id))
    replace T1 := Lib.hid (T1.out.keeps hk9 (fun _ _ _ h => h))
    replace T2 := Lib.hid (T2.out.keeps hk9 (fun _ _ _ h => h))
    clear hw hk9 s0
    iterate 8
        first
          | refine wpCanon_skip rfl (by kernel_rfl) (by rfl) ?_
          | (refine wpCanon_read (v := ?_) rfl (by kernel_rfl) (by rfl) ?_ ?_
             rotate_left
             · intro W hW
               try (obtain ⟨g1, g2, g3⟩ : _ ∧ _ ∧ _ := hW)
               go_simp
               try simp only [if_pos hp1]
               try rfl)
        simp only [Act.put, List.setIfInBounds_toArray, List.set_cons_zero, List.set_cons_succ]
    refine wpCanon_act rfl (by kernel_rfl) ?_
    have FD : Calls Try.prog 37 #[pV p, .agg #[.slice A1 xk.length d1, .slice A2 xv.length d2]] v0 fun e w' => e = .returned (.bool true) ∧ Keeps Nob v0 w' := by
      obtain ⟨M, D, _, _, ⟨sl, ids, h⟩, _⟩ := (HJ.out.nob KT.out).mem
      exact foundR h HJ.out.smA T1.out T2.out HF.out
    unfold pV at FD
    go_wp2_with (go_at_call 37; refine FD.mono ?_; rintro e v1 ⟨rfl, hk9⟩)
    replace KT := Lib.hid (KT.out.trans hk9 (fun _ _ h => h))
    refine ⟨.inr ⟨(HJ.out.nob KT.out).blk.cell 0, hk9.cell C0.out.1 id, hk9.cell C0.out.2 id⟩, ?_⟩
    clear hk9 FD
    iterate 1
        first
          | refine wpCanon_skip rfl (by kernel_rfl) (by rfl) ?_
          | (refine wpCanon_read (v := ?_) rfl (by kernel_rfl) (by rfl) ?_ ?_
             rotate_left
             · intro W hW
               try (obtain ⟨g1, g2, g3⟩ : _ ∧ _ ∧ _ := hW)
               go_simp
               try simp only [if_pos hp1]
               try rfl)
        simp only [Act.put, List.setIfInBounds_toArray, List.set_cons_zero, List.set_cons_succ]
    refine wpCanon_nil ?_
    go_wp2
    go_roundw
    case rel => exact ⟨0 + 1, by omega, by go_num, KT.out⟩
    case measure => simp [intOf]; omega
  · obtain ⟨yk, B1, e1, b0, ub, hcm⟩ := HP.out k rfl
    have hg1 : decide (((k + 1 : Nat) : Int) > 0) = true := decide_eq_true (by omega)
    have hg2 : decide ((0 : Int) < ((k + 1 : Nat) : Int)) = true := decide_eq_true (by omega)
    have hp0 : (k : Int) < (n : Int) := by omega
    have hwr : IntKind.i64.wrap (k : Int) = (k : Int) := by rw [IntKind.wrap_i64]; omega
    have hp2 : (k : Int) + 1 < (n : Int) := by omega
    have hto : ((k : Int) + 1).toNat = k + 1 := by omega
    have HC := Lib.hid (cmpR (ub.keeps (Keeps.drew Nob wr) (fun _ _ _ h => h)) (T1.out.keeps (Keeps.drew Nob wr) (fun _ _ _ h => h)))
    rw [hcm] at HC
    refine wp_region_canon [0, 1, 2, 3, 4, 5, 6, 7, 8, 9, 10, 11, 12, 13, 14, 15, 16] 17 (fun W => W.cell? ⟨g, o + k * 2, none⟩ = some (.slice B1 yk.length e1) ∧ W.cell? ⟨g, o + (k + 1) * 2, none⟩ = some (.slice A1 xk.length d1)) (by kernel_rfl) (by kernel_rfl) rfl (by kernel_rfl) (fun _ _ d _ _ h => by cases d <;> exact h) ⟨b0, C0.out.1⟩ ?_
    iterate 14
        first
          | refine wpCanon_skip rfl (by kernel_rfl) (by rfl) ?_
          | (refine wpCanon_read (v := ?_) rfl (by kernel_rfl) (by rfl) ?_ ?_
             rotate_left
             · intro W hW
               try (obtain ⟨g1, g2⟩ : _ ∧ _ := hW)
               go_simp
               try simp only [hg1, hg2, hwr, hto, Int.natCast_nonneg, true_and, Int.toNat_natCast, if_pos hp1, if_pos hp0, if_pos hp2]
               try rfl)
        simp only [Act.put, List.setIfInBounds_toArray, List.set_cons_zero, List.set_cons_succ]
    refine wpCanon_act rfl (by kernel_rfl) ?_
    go_wp2_with (go_at_call 29; refine HC.out.mono ?_; rintro e v9 ⟨rfl, hk3⟩)
    have hk9 : Keeps Nob wr v9 := (Keeps.drew Nob wr).trans hk3 (fun _ _ h => h)
    replace KT := Lib.hid (KT.out.trans hk9 (fun _ _ h => h))
    replace C0 := Lib.hid (And.intro (hk9.cell C0.out.1 id) (hk9.cell C0.out.2 id))
    replace T1 := Lib.hid (T1.out.keeps hk9 (fun _ _ _ h => h))
    replace T2 := Lib.hid (T2.out.keeps hk9 (fun _ _ _ h => h))
    refine ⟨.inr ⟨hk9.cell b0 id, C0.out.1⟩, ?_⟩
    clear hk3 hk9 b0 ub hcm HC
    iterate 2
        first
          | refine wpCanon_skip rfl (by kernel_rfl) (by rfl) ?_
          | (refine wpCanon_read (v := ?_) rfl (by kernel_rfl) (by rfl) ?_ ?_
             rotate_left
             · intro W hW
               try (obtain ⟨g1, g2⟩ : _ ∧ _ := hW)
               go_simp
               try simp only [hg1, hg2]
               try rfl)
        simp only [Act.put, List.setIfInBounds_toArray, List.set_cons_zero, List.set_cons_succ]
    refine wpCanon_nil ?_
    go_upto_region 16 with (fail)
    have s0 : v9.cell? ⟨b, 0, none⟩ = some (.pointer (some ⟨p, 0, none⟩)) := (HJ.out.nob KT.out).blk.cell 0
    refine wp_region_canon [0, 1, 2, 3, 4, 5, 6, 7, 8, 9] 10 (fun W => W.cell? ⟨b, 0, none⟩ = some (.pointer (some ⟨p, 0, none⟩)) ∧ W.cell? ⟨g, o + (k + 1) * 2, none⟩ = some (.slice A1 xk.length d1) ∧ W.cell? ⟨g, o + (k + 1) * 2 + 1, none⟩ = some (.slice A2 xv.length d2)) (by kernel_rfl) (by kernel_rfl) rfl (by kernel_rfl) (fun _ _ d _ _ h => by cases d <;> exact h) ⟨s0, C0.out.1, C0.out.2⟩ ?_
    refine canon_at (fun v0 hw => ?_)
    have hk9 : Keeps Nob v9 v0 := by rw [hw]; exact Keeps.drew _ _
    replace KT := Lib.hid (KT.out.trans hk9 (fun _ _ h => h))
    replace C0 := Lib.hid (And.intro (hk9.cell C0.out.1 id) (hk9.cell C0.out.2 id))
    replace T1 := Lib.hid (T1.out.keeps hk9 (fun _ _ _ h => h))
    replace T2 := Lib.hid (T2.out.keeps hk9 (fun _ _ _ h => h))
    clear hw hk9 s0
    iterate 8
        first
          | refine wpCanon_skip rfl (by kernel_rfl) (by rfl) ?_
          | (refine wpCanon_read (v := ?_) rfl (by kernel_rfl) (by rfl) ?_ ?_
             rotate_left
             · intro W hW
               try (obtain ⟨g1, g2, g3⟩ : _ ∧ _ ∧ _ := hW)
               go_simp
               try simp only [if_pos hp1, if_pos hp2, hto]
               try rfl)
        simp only [Act.put, List.setIfInBounds_toArray, List.set_cons_zero, List.set_cons_succ]
    refine wpCanon_act rfl (by kernel_rfl) ?_
    have FD : Calls Try.prog 37 #[pV p, .agg #[.slice A1 xk.length d1, .slice A2 xv.length d2]] v0 fun e w' => e = .returned (.bool true) ∧ Keeps Nob v0 w' := by
      obtain ⟨M, D, _, _, ⟨sl, ids, h⟩, _⟩ := (HJ.out.nob KT.out).mem
      exact foundR h HJ.out.smA T1.out T2.out HF.out
    unfold pV at FD
    go_wp2_with (go_at_call 37; refine FD.mono ?_; rintro e v1 ⟨rfl, hk9⟩)
    replace KT := Lib.hid (KT.out.trans hk9 (fun _ _ h => h))
    refine ⟨.inr ⟨(HJ.out.nob KT.out).blk.cell 0, hk9.cell C0.out.1 id, hk9.cell C0.out.2 id⟩, ?_⟩
    clear hk9 FD
    iterate 1
        first
          | refine wpCanon_skip rfl (by kernel_rfl) (by rfl) ?_
          | (refine wpCanon_read (v := ?_) rfl (by kernel_rfl) (by rfl) ?_ ?_
             rotate_left
             · intro W hW
               try (obtain ⟨g1, g2, g3⟩ : _ ∧ _ ∧ _ := hW)
               go_simp
               try simp only [if_pos hp1, if_pos hp2, hto]
               try rfl)
        simp only [Act.put, List.setIfInBounds_toArray, List.set_cons_zero, List.set_cons_succ]
    refine wpCanon_nil ?_
    go_wp2
    go_roundw
    case rel => exact ⟨(k + 1) + 1, by omega, by go_num, KT.out⟩
    case measure => simp [intOf]; omega
end
end Go.Proofs.Ytbhohohgojcapaa
