/- DescentAlone walked: in a tree that is sound a descent is through in time, where the key belongs. -/
import Derived.Test.YtbhohohgojcapaaSameN
import Derived.Test.YtbhohohgojcapaaHead12
import Derived.Test.YtbhohohgojcapaaPick12
import Derived.Test.YtbhohohgojcapaaRaws
import Derived.Test.YtbhohohgojcapaaLevC
import Derived.Test.YtbhohohgojcapaaDesRt
import Derived.Test.YtbhohohgojcapaaTreeM
import Derived.Test.YtbhohohgojcapaaFams
import Derived.Test.YtbhohohgojcapaaTree
import Derived.BigQuiet
namespace Go.Proofs.Ytbhohohgojcapaa
open Go.RowKit

theorem LvsAt.keeps {w w' : World} {F D N : Nat → Prop} {v : Value} {ls : List Ch} (h : LvsAt w F D v ls) (k : Keeps N w w') (hF : ∀ x, x < w.heap.size → (F x ∨ D x) → ¬ N x) : LvsAt w' F D v ls := by
  obtain ⟨lds, h1, h2, h3⟩ := h
  exact ⟨lds, h1, h2.keeps k (fun x hx hf => hF x hx (.inl hf)), fun d hd => ⟨(ldOb D d).fr _ _ _ (h3 d hd).1 k (fun x hx hf => hF x hx (hf.imp ((h3 d hd).2 x) (fun h => h))), (h3 d hd).2⟩⟩
theorem LvsAt.mono {w : World} {F F' D : Nat → Prop} {v : Value} {ls : List Ch} (h : LvsAt w F D v ls) (hF : ∀ x, F x → F' x) : LvsAt w F' D v ls := by
  obtain ⟨lds, h1, h2, h3⟩ := h
  exact ⟨lds, h1, h2.mono (fun x _ => hF x), fun d hd => ⟨(h3 d hd).1, fun x hx => hF x ((h3 d hd).2 x hx)⟩⟩
theorem runM_le (A : Ar) {M : Mc} (h : M.le 0) : ∀ n, (runM A n M).le n
  | 0 => h
  | n + 1 => by rw [runM_snoc]; exact (runM_le A h n).step A
theorem stepM_key_ (A : Ar) (M : Mc) : (stepM A M).key = M.key := by
  have d : ∀ n (M : Mc), (decideM n M).key = M.key := fun n M => by
    unfold decideM
    repeat' split
    all_goals rfl
  unfold stepM
  split
  · rfl
  · rfl
  · split <;> rfl
  · split <;> rfl
  · split <;> rfl
  · split
    · exact d _ _
    · rfl
theorem runM_key (A : Ar) : ∀ (n : Nat) (M : Mc), (runM A n M).key = M.key
  | 0, _ => rfl
  | n + 1, M => by rw [runM_snoc, stepM_key_, runM_key A n M]
theorem stepM_done (A : Ar) {M : Mc} (h : M.nx = .done) : stepM A M = M := by unfold stepM; rw [h]
theorem TreeOk.lv32 {A : Ar} {a0 a1 a2 lv : Int} {chk : Nd → Int} {ls : List Ch} (h : TreeOk A a0 a1 a2 chk lv ls) : lv ≤ 32 ∧ (ls.length : Int) = lv + 1 := by
  have hl := h.trs.length
  refine ⟨?_, hl⟩
  have ht := h.trs
  have g : ∀ {id low c}, Chn A chk lv id low c → lv ≤ 32 := fun hc => by
    obtain ⟨s, _, _, _, h1, h2, _⟩ := hc.at_
    have := (h.may _ h2).lvl
    omega
  cases ht with
  | base g1 _ => exact g g1
  | step _ g1 _ _ => exact g g1
/-- A slot of the document's arena, word and node. -/
theorem DocW.slot_ {w : World} {M D : Nat → Prop} {q : Nat} {L : Value} {xs : List Value} {A : Ar} (h : DocW w M D q L xs A) {ix : Int} {s : Sl} (hg : A.get ix = some s) : ∃ i g o c : Nat, ix = (i : Int) + 1 ∧ i < A.sl.length ∧ A.sl.length ≤ 65536 ∧ L = .slice (some ⟨g, o, none⟩) A.sl.length c ∧ w.cell? ⟨g, o + i * 7, none⟩ = some (.int .u64 s.word) ∧ ∃ X1 k1 X3 k3 X4 k4 X5 k5,
    w.cell? ⟨g, o + i * 7 + 1, none⟩ = some (.int .i64 s.nd.lvl) ∧ w.cell? ⟨g, o + i * 7 + 2, none⟩ = some (.slice X1 s.nd.high.length k1) ∧ w.cell? ⟨g, o + i * 7 + 3, none⟩ = some (.int .i64 s.nd.right) ∧ w.cell? ⟨g, o + i * 7 + 4, none⟩ = some (.slice X3 s.nd.keys.length k3) ∧ w.cell? ⟨g, o + i * 7 + 5, none⟩ = some (.slice X4 s.nd.vals.length k4) ∧ w.cell? ⟨g, o + i * 7 + 6, none⟩ = some (.slice X5 s.nd.kids.length k5) ∧
    IsNd w D (.int .i64 s.nd.lvl) (.slice X1 s.nd.high.length k1) (.int .i64 s.nd.right) (.slice X3 s.nd.keys.length k3) (.slice X4 s.nd.vals.length k4) (.slice X5 s.nd.kids.length k5) s.nd := by
  obtain ⟨i, h1, h2, h3⟩ := get_some hg
  have hlt : i < A.sl.length := (List.getElem?_eq_some_iff.1 h2).1
  obtain ⟨g, o, c, e, hm, ⟨cur, hb⟩, hc⟩ := h.form (by omega)
  obtain ⟨c0, c1, c2, c3, c4, c5, g0, g1, g2, g3, g4, g5, g6, hnd, g8⟩ := h.slot i s h2
  have hbd := h.bound
  obtain ⟨X1, k1, e1, _, _⟩ := hnd.1.high.form
  obtain ⟨X3, k3, e3, _, _⟩ := hnd.2.keys.form
  obtain ⟨X4, k4, e4, _, _⟩ := hnd.2.vals.form
  obtain ⟨X5, k5, e5, _, _⟩ := hnd.2.kids.form
  have e0 := hnd.1.lvl
  have e2 := hnd.1.right
  unfold iV at e0 e2
  subst e0 e1 e2 e3 e4 e5
  exact ⟨i, g, o, c, h1, hlt, by omega, e, hc _ _ g0, X1, k1, X3, k3, X4, k4, X5, k5, hc _ _ g1, hc _ _ g2, hc _ _ g3, hc _ _ g4, hc _ _ g5, hc _ _ g6, hnd⟩
/-- The first of a chain with a number. -/
theorem ch_uniq {c : Ch} {id : Int} {low : List UInt8} (h : (c.map Prod.fst).Nodup) (hm : (id, low) ∈ c) {i : Nat} {e : Int × List UInt8} (hi : c[i]? = some e) (he : e.1 = id) : e.2 = low := by
  obtain ⟨j, hj⟩ := List.mem_iff_getElem?.1 hm
  have hij : i = j := by
    have h1 : (c.map Prod.fst)[i]? = some id := by rw [List.getElem?_map, hi, ← he]; rfl
    have h2 : (c.map Prod.fst)[j]? = some id := by rw [List.getElem?_map, hj]; rfl
    have hl : i < (c.map Prod.fst).length := (List.getElem?_eq_some_iff.1 h1).1
    exact (List.getElem?_inj hl h).1 (h1.trans h2.symm)
  subst hij
  rw [hi] at hj; cases hj; rfl
section
variable {w : World} {os : List OpM} {v kv : Value} {key : List UInt8} {a0 a1 a2 a3 a4 lev : Int}
set_option maxRecDepth 100000 in
set_option maxHeartbeats 64000000 in
theorem dalone_ok (h : OpsAt w w.heap.size v os) (hkey : Byts w (fun b => b < w.heap.size) kv key) (hsm : Sm 0 1 key.length) (hlev : I64 lev) :
    Calls Try.prog 5 #[.agg #[v, .int .i64 a0, .int .i64 a1, .int .i64 a2, .int .i64 a3, .int .i64 a4, kv, .int .i64 lev]] w fun e w' => e = .returned (.bool true) ∧ Keeps Nob w w' := by
  have HO := Lib.hid h
  have HKEY := Lib.hid hkey
  have HSM : Hid (Sm 0 1 key.length) := hsm
  obtain ⟨SA, sc, hv, hc1, hc2, hc3, _⟩ := h
  obtain ⟨KA, kc, ek, _, _⟩ := hkey.form
  subst hv ek
  have HH := fun wx => head12 wx
  have HB := fun wx => begunJ (n := 40) wx (by decide) (by decide)
  have HLEV : Hid (I64 lev) := hlev
  clear hc1 hc2 hkey hsm hlev
  unfold iV pV at *
  go_enter Try.func5, Try.ntmps5
  go_wp2_with fail
  refine calls_at (fun w1 hw => ?_)
  obtain ⟨P1, hP⟩ : ∃ N, w.heap.size = N := ⟨_, rfl⟩
  rw [hP]
  have B1 : Hid (Blk w1 P1 71 #[.slice SA os.length sc, .int .i64 a0, .int .i64 a1, .int .i64 a2, .int .i64 a3, .int .i64 a4, .slice KA key.length kc, .int .i64 lev]) := by show Blk _ _ _ _; rw [hw, ← hP]; exact Blk.new _ _ _
  have K : Hid (Keeps Nob w w1) := by show Keeps _ _ _; rw [hw]; exact Keeps.alloc _ _ _
  clear hw
  refine (HH w1).mono ?_
  rintro e w2 ⟨rfl, hk⟩
  replace B1 := Lib.hid (B1.out.keeps hk (fun h => h))
  replace K := Lib.hid (K.out.trans hk (fun _ _ h => h))
  have HP : Hid (P1 < w2.heap.size ∧ w.heap.size ≤ w2.heap.size) := ⟨B1.out.lt, K.out.size⟩
  clear hk hP HH
  go_wp2_with (go_at_call 10; refine (HB _).mono ?_; rintro e w3 ⟨b, p, q, rfl, hj, hk⟩; have HJ := Lib.hid hj; have KB := Lib.hid hk; replace B1 := Lib.hid (B1.out.keeps hk (fun h => h)); clear hj hk)
  clear HB
  go_loopw [6] (fun i wr => ∃ k : Nat, k ≤ os.length ∧ i = .int .i64 k ∧ J wr (From w2.heap.size) b p q (steps (ar0 40) (os.take k)) (steps (ar0 40) (os.take k)) ∧ Keeps Nob w2 wr ∧ Blk wr P1 71 #[.slice SA os.length sc, .int .i64 a0, .int .i64 a1, .int .i64 a2, .int .i64 a3, .int .i64 a4, .slice KA key.length kc, .int .i64 lev]) (fun i _ => os.length - (intOf i).toNat)
  case atStart => exact ⟨0, Nat.zero_le _, rfl, HJ.out, KB.out, B1.out⟩
  clear HJ KB B1
  obtain ⟨k, hk, rfl, hj, hkr, hb1⟩ := hrel
  have B1 := Lib.hid hb1
  have KB := Lib.hid hkr
  have c0 := hb1.cell 0
  have c1 := hb1.lt
  clear hb1 hkr
  have hk64 : k < 9223372036854775807 := by omega
  rcases Nat.lt_or_ge k os.length with hlt | hlt
  · as_aux_lemma =>
    obtain ⟨o, ho⟩ : ∃ o, os[k]? = some o := ⟨_, List.getElem?_eq_getElem hlt⟩
    have hst : steps (ar0 40) (os.take (k + 1)) = step (steps (ar0 40) (os.take k)) o := by rw [take_snoc' _ _ _ ho, steps_snoc]
    have HST := Lib.hid hst
    obtain ⟨ad, e0, e1, e2, e3, e4, e5, rfl, hop, q0, q1, q2, q3, q4, q5, q6, q7, q8, q9, q10⟩ := (HO.out.keeps (K.out.trans KB.out (fun _ _ h => h)) (fun _ _ => id)).at_ ho
    have HR := Lib.hid (rawJ hj hop (fun x hx hg => by have h1 := HP.out; have h2 : w2.heap.size ≤ x := hg; omega))
    clear hop ho hj hst
    unfold pV at HR
    go_wp2_with fail
    refine HR.out.mono ?_
    rintro e wk ⟨rfl, hj, hk2⟩
    have HJ2 := Lib.hid hj
    replace KB := Lib.hid (KB.out.trans hk2 (fun x hx hg => absurd hx (Nat.not_lt.2 hg)))
    replace B1 := Lib.hid (B1.out.keeps hk2 (fun hg => by have h1 := HP.out; have h2 : w2.heap.size ≤ P1 := hg; omega))
    clear hj hk2
    go_wp2
    go_roundw
    case rel => exact ⟨k + 1, by omega, by go_num, by rw [HST.out]; exact HJ2.out, KB.out, B1.out⟩
    case measure => simp [intOf]; omega
  obtain rfl : k = os.length := by omega
  rw [List.take_length] at hj
  replace K := Lib.hid (K.out.trans KB.out (fun _ _ h => h))
  clear KB HO hc3
  generalize steps (ar0 40) os = A at *
  have HJ := Lib.hid hj
  clear hj hk hk64 hlt
  as_aux_lemma =>
  -- Levels
  obtain ⟨ls, R, hR⟩ : ∃ ls R, levelsM A a0 a1 a2 a3 a4 = (ls, R) := ⟨_, _, rfl⟩
  have HR := Lib.hid hR
  clear hR
  obtain ⟨M1, D1, M', D', _, ⟨L, xs, hY⟩, _, _, h3⟩ := HJ.out.mem
  have HD : Hid (∀ x, D' x → x < wr.heap.size) := hY.dlt
  have HDG : Hid (∀ x, D' x → From w2.heap.size x) := fun x hx => h3 x (.inr hx)
  have HY := Lib.hid hY
  clear hY h3
  have s1 := HJ.out.blk.cell 1
  have t0 := B1.out.cell 1
  have t1 := B1.out.cell 2
  have t2 := B1.out.cell 3
  have t3 := B1.out.cell 4
  have t4 := B1.out.cell 5
  unfold pV at s1
  go_wp2
  obtain ⟨rs, rn, re, rl, rns, rents⟩ := R
  refine wp_region_treeV (X := Value × Nat) (fun x => [(some 54, .pointer (some ⟨b, 0, none⟩)), (some 55, .pointer (some ⟨b, 0, none⟩)), (some 56, .pointer (some ⟨b, 1, none⟩)), (some 57, .pointer (some ⟨q, 0, none⟩)), (some 58, .pointer (some ⟨P1, 1, none⟩)), (some 59, .agg #[.int .i64 a0, .int .i64 a1, .int .i64 a2, .int .i64 a3, .int .i64 a4]), (some 60, .tuple #[x.1, .agg #[.bool rs, .int .i64 rn, .int .i64 re, .int .i64 rl, .int .i64 rns, .int .i64 rents]]), (some 53, .tuple #[x.1, .agg #[.bool rs, .int .i64 rn, .int .i64 re, .int .i64 rl, .int .i64 rns, .int .i64 rents]]), (some 61, x.1), (some 62, .agg #[.bool rs, .int .i64 rn, .int .i64 re, .int .i64 rl, .int .i64 rns, .int .i64 rents]), (some 8, .pointer (some ⟨x.2, 0, none⟩)), (some 7, x.1)]) (fun x w' => LvsAt w' (From wr.heap.size) D' x.1 ls ∧ Blk w' x.2 74 #[.bool rs, .int .i64 rn, .int .i64 re, .int .i64 rl, .int .i64 rns, .int .i64 rents] ∧ Keeps Nob wr w') (Walk.reads [0, 1, 2, 3, 4, 5] (.two 6 (Walk.reads [7, 8, 9] (.act 10 (Walk.reads [11] (.act 12 (.nil))))) 10 ((.act 6 (Walk.reads [7, 8, 9, 11] (.act 12 (.nil))))))) 12 (fun W => W.cell? ⟨b, 1, none⟩ = some (.pointer (some ⟨q, 0, none⟩)) ∧ W.cell? ⟨P1, 1, none⟩ = some (.int .i64 a0) ∧ W.cell? ⟨P1, 2, none⟩ = some (.int .i64 a1) ∧ W.cell? ⟨P1, 3, none⟩ = some (.int .i64 a2) ∧ W.cell? ⟨P1, 4, none⟩ = some (.int .i64 a3) ∧ W.cell? ⟨P1, 5, none⟩ = some (.int .i64 a4)) (by kernel_rfl) (by kernel_rfl) (of_decide_eq_true (by kernel_rfl)) (by kernel_rfl) (fun _ _ d _ _ h => by cases d <;> exact h) ⟨s1, t0, t1, t2, t3, t4⟩ ?_ ?_
  · as_aux_lemma =>
    refine tree_at (fun v0 hw => ?_)
    have hk : Keeps Nob wr v0 := by rw [hw]; exact Keeps.drew _ _
    have HC : Hid (v0.cell? ⟨b, 1, none⟩ = some (.pointer (some ⟨q, 0, none⟩)) ∧ v0.cell? ⟨P1, 1, none⟩ = some (.int .i64 a0) ∧ v0.cell? ⟨P1, 2, none⟩ = some (.int .i64 a1) ∧ v0.cell? ⟨P1, 3, none⟩ = some (.int .i64 a2) ∧ v0.cell? ⟨P1, 4, none⟩ = some (.int .i64 a3) ∧ v0.cell? ⟨P1, 5, none⟩ = some (.int .i64 a4)) := ⟨hk.cell s1 (fun h => h), hk.cell t0 (fun h => h), hk.cell t1 (fun h => h), hk.cell t2 (fun h => h), hk.cell t3 (fun h => h), hk.cell t4 (fun h => h)⟩
    have FL := fun wx (h : DocW wx M' D' q L xs A) => levelsR h HJ.out.smB HR.out
    unfold pV rpV at FL
    replace HY := Lib.hid (HY.out.keeps hk (fun _ _ _ h => h) (fun _ _ _ h => h))
    have KT := Lib.hid hk
    clear hw hk s1 t0 t1 t2 t3 t4
    unfold Walk.reads
    iterate 6
      refine wpTree_read (v := ?_) rfl (by rfl) ?_ ?_
      rotate_left
      · intro W hW
        try (obtain ⟨g1, g2, g3, g4, g5, g6⟩ : _ ∧ _ ∧ _ ∧ _ ∧ _ ∧ _ := hW)
        go_simp
        try rfl
      simp only [Act.put, List.setIfInBounds_toArray, List.set_cons_zero, List.set_cons_succ]
    refine wpTree_two rfl rfl ?_ ?_
    · go_wp2_with (go_at_call 25; refine (FL _ HY.out).mono ?_; rintro e v1 ⟨lv, rfl, hl, hk⟩)
      have HL : Hid (∃ F, LvsAt v1 F D' lv ls ∧ ∀ x, F x → wr.heap.size ≤ x ∧ x < v1.heap.size) := ⟨_, hl, fun x hx => ⟨Nat.le_trans KT.out.size hx.1, hx.2⟩⟩
      replace HC : Hid (_ ∧ _ ∧ _ ∧ _ ∧ _ ∧ _) := ⟨hk.cell HC.out.1 id, hk.cell HC.out.2.1 id, hk.cell HC.out.2.2.1 id, hk.cell HC.out.2.2.2.1 id, hk.cell HC.out.2.2.2.2.1 id, hk.cell HC.out.2.2.2.2.2 id⟩
      replace KT := Lib.hid (KT.out.trans hk (fun _ _ h => h))
      clear hl hk
      refine ⟨.inr HC.out, ?_⟩
      iterate 3
        refine wpTree_read (v := ?_) rfl (by rfl) ?_ ?_
        rotate_left
        · intro W hW
          try (obtain ⟨g1, g2, g3, g4, g5, g6⟩ : _ ∧ _ ∧ _ ∧ _ ∧ _ ∧ _ := hW)
          go_simp
          try rfl
        simp only [Act.put, List.setIfInBounds_toArray, List.set_cons_zero, List.set_cons_succ]
      refine wpTree_act rfl ?_
      go_wp2
      refine tree_at' (fun v2 hw => ?_)
      obtain ⟨N, hN⟩ : ∃ N, v1.heap.size = N := ⟨_, rfl⟩
      have hk : Keeps Nob v1 v2 := by rw [hw]; exact Keeps.alloc _ _ _
      have HB := Lib.hid (Blk.new v1 74 #[.bool false, .int .i64 0, .int .i64 0, .int .i64 0, .int .i64 0, .int .i64 0])
      rw [← hw, hN] at HB
      obtain ⟨F, hl, hf⟩ := HL.out
      have HL : Hid (∃ F, LvsAt v2 F D' lv ls ∧ ∀ x, F x → wr.heap.size ≤ x ∧ x < v2.heap.size ∧ x ≠ N) := ⟨F, hl.keeps hk (fun _ _ _ h => h), fun x hx => ⟨(hf x hx).1, Nat.lt_of_lt_of_le (hf x hx).2 hk.size, fun e => by have h1 := (hf x hx).2; omega⟩⟩
      have HN : Hid (wr.heap.size ≤ N) := by show _ ≤ _; rw [← hN]; exact KT.out.size
      clear hl hf
      replace HC : Hid (_ ∧ _ ∧ _ ∧ _ ∧ _ ∧ _) := ⟨hk.cell HC.out.1 id, hk.cell HC.out.2.1 id, hk.cell HC.out.2.2.1 id, hk.cell HC.out.2.2.2.1 id, hk.cell HC.out.2.2.2.2.1 id, hk.cell HC.out.2.2.2.2.2 id⟩
      replace KT := Lib.hid (KT.out.trans hk (fun _ _ h => h))
      clear hk hw
      rw [hN]
      clear hN
      refine ⟨.inr HC.out, ?_⟩
      iterate 1
        refine wpTree_read (v := ?_) rfl (by rfl) ?_ ?_
        rotate_left
        · intro W hW
          try (obtain ⟨g1, g2, g3, g4, g5, g6⟩ : _ ∧ _ ∧ _ ∧ _ ∧ _ ∧ _ := hW)
          go_simp
          try rfl
        simp only [Act.put, List.setIfInBounds_toArray, List.set_cons_zero, List.set_cons_succ]
      refine wpTree_act rfl ?_
      have q0 := HB.out.cell 0
      have f0 := HB.out.frozen 0
      have q1 := HB.out.cell 1
      have f1 := HB.out.frozen 1
      have q2 := HB.out.cell 2
      have f2 := HB.out.frozen 2
      have q3 := HB.out.cell 3
      have f3 := HB.out.frozen 3
      have q4 := HB.out.cell 4
      have f4 := HB.out.frozen 4
      have q5 := HB.out.cell 5
      have f5 := HB.out.frozen 5
      go_wp2
      clear q0 f0 q1 f1 q2 f2 q3 f3 q4 f4 q5 f5
      refine tree_at' (fun v3 hw => ?_)
      have hk : Keeps (fun x => x = N) v2 v3 := by rw [hw]; exact (((((Keeps.setCell _ (M := fun x => x = N) rfl _).setCell' (fun _ => rfl) _).setCell' (fun _ => rfl) _).setCell' (fun _ => rfl) _).setCell' (fun _ => rfl) _).setCell' (fun _ => rfl) _
      replace HB : Hid (Blk v3 N 74 #[.bool rs, .int .i64 rn, .int .i64 re, .int .i64 rl, .int .i64 rns, .int .i64 rents]) := by show Blk _ _ _ _; rw [hw]; exact (((((HB.out.set_ 0 _).set_ 1 _).set_ 2 _).set_ 3 _).set_ 4 _).set_ 5 _
      obtain ⟨F, hl, hf⟩ := HL.out
      have HDl := HD.out
      refine ⟨.inl (by rfl), ?_⟩
      refine wpTree_nil ?_
      have hl2 := (hl.keeps hk (fun x hx h e => by have e2 : x = N := e; have h3 := HN.out; rcases h with h | h; exact (hf x h).2.2 e2; have := HDl x h; omega)).mono (F' := From wr.heap.size) (fun x hx => (hf x hx).1)
      have hk2 := KT.out.trans hk (fun x hx e => by have h := HN.out; have e2 : x = N := e; omega)
      first
        | refine ⟨(lv, N), ?_, hl2, HB.out, hk2⟩
        | refine ⟨lv, N, ?_, hl2, HB.out, hk2⟩
      simp only [putsA, Act.put, List.setIfInBounds_toArray, List.set_cons_zero, List.set_cons_succ]
    · go_wp2
      refine tree_at' (fun v1 hw => ?_)
      obtain ⟨N, hN⟩ : ∃ N, v0.heap.size = N := ⟨_, rfl⟩
      have hk : Keeps Nob v0 v1 := by rw [hw]; exact Keeps.alloc _ _ _
      have HB := Lib.hid (Blk.new v0 74 #[.bool false, .int .i64 0, .int .i64 0, .int .i64 0, .int .i64 0, .int .i64 0])
      rw [← hw, hN] at HB
      have HN : Hid (wr.heap.size ≤ N ∧ N < v1.heap.size) := ⟨by rw [← hN]; exact KT.out.size, HB.out.lt⟩
      replace HY := Lib.hid (HY.out.keeps hk (fun _ _ _ h => h) (fun _ _ _ h => h))
      replace HC : Hid (_ ∧ _ ∧ _ ∧ _ ∧ _ ∧ _) := ⟨hk.cell HC.out.1 id, hk.cell HC.out.2.1 id, hk.cell HC.out.2.2.1 id, hk.cell HC.out.2.2.2.1 id, hk.cell HC.out.2.2.2.2.1 id, hk.cell HC.out.2.2.2.2.2 id⟩
      replace KT := Lib.hid (KT.out.trans hk (fun _ _ h => h))
      clear hk hw
      rw [hN]
      clear hN
      refine ⟨.inr HC.out, ?_⟩
      refine wpTree_act rfl ?_
      go_wp2_with (go_at_call 25; refine (FL _ HY.out).mono ?_; rintro e v2 ⟨lv, rfl, hl, hk⟩)
      have HL : Hid (∃ F, LvsAt v2 F D' lv ls ∧ ∀ x, F x → wr.heap.size ≤ x ∧ x < v2.heap.size ∧ x ≠ N) := ⟨_, hl, fun x hx => ⟨Nat.le_trans KT.out.size hx.1, hx.2, fun e => by have h1 := hx.1; have h2 := HN.out.2; omega⟩⟩
      replace HN : Hid (wr.heap.size ≤ N) := HN.out.1
      replace HB := Lib.hid (HB.out.keeps hk (fun h => h))
      replace HC : Hid (_ ∧ _ ∧ _ ∧ _ ∧ _ ∧ _) := ⟨hk.cell HC.out.1 id, hk.cell HC.out.2.1 id, hk.cell HC.out.2.2.1 id, hk.cell HC.out.2.2.2.1 id, hk.cell HC.out.2.2.2.2.1 id, hk.cell HC.out.2.2.2.2.2 id⟩
      replace KT := Lib.hid (KT.out.trans hk (fun _ _ h => h))
      clear hl hk
      refine ⟨.inr HC.out, ?_⟩
      iterate 4
        refine wpTree_read (v := ?_) rfl (by rfl) ?_ ?_
        rotate_left
        · intro W hW
          try (obtain ⟨g1, g2, g3, g4, g5, g6⟩ : _ ∧ _ ∧ _ ∧ _ ∧ _ ∧ _ := hW)
          go_simp
          try rfl
        simp only [Act.put, List.setIfInBounds_toArray, List.set_cons_zero, List.set_cons_succ]
      refine wpTree_act rfl ?_
      have q0 := HB.out.cell 0
      have f0 := HB.out.frozen 0
      have q1 := HB.out.cell 1
      have f1 := HB.out.frozen 1
      have q2 := HB.out.cell 2
      have f2 := HB.out.frozen 2
      have q3 := HB.out.cell 3
      have f3 := HB.out.frozen 3
      have q4 := HB.out.cell 4
      have f4 := HB.out.frozen 4
      have q5 := HB.out.cell 5
      have f5 := HB.out.frozen 5
      go_wp2
      clear q0 f0 q1 f1 q2 f2 q3 f3 q4 f4 q5 f5
      refine tree_at' (fun v3 hw => ?_)
      have hk : Keeps (fun x => x = N) v2 v3 := by rw [hw]; exact (((((Keeps.setCell _ (M := fun x => x = N) rfl _).setCell' (fun _ => rfl) _).setCell' (fun _ => rfl) _).setCell' (fun _ => rfl) _).setCell' (fun _ => rfl) _).setCell' (fun _ => rfl) _
      replace HB : Hid (Blk v3 N 74 #[.bool rs, .int .i64 rn, .int .i64 re, .int .i64 rl, .int .i64 rns, .int .i64 rents]) := by show Blk _ _ _ _; rw [hw]; exact (((((HB.out.set_ 0 _).set_ 1 _).set_ 2 _).set_ 3 _).set_ 4 _).set_ 5 _
      obtain ⟨F, hl, hf⟩ := HL.out
      have HDl := HD.out
      refine ⟨.inl (by rfl), ?_⟩
      refine wpTree_nil ?_
      have hl2 := (hl.keeps hk (fun x hx h e => by have e2 : x = N := e; have h3 := HN.out; rcases h with h | h; exact (hf x h).2.2 e2; have := HDl x h; omega)).mono (F' := From wr.heap.size) (fun x hx => (hf x hx).1)
      have hk2 := KT.out.trans hk (fun x hx e => by have h := HN.out; have e2 : x = N := e; omega)
      first
        | refine ⟨(lv, N), ?_, hl2, HB.out, hk2⟩
        | refine ⟨lv, N, ?_, hl2, HB.out, hk2⟩
      simp only [putsA, Act.put, List.setIfInBounds_toArray, List.set_cons_zero, List.set_cons_succ]
  · rintro ⟨lv, N⟩ w5 ⟨hl, hbn, hk5⟩
    simp only at hl hbn
    have r0 := hbn.cell 0
    replace K := Lib.hid (K.out.trans hk5 (fun _ _ h => h))
    have HW : Hid (w2.heap.size ≤ w5.heap.size ∧ wr.heap.size ≤ w5.heap.size) := ⟨Nat.le_trans (by have h1 := HP.out.2; have h2 := HDG; have := HJ.out.low; exact Nat.le_of_lt (Nat.lt_of_le_of_lt this HJ.out.blk.lt)) hk5.size, hk5.size⟩
    replace HJ := Lib.hid (HJ.out.nob hk5)
    replace B1 := Lib.hid (B1.out.keeps hk5 (fun h => h))
    replace HY := Lib.hid (HY.out.keeps hk5 (fun _ _ _ h => h) (fun _ _ _ h => h))
    obtain ⟨lds, hlm, hown, hlds⟩ := hl
    obtain ⟨lA, lc, el⟩ := hown.form
    subst el
    have HL := Lib.hid hown
    have HLD := Lib.hid hlds
    have HLM := Lib.hid hlm
    have HLL : Hid (lds.length = ls.length) := by show _ = _; rw [← hlm, List.length_map]
    clear hbn hk5 hown hlds hlm s1 t0 t1 t2 t3 t4
    simp only [putsA, Act.put, List.setIfInBounds_toArray, List.set_cons_zero, List.set_cons_succ]
    rcases rs with _ | _
    · go_wp2
      go_ret
      exact ⟨rfl, K.out⟩
    obtain ⟨lv0, hT⟩ := levelsM_ok HR.out rfl
    obtain ⟨hv32, hvl⟩ := hT.lv32
    have HVL : Hid ((lds.length : Int) = lv0 + 1) := by show _ = _; rw [HLL.out]; exact hvl
    have hv0 := hT.lv0
    have HT := Lib.hid hT
    have hall := fun (level : Int) (h0 : 0 ≤ level) (h1 : level ≤ lv0 + 1) => alone_ (key := key) hT h0 h1
    have hlen33 : (lds.length : Int) ≤ 33 := by have := HVL.out; omega
    clear hT HR hvl
    have hsl : A.sl.length ≤ 65536 := by have := HY.out.bound; omega
    -- pick, Used, New
    have PK := pick12_ w5 HLEV.out (n := (lds.length : Int) + 1) (by omega)
    obtain ⟨hp1, hp2⟩ := pk_range lev ((lds.length : Int) + 1) (by omega)
    have FU := usedR HY.out
    try unfold iV at PK FU
    try unfold pV at FU
    have k6 := B1.out.cell 6
    have k7 := B1.out.cell 7
    have s0 := HJ.out.blk.cell 0
    have s1 := HJ.out.blk.cell 1
    unfold pV at s0 s1
    generalize pk lev ((lds.length : Int) + 1) = level at *
    have hall := hall level hp1 (by have := HVL.out; omega)
    have HV := Lib.hid (And.intro hv0 hv32)
    clear hv0 hv32
    go_wp2_with (first
      | (go_at_call 11; refine PK.mono ?_; rintro e w' ⟨rfl, rfl⟩)
      | (go_at_call 26; refine FU.mono ?_; rintro e w' ⟨rfl, rfl⟩))
    clear r0 PK FU k7
    refine wp_region_canon [0, 1, 2, 3, 4, 5, 6, 7, 8] 9 (fun W => W.cell? ⟨b, 0, none⟩ = some (.pointer (some ⟨p, 0, none⟩)) ∧ W.cell? ⟨P1, 6, none⟩ = some (.slice KA key.length kc)) (by kernel_rfl) (by kernel_rfl) rfl (by kernel_rfl) (fun _ _ d _ _ h => by cases d <;> exact h) ⟨s0, k6⟩ ?_
    refine canon_at (fun v0 hw => ?_)
    have hk : Keeps Nob w5 v0 := by rw [hw]; exact Keeps.drew _ _
    have HC : Hid (v0.cell? ⟨b, 0, none⟩ = some (.pointer (some ⟨p, 0, none⟩)) ∧ v0.cell? ⟨P1, 6, none⟩ = some (.slice KA key.length kc)) := ⟨hk.cell s0 id, hk.cell k6 id⟩
    clear hw s0 s1 k6
    iterate 7
      refine wpCanon_read (v := ?_) rfl (by kernel_rfl) (by rfl) ?_ ?_
      rotate_left
      · intro W hW
        try (obtain ⟨g1, g2⟩ : _ ∧ _ := hW)
        go_simp
        try rfl
      simp only [Act.put, List.setIfInBounds_toArray, List.set_cons_zero, List.set_cons_succ]
    refine wpCanon_act rfl (by kernel_rfl) ?_
    have NX := newXB (level := level) (HJ.out.nob hk) (HKEY.out.keeps (K.out.trans hk (fun _ _ h => h)) (fun _ _ _ => id)) HSM.out
    unfold pV iV at NX
    go_wp2_with (go_at_call 12; refine NX.mono ?_; rintro e w6 ⟨m, rfl, hf, hj, hm, hk6⟩)
    have HC6 : w6.cell? ⟨b, 0, none⟩ = some (.pointer (some ⟨p, 0, none⟩)) ∧ w6.cell? ⟨P1, 6, none⟩ = some (.slice KA key.length kc) := ⟨hk6.cell HC.out.1 id, hk6.cell HC.out.2 id⟩
    have HM : Hid (∃ G S, J w6 G b p q A A ∧ MbX w6 G m p S (Mc.new key level)) := ⟨_, _, hj, hm⟩
    have K5 := Lib.hid (hk.trans hk6 (fun _ _ h => h))
    have HMS : Hid (w5.heap.size ≤ m) := Nat.le_trans hk.size hf.1
    clear NX hf hj hm hk hk6
    refine ⟨.inr HC6, ?_⟩
    clear HC6 HC
    iterate 1
      refine wpCanon_read (v := ?_) rfl (by kernel_rfl) (by rfl) ?_ ?_
      rotate_left
      · intro W hW
        try (obtain ⟨g1, g2⟩ : _ ∧ _ := hW)
        go_simp
        try rfl
      simp only [Act.put, List.setIfInBounds_toArray, List.set_cons_zero, List.set_cons_succ]
    refine wpCanon_nil ?_
    go_wp2
    obtain ⟨S, hS, hdone, ⟨hag, hth, hin⟩, hbef⟩ := hall.fin
    have HD2 : Hid ((runM A S (Mc.new key level)).nx = .done) := hdone
    have HIN := Lib.hid hin
    have HTH := Lib.hid hth
    have HBF := Lib.hid hbef
    have HAG := Lib.hid hag
    clear hdone hin hth hbef hag hall
    go_loopw [12, 13] (fun i th wz => ∃ n : Nat, i = .int .i64 n ∧ n ≤ S ∧ th = .bool (decide ((runM A n (Mc.new key level)).nx = .done)) ∧ (∃ G S', J wz G b p q A A ∧ MbX wz G m p S' (runM A n (Mc.new key level))) ∧ Keeps Nob w5 wz) (fun i _ _ => 1 + 4 * A.sl.length + 1 - (intOf i).toNat)
    case atStart => exact ⟨0, rfl, Nat.zero_le _, rfl, HM.out, K5.out⟩
    clear HM K5
    obtain ⟨n, rfl, hnS, rfl, hM, hk5⟩ := hrel
    have K5 := Lib.hid hk5
    have HM := Lib.hid hM
    clear hM hk5
    rcases Nat.lt_or_ge n S with hlt | hlt
    · have hnd := (HBF.out n hlt).1
      rw [decide_eq_false hnd]
      obtain ⟨G, S', hj, hm⟩ := HM.out
      have ST := stepXB hj hm ((runM_le A (Mc.le.new key level 0) n).low (by omega))
      rw [← runM_snoc] at ST
      unfold pV at ST
      clear hj hm hnd
      obtain ⟨z, hz⟩ : ∃ z, decide ((runM A (n + 1) (Mc.new key level)).nx = .done) = z := ⟨_, rfl⟩
      rw [hz] at ST
      have HZ := Lib.hid hz
      clear hz
      have hn1 : ¬ (1 + 4 * (A.sl.length : Int)) < (n : Int) := by omega
      have hn64 : (n : Int) < 9223372036854775807 := by omega
      go_wp2_with fail
      refine ST.mono ?_
      rintro e w7 ⟨rfl, hj, ⟨S2, hm, _⟩, hk7⟩
      have HM7 : Hid (∃ G S', J w7 G b p q A A ∧ MbX w7 G m p S' (runM A (n + 1) (Mc.new key level))) := ⟨_, _, hj, hm⟩
      have K7 := Lib.hid (K5.out.trans hk7 (fun x hx e => by have h := HMS.out; have e2 : x = m := e; omega))
      clear hj hm hk7 ST HM K5
      go_wp2
      go_roundw
      case rel => exact ⟨n + 1, by go_num, by omega, by rw [HZ.out], HM7.out, K7.out⟩
      case measure => simp [intOf]; omega
    obtain rfl : n = S := by omega
    rw [decide_eq_true HD2.out]
    obtain ⟨G, S', hj, hm⟩ := HM.out
    have HLE := Lib.hid (runM_le A (Mc.le.new key level 0) n)
    have HN64 : Hid (n < 9223372036854775807) := by show n < 9223372036854775807; omega
    have HML : Hid (m < wr.heap.size) := hm.mw.next.2.2
    have HAGN := Lib.hid HAG.out
    have HKY : Hid ((runM A n (Mc.new key level)).key = key) := by show _ = _; rw [runM_key]; rfl
    clear HM HBF hnS hlt hS
    generalize runM A n (Mc.new key level) = M at *
    rcases Int.lt_or_eq_of_le (show level ≤ (lds.length : Int) by omega) with hlt2 | heq
    rotate_left
    · as_aux_lemma =>
      have HT2 : Hid (M.there = false) := HTH.out (by have := HVL.out; omega)
      have hz7 : (level == (lds.length : Int)) = true := by simpa using heq
      clear heq HTH HIN
      have FA := atX0 hm.mw HT2.out
      unfold pV iV at FA
      go_wp2_with fail
      refine FA.mono ?_
      rintro e w8 ⟨d0, d1, d2, d3, d4, d5, rfl, hnd, hk8⟩
      clear FA
      obtain ⟨X1, y1, g1, _, _⟩ := hnd.r.1.high.form
      obtain ⟨X3, y3, g3, _, _⟩ := hnd.r.2.keys.form
      obtain ⟨X4, y4, g4, _, _⟩ := hnd.r.2.vals.form
      obtain ⟨X5, y5, g5, _, _⟩ := hnd.r.2.kids.form
      have g0 := hnd.r.1.lvl
      have g2 := hnd.r.1.right
      unfold iV at g0 g2
      replace g0 : d0 = .int .i64 0 := g0
      replace g1 : d1 = .slice X1 0 y1 := g1
      replace g2 : d2 = .int .i64 0 := g2
      replace g3 : d3 = .slice X3 0 y3 := g3
      replace g4 : d4 = .slice X4 0 y4 := g4
      replace g5 : d5 = .slice X5 0 y5 := g5
      subst g0 g1 g2 g3 g4 g5
      have HJ8 := Lib.hid (hj.nob hk8)
      have hs8 := hk8.size
      have HM8 := Lib.hid (hm.keeps hk8 (fun h => h) (fun _ _ _ h => h) (fun _ h => h))
      have K8 := Lib.hid (K5.out.trans hk8 (fun _ _ h => h))
      have HND := Lib.hid hnd
      have HS8 := Lib.hid hs8
      clear hj hm hk8 hnd K5 hs8
      go_wp2_with fail
      refine calls_at (fun w9 hw => ?_)
      obtain ⟨P16, hP⟩ : ∃ N, w8.heap.size = N := ⟨_, rfl⟩
      rw [hP]
      have hk9 : Keeps Nob w8 w9 := by rw [hw]; exact Keeps.alloc _ _ _
      have B16 : Hid (Blk w9 P16 37 #[.int .i64 0, .slice X1 0 y1, .int .i64 0, .slice X3 0 y3, .slice X4 0 y4, .slice X5 0 y5]) := by show Blk _ _ _ _; rw [hw, ← hP]; exact Blk.new _ _ _
      have HP16 : Hid (w5.heap.size ≤ P16) := by show _ ≤ _; rw [← hP]; exact K8.out.size
      have HSZ0 : Hid (wr.heap.size ≤ P16) := by show _ ≤ _; rw [← hP]; exact HS8.out
      clear hw hP
      replace HND := Lib.hid (HND.out.keeps hk9 (fun _ _ _ h => h))
      have HSZ : Hid (wr.heap.size ≤ P16) := HSZ0.out
      have ST := stepXB (HJ8.out.nob hk9) (HM8.out.keeps hk9 (fun h => h) (fun _ _ _ h => h) (fun _ h => h)) (HLE.out.low HN64.out)
      rw [stepM_done A HD2.out, decide_eq_true HD2.out] at ST
      unfold pV at ST
      replace K8 := Lib.hid (K8.out.trans hk9 (fun _ _ h => h))
      clear HJ8 HM8 hk9
      refine ST.mono ?_
      rintro e w10 ⟨rfl, hj, ⟨S2, hm, _⟩, hk10⟩
      have hmlt := HML.out
      have hw8 := HSZ.out
      have B16' : Hid (Blk w10 P16 37 #[.int .i64 0, .slice X1 0 y1, .int .i64 0, .slice X3 0 y3, .slice X4 0 y4, .slice X5 0 y5]) := B16.out.keeps hk10 (fun e => by have e2 : P16 = m := e; omega)
      replace HND := Lib.hid (HND.out.keeps hk10 (fun x _ hx e => by have h := hx.1; have e2 : x = m := e; omega))
      have HJ := Lib.hid hj
      have HM := Lib.hid hm
      replace K8 := Lib.hid (K8.out.trans hk10 (fun x hx e => by have h := HMS.out; have e2 : x = m := e; omega))
      clear hj hm hk10 ST B16 hmlt hw8 HML HSZ
      -- Same, Again, Right
      have FS := sameJ HJ.out
      have FG := fun wx (h : MX wx m p S2 M) => againX h
      have FR := fun wx (h : MX wx m p S2 M) => rightX h
      rw [HAGN.out] at FG
      unfold pV at FS FG FR
      unfold iV at FG FR
      have hrt : (0 : Int) ≤ M.right := HLE.out.2.2.1
      go_wp2_with (first
        | (go_at_call 24; refine FS.mono ?_; rintro e w11 ⟨rfl, hj11, hk11⟩; replace HM := Lib.hid (HM.out.mw.keeps hk11 (fun h => h) (fun _ _ _ h => h)); replace HJ := Lib.hid hj11; replace HND := Lib.hid (HND.out.keeps hk11 (fun _ _ _ h => h)); replace B16' := Lib.hid (B16'.out.keeps hk11 (fun h => h)); replace K8 := Lib.hid (K8.out.trans hk11 (fun _ _ h => h)); clear hj11 hk11 FS; have q0 := B16'.out.cell 0; have q3 := B16'.out.cell 3)
        | (go_at_call 27; refine (FG _ HM.out).mono ?_; rintro e w' ⟨rfl, rfl⟩)
        | (go_at_call 28; refine (FR _ HM.out).mono ?_; rintro e w' ⟨rfl, rfl⟩))
      go_wp2
      go_ret
      exact ⟨rfl, K.out.trans K8.out (fun _ _ h => h)⟩
    obtain ⟨ch, hch, hE⟩ := HIN.out (by have := HVL.out; omega)
    have HT2 : Hid (M.there = true) := hE.there
    have HE : Hid (EndsAt A ch key level M) := hE
    have HCH := Lib.hid hch
    have hz7 : (level == (lds.length : Int)) = false := by have : ¬ level = (lds.length : Int) := by omega
                                                           simpa using this
    clear hE hch HIN HTH
    have FA := atX1 hm.mw HT2.out
    unfold pV iV at FA
    go_wp2_with fail
    refine FA.mono ?_
    rintro e w8 ⟨d0, d1, d2, d3, d4, d5, rfl, hnd, hk8⟩
    clear FA
    obtain ⟨X1, y1, g1, _, _⟩ := hnd.r.1.high.form
    obtain ⟨X3, y3, g3, _, _⟩ := hnd.r.2.keys.form
    obtain ⟨X4, y4, g4, _, _⟩ := hnd.r.2.vals.form
    obtain ⟨X5, y5, g5, _, _⟩ := hnd.r.2.kids.form
    have g0 := hnd.r.1.lvl
    have g2 := hnd.r.1.right
    unfold iV at g0 g2
    replace g0 : d0 = .int .i64 M.nd.lvl := g0
    replace g1 : d1 = .slice X1 M.nd.high.length y1 := g1
    replace g2 : d2 = .int .i64 M.nd.right := g2
    replace g3 : d3 = .slice X3 M.nd.keys.length y3 := g3
    replace g4 : d4 = .slice X4 M.nd.vals.length y4 := g4
    replace g5 : d5 = .slice X5 M.nd.kids.length y5 := g5
    subst g0 g1 g2 g3 g4 g5
    have HJ8 := Lib.hid (hj.nob hk8)
    have hs8 := hk8.size
    have HM8 := Lib.hid (hm.keeps hk8 (fun h => h) (fun _ _ _ h => h) (fun _ h => h))
    have K8 := Lib.hid (K5.out.trans hk8 (fun _ _ h => h))
    have HND := Lib.hid hnd
    have HS8 := Lib.hid hs8
    clear hj hm hk8 hnd K5 hs8
    go_wp2_with fail
    refine calls_at (fun w9 hw => ?_)
    obtain ⟨P16, hP⟩ : ∃ N, w8.heap.size = N := ⟨_, rfl⟩
    rw [hP]
    have hk9 : Keeps Nob w8 w9 := by rw [hw]; exact Keeps.alloc _ _ _
    have B16 : Hid (Blk w9 P16 37 #[.int .i64 M.nd.lvl, .slice X1 M.nd.high.length y1, .int .i64 M.nd.right, .slice X3 M.nd.keys.length y3, .slice X4 M.nd.vals.length y4, .slice X5 M.nd.kids.length y5]) := by show Blk _ _ _ _; rw [hw, ← hP]; exact Blk.new _ _ _
    have HP16 : Hid (w5.heap.size ≤ P16) := by show _ ≤ _; rw [← hP]; exact K8.out.size
    have HSZ0 : Hid (wr.heap.size ≤ P16) := by show _ ≤ _; rw [← hP]; exact HS8.out
    clear hw hP
    replace HND := Lib.hid (HND.out.keeps hk9 (fun _ _ _ h => h))
    have HSZ : Hid (wr.heap.size ≤ P16) := HSZ0.out
    have ST := stepXB (HJ8.out.nob hk9) (HM8.out.keeps hk9 (fun h => h) (fun _ _ _ h => h) (fun _ h => h)) (HLE.out.low HN64.out)
    rw [stepM_done A HD2.out, decide_eq_true HD2.out] at ST
    unfold pV at ST
    replace K8 := Lib.hid (K8.out.trans hk9 (fun _ _ h => h))
    clear HJ8 HM8 hk9
    refine ST.mono ?_
    rintro e w10 ⟨rfl, hj, ⟨S2, hm, _⟩, hk10⟩
    have hmlt := HML.out
    have hw8 := HSZ.out
    have B16' : Hid (Blk w10 P16 37 #[.int .i64 M.nd.lvl, .slice X1 M.nd.high.length y1, .int .i64 M.nd.right, .slice X3 M.nd.keys.length y3, .slice X4 M.nd.vals.length y4, .slice X5 M.nd.kids.length y5]) := B16.out.keeps hk10 (fun e => by have e2 : P16 = m := e; omega)
    replace HND := Lib.hid (HND.out.keeps hk10 (fun x _ hx e => by have h := hx.1; have e2 : x = m := e; omega))
    have HJ := Lib.hid hj
    have HM := Lib.hid hm
    replace K8 := Lib.hid (K8.out.trans hk10 (fun x hx e => by have h := HMS.out; have e2 : x = m := e; omega))
    clear hj hm hk10 ST B16 hmlt hw8 HML HSZ
    -- Same, Again, Right
    have FS := sameJ HJ.out
    have FG := fun wx (h : MX wx m p S2 M) => againX h
    have FR := fun wx (h : MX wx m p S2 M) => rightX h
    rw [HAGN.out] at FG
    unfold pV at FS FG FR
    unfold iV at FG FR
    have hrt : (0 : Int) ≤ M.right := HLE.out.2.2.1
    go_wp2_with (first
      | (go_at_call 24; refine FS.mono ?_; rintro e w11 ⟨rfl, hj11, hk11⟩; replace HM := Lib.hid (HM.out.mw.keeps hk11 (fun h => h) (fun _ _ _ h => h)); replace HJ := Lib.hid hj11; replace HND := Lib.hid (HND.out.keeps hk11 (fun _ _ _ h => h)); replace B16' := Lib.hid (B16'.out.keeps hk11 (fun h => h)); replace K8 := Lib.hid (K8.out.trans hk11 (fun _ _ h => h)); clear hj11 hk11 FS; have q0 := B16'.out.cell 0; have q3 := B16'.out.cell 3)
      | (go_at_call 27; refine (FG _ HM.out).mono ?_; rintro e w' ⟨rfl, rfl⟩)
      | (go_at_call 28; refine (FR _ HM.out).mono ?_; rintro e w' ⟨rfl, rfl⟩))
    clear q0 q3
    obtain ⟨ix, hix⟩ : ∃ ix : Nat, (lds.length : Int) - 1 - level = (ix : Int) := ⟨((lds.length : Int) - 1 - level).toNat, by omega⟩
    rw [hix]
    have hxl : ix < lds.length := by omega
    have hxe : (lv0 - level).toNat = ix := by have := HVL.out; omega
    obtain ⟨d, hd⟩ : ∃ d, lds[ix]? = some d := ⟨_, List.getElem?_eq_getElem hxl⟩
    have hdc : d.c = ch := by
      have h := HCH.out
      rw [hxe, ← HLM.out, List.getElem?_map, hd] at h
      injection h
    obtain ⟨lc0, lc1⟩ := ldCells_at hd
    obtain ⟨hd1, _, hf⟩ := HL.out.at_
    rcases hf with ⟨_, h0⟩ | ⟨gL, oL, cur, rfl, _, hb, _, hx⟩
    · exact absurd hd1 (by omega)
    obtain ⟨⟨hI, hTx⟩, hFd⟩ := HLD.out d (List.mem_of_getElem? hd)
    have hnd2 : (ch.map Prod.fst).Nodup := by
      have h1 := HT.out.met.1
      have h2 : ch ∈ ls := by rw [← HLM.out, ← hdc]; exact List.mem_map.2 ⟨d, List.mem_of_getElem? hd, rfl⟩
      exact h1.sublist ((List.sublist_flatten_of_mem h2).map _)
    rw [hdc] at hI hTx
    obtain ⟨CA, cc, eA, ha1, ha2⟩ := hI.form
    obtain ⟨CB, cd, eB, _, _⟩ := Txts.form hTx
    rw [List.length_map] at eA eB ha1
    have q0 : w11.cell? ⟨gL, oL + ix * 2, none⟩ = some (.slice CA ch.length cc) := K8.out.cell (by rw [hb.cell, ← eA]; exact hx _ _ lc0) id
    have q1 : w11.cell? ⟨gL, oL + ix * 2 + 1, none⟩ = some (.slice CB ch.length cd) := K8.out.cell (by rw [hb.cell, ← eB]; exact hx _ _ lc1) id
    rw [eA] at hI
    rw [eB] at hTx
    have HI := Lib.hid (hI.keeps K8.out (fun _ _ _ h => h))
    have HTX := Lib.hid (Txts.keeps hTx K8.out (fun _ _ _ h => h))
    have HNU := Lib.hid hnd2
    have HY12 := Lib.hid (HY.out.keeps K8.out (fun _ _ _ h => h) (fun _ _ _ h => h))
    have B1' := Lib.hid (B1.out.keeps K8.out (fun h => h))
    have hzc : ch.length ≤ 9223372036854775807 := Nat.le_trans ha1 ha2
    clear hix hxe hd hdc lc0 lc1 hd1 hb hx hI hTx hFd hnd2 eA eB ha1 ha2 HCH HLD HLM HL HY
    have hpx : 0 ≤ (ix : Int) ∧ (ix : Int) < (lds.length : Int) := by omega
    go_simp
    go_wp2
    clear hpx
    clear q0 q1
    refine code_at (fun w12 hw => ?_)
    obtain ⟨P19, hP⟩ : ∃ N, w11.heap.size = N := ⟨_, rfl⟩
    rw [hP]
    have hk12 : Keeps Nob w11 w12 := by rw [hw]; exact Keeps.alloc _ _ _
    have B19 : Hid (Blk w12 P19 79 #[.slice CA ch.length cc, .slice CB ch.length cd]) := by show Blk _ _ _ _; rw [hw, ← hP]; exact Blk.new _ _ _
    clear hw hP
    replace HI := Lib.hid (HI.out.keeps hk12 (fun _ _ _ h => h))
    replace HTX := Lib.hid (Txts.keeps HTX.out hk12 (fun _ _ _ h => h))
    replace HY12 := Lib.hid (HY12.out.keeps hk12 (fun _ _ _ h => h) (fun _ _ _ h => h))
    replace B1' := Lib.hid (B1'.out.keeps hk12 (fun h => h))
    replace B16' := Lib.hid (B16'.out.keeps hk12 (fun h => h))
    replace HND := Lib.hid (HND.out.keeps hk12 (fun _ _ _ h => h))
    replace HJ := Lib.hid (HJ.out.nob hk12)
    replace K8 := Lib.hid (K8.out.trans hk12 (fun _ _ h => h))
    clear hk12 HM
    go_loopw [20] (fun i wz => ∃ j : Nat, j ≤ ch.length ∧ i = .int .i64 j ∧ (∀ (l : Nat) e, l < j → ch[l]? = some e → e.1 ≠ M.id) ∧ Keeps Nob w12 wz) (fun i _ => ch.length - (intOf i).toNat)
    case atStart => exact ⟨0, Nat.zero_le _, rfl, fun l e h => by omega, Keeps.refl _ _⟩
    obtain ⟨j, hj, rfl, hno, hkz⟩ := hrel
    have HNO := Lib.hid hno
    have KZ := Lib.hid hkz
    clear hno hkz
    have r19 := B19.out.keeps KZ.out (fun h => h)
    have q0 := r19.cell 0
    have q1 := r19.cell 1
    have l19 := r19.lt
    clear r19
    rcases Nat.lt_or_ge j ch.length with hjl | hjl
    rotate_left
    · exfalso
      obtain rfl : j = ch.length := by omega
      obtain ⟨low, hm, _⟩ := HE.out.mem
      obtain ⟨l, hl⟩ := List.mem_iff_getElem?.1 hm
      exact HNO.out l _ (List.getElem?_eq_some_iff.1 hl).1 hl rfl
    obtain ⟨e, he⟩ : ∃ e, ch[j]? = some e := ⟨_, List.getElem?_eq_getElem hjl⟩
    obtain ⟨ad, ea, _, hc⟩ := SlR.cells HI.out (i := j) (by rw [List.length_map, List.length_map]; exact hjl)
    subst ea
    have r0 : wr.cell? (ad.add j) = some (.int .i64 e.1) := KZ.out.cell (hc j _ (by rw [List.getElem?_map, List.getElem?_map, he]; rfl)) id
    clear hc
    by_cases hid : e.1 = M.id
    rotate_left
    · as_aux_lemma =>
      have hne : (e.1 == M.id) = false := by simpa using hid
      have HN2 : Hid (∀ (l : Nat) e, l < j + 1 → ch[l]? = some e → e.1 ≠ M.id) := fun l x hl hx => by
        rcases Nat.lt_or_ge l j with h | h
        · exact HNO.out l x h hx
        · obtain rfl : l = j := by omega
          rw [he] at hx; cases hx; exact hid
      clear hid he q1
      go_wp2
      go_roundw
      case rel => exact ⟨j + 1, by omega, by go_num, HN2.out, KZ.out⟩
      case measure => simp [intOf]; omega
    have hne : (e.1 == M.id) = true := by simpa using hid
    obtain ⟨low, hm, hlow⟩ := HE.out.mem
    have hel : e.2 = low := ch_uniq HNU.out hm he hid
    obtain ⟨lb, eb, _, hcb⟩ := Txts.cells HTX.out (i := j) (by rw [List.length_map]; exact hjl)
    subst eb
    obtain ⟨lv, r1, hlw⟩ := hcb j low (by rw [List.getElem?_map, he, ← hel]; rfl)
    obtain ⟨LA, lcc, el, _, _⟩ := hlw.form
    subst el
    have hge : ¬ cmp key low < 0 := by have := cmp_swap_ low key; omega
    have hnb : beyond M.nd.high key = false := HE.out.notb
    obtain ⟨i, g, o, cL, hid2, hi, _, hL, u0, Y1, z1, Y3, z3, Y4, z4, Y5, z5, u1, u2, u3, u4, u5, u6, hsn⟩ := HY12.out.slot_ HE.out.slot
    have b1 : w12.cell? ⟨q, 1, none⟩ = some (.slice (some ⟨g, o, none⟩) A.sl.length cL) := by have h := HY12.out.blk.cell 1; rw [hL] at h; exact h
    have v0 := KZ.out.cell u0 id
    have v1 := KZ.out.cell u1 id
    have v2 := KZ.out.cell u2 id
    have v3 := KZ.out.cell u3 id
    have v4 := KZ.out.cell u4 id
    have v5 := KZ.out.cell u5 id
    have v6 := KZ.out.cell u6 id
    have v7 := KZ.out.cell b1 id
    have v8 : wr.cell? ⟨b, 1, none⟩ = some (.pointer (some ⟨q, 0, none⟩)) := KZ.out.cell (HJ.out.blk.cell 1) id
    have v9 : wr.cell? ⟨P1, 6, none⟩ = some (.slice KA key.length kc) := KZ.out.cell (B1'.out.cell 6) id
    have l1 := (B1'.out.keeps KZ.out (fun h => h)).lt
    have hwr : IntKind.i64.wrap (M.id - 1) = (i : Int) := by rw [IntKind.wrap_i64]; omega
    have hpi : 0 ≤ (i : Int) ∧ (i : Int) < (A.sl.length : Int) := by omega
    have HLW2 : Hid (∀ W, Keeps Nob w12 W → Byts W (fun x => d.F x ∨ D' x) (.slice LA low.length lcc) low) := fun W hk => hlw.keeps hk (fun _ _ _ h => h)
    have HSN := Lib.hid hsn
    have HNB := Lib.hid hnb
    have HGE := Lib.hid hge
    have HR2 : Hid (∀ W, Keeps Nob w12 W → W.cell? (lb.add j) = some (.slice LA low.length lcc)) := fun W hk => hk.cell r1 id
    clear u0 u1 u2 u3 u4 u5 u6 b1 hL hid2 hlw hsn hnb hge r1 hcb hel hm hlow hid he HNU
    go_wp2_with fail
    refine calls_at (fun w13 hw => ?_)
    obtain ⟨P21, hP⟩ : ∃ N, wr.heap.size = N := ⟨_, rfl⟩
    rw [hP]
    have hk13 : Keeps Nob wr w13 := by rw [hw]; exact Keeps.alloc _ _ _
    have B21 : Hid (Blk w13 P21 81 #[.int .u64 M.word, .int .i64 M.nd.lvl, .slice Y1 M.nd.high.length z1, .int .i64 M.nd.right, .slice Y3 M.nd.keys.length z3, .slice Y4 M.nd.vals.length z4, .slice Y5 M.nd.kids.length z5]) := by show Blk _ _ _ _; rw [hw, ← hP]; exact Blk.new _ _ _
    clear hw hP v0 v1 v2 v3 v4 v5 v6 v7 v8 v9 l1 hwr hpi q0 q1 r0 l19 hne
    replace KZ := Lib.hid (KZ.out.trans hk13 (fun _ _ h => h))
    clear hk13
    have FB := beyondR (w := w13) (c0 := .int .i64 M.nd.lvl) (c2 := .int .i64 M.nd.right) (c3 := .slice Y3 M.nd.keys.length z3) (c4 := .slice Y4 M.nd.vals.length z4) (c5 := .slice Y5 M.nd.kids.length z5) (HSN.out.1.high.keeps KZ.out (fun _ _ _ h => h)) (HKEY.out.keeps ((K.out.trans K8.out (fun _ _ h => h)).trans KZ.out (fun _ _ h => h)) (fun _ _ _ h => h))
    rw [HNB.out] at FB
    refine FB.mono ?_
    rintro e2 w14 ⟨rfl, hk14⟩
    replace KZ := Lib.hid (KZ.out.trans hk14 (fun _ _ h => h))
    replace B21 := Lib.hid (B21.out.keeps hk14 (fun h => h))
    clear FB hk14
    go_wp2
    have s0 : w14.cell? ⟨P1, 6, none⟩ = some (.slice KA key.length kc) := KZ.out.cell (B1'.out.cell 6) id
    have s1 : w14.cell? ⟨P19, 1, none⟩ = some (.slice (some lb) ch.length cd) := KZ.out.cell (B19.out.cell 1) id
    have s2 : w14.cell? (lb.add j) = some (.slice LA low.length lcc) := HR2.out w14 KZ.out
    refine wp_region_canon [0, 1, 2, 3, 4, 5, 6, 7, 8] 9 (fun W => W.cell? ⟨P1, 6, none⟩ = some (.slice KA key.length kc) ∧ W.cell? ⟨P19, 1, none⟩ = some (.slice (some lb) ch.length cd) ∧ W.cell? (lb.add j) = some (.slice LA low.length lcc)) (by kernel_rfl) (by kernel_rfl) rfl (by kernel_rfl) (fun _ _ d _ _ h => by cases d <;> exact h) ⟨s0, s1, s2⟩ ?_
    refine canon_at (fun v0 hw => ?_)
    have hk : Keeps Nob w14 v0 := by rw [hw]; exact Keeps.drew _ _
    have HC : Hid (v0.cell? ⟨P1, 6, none⟩ = some (.slice KA key.length kc) ∧ v0.cell? ⟨P19, 1, none⟩ = some (.slice (some lb) ch.length cd) ∧ v0.cell? (lb.add j) = some (.slice LA low.length lcc)) := ⟨hk.cell s0 id, hk.cell s1 id, hk.cell s2 id⟩
    replace KZ := Lib.hid (KZ.out.trans hk (fun _ _ h => h))
    replace B21 := Lib.hid (B21.out.keeps hk (fun h => h))
    clear hw s0 s1 s2 hk
    have hpk : 0 ≤ (j : Int) ∧ (j : Int) < (ch.length : Int) := by omega
    iterate 7
      refine wpCanon_read (v := ?_) rfl (by kernel_rfl) (by rfl) ?_ ?_
      rotate_left
      · intro W hW
        try (obtain ⟨g1, g2, g3⟩ : _ ∧ _ ∧ _ := hW)
        go_simp
        try simp only [if_pos hpk, Int.toNat_natCast]
        try rfl
      simp only [Act.put, List.setIfInBounds_toArray, List.set_cons_zero, List.set_cons_succ]
    refine wpCanon_act rfl (by kernel_rfl) ?_
    have FC := cmpR (HKEY.out.keeps ((K.out.trans K8.out (fun _ _ h => h)).trans KZ.out (fun _ _ h => h)) (fun _ _ _ h => h)) (HLW2.out v0 KZ.out)
    go_wp2_with (go_at_call 29; refine FC.mono ?_; rintro e3 w15 ⟨rfl, hk15⟩)
    refine ⟨.inr ⟨hk15.cell HC.out.1 id, hk15.cell HC.out.2.1 id, hk15.cell HC.out.2.2 id⟩, ?_⟩
    replace KZ := Lib.hid (KZ.out.trans hk15 (fun _ _ h => h))
    replace B21 := Lib.hid (B21.out.keeps hk15 (fun h => h))
    clear FC hk15 HC
    iterate 1
      refine wpCanon_read (v := ?_) rfl (by kernel_rfl) (by rfl) ?_ ?_
      rotate_left
      · intro W hW
        try (obtain ⟨g1, g2, g3⟩ : _ ∧ _ ∧ _ := hW)
        go_simp
        try rfl
      simp only [Act.put, List.setIfInBounds_toArray, List.set_cons_zero, List.set_cons_succ]
    refine wpCanon_nil ?_
    have hge := HGE.out
    generalize cmp key low = cz at *
    have t0 := B21.out.cell 0
    have t1 := B21.out.cell 1
    have t2 := B21.out.cell 2
    have t3 := B21.out.cell 3
    have t4 := B21.out.cell 4
    have t5 := B21.out.cell 5
    have t6 := B21.out.cell 6
    have B16'' := B16'.out.keeps KZ.out (fun h => h)
    have y0 := B16''.cell 0
    have y1' := B16''.cell 1
    have y2 := B16''.cell 2
    have y3' := B16''.cell 3
    have y4' := B16''.cell 4
    have y5' := B16''.cell 5
    have l16 := B16''.lt
    have l21 := B21.out.lt
    clear B16''
    have FN := sameN (HND.out.r.keeps KZ.out (fun _ _ _ h => h)) (HSN.out.keeps KZ.out (fun _ _ _ h => h))
    rw [sameNd_self] at FN
    go_wp2_with (go_at_call 19; refine FN.mono ?_; rintro e4 w16 ⟨rfl, hk16⟩; replace KZ := Lib.hid (KZ.out.trans hk16 (fun _ _ h => h)))
    go_ret
    exact ⟨rfl, (K.out.trans K8.out (fun _ _ h => h)).trans KZ.out (fun _ _ h => h)⟩
end
end Go.Proofs.Ytbhohohgojcapaa
