/- ArenaSeen walked: the same even word, the same node. -/
import Derived.Test.YtdmmhblmgbhgfaaSeenM
namespace Go.Proofs.Ytdmmhblmgbhgfaa
open Go.RowKit

section
variable {w : World} {bs aft : List OpM} {v u : Value}
set_option maxRecDepth 100000 in
set_option maxHeartbeats 6400000 in
theorem seen_core {A0 AE : Ar} (h : OpsAt w w.heap.size v bs) (h2 : OpsAt w w.heap.size u aft) (hA : steps (ar0 20) bs = A0) (hE : steps A0 (aft.map tru) = AE) (hlen : 1 ≤ A0.sl.length)
    (hrel : Rel A0 AE) (hwd : W64 A0) (hwe : W64 AE) :
    Calls Try.prog 5 #[v, u] w fun e w' => e = .returned (.bool true) ∧ Keeps Nob w w' := by
  have HO := Lib.hid h
  have HO2 := Lib.hid h2
  obtain ⟨A, c, hv, hc1, hc2, hc3, _⟩ := h
  obtain ⟨A', c', hu, hd1, hd2, hd3, _⟩ := h2
  subst hv hu
  have HB := fun wx => begunJ (n := 20) wx (by decide) (by decide)
  have HA := Lib.hid hA
  have HE := Lib.hid hE
  have HREL := Lib.hid hrel
  have HWD := Lib.hid hwd
  have HWE := Lib.hid hwe
  have HLEN := Lib.hid hlen
  have FU := fun wx G b p q (hj : J wx G b p q A0 A0) => hj.usedR
  have hlb := fun wx G b p q (hj : J wx G b p q A0 A0) => hj.bound.1
  clear hlen hc1 hc2 hd1 hd2 hA hE hrel hwd hwe
  obtain ⟨i0, hi, hz0, hz1, hz2⟩ := info_parts Try.inf_u64
  obtain ⟨i1, hi1, hy0, hy1, hy2⟩ := info_parts Try.inf_node
  unfold iV pV at *
  go_enter Try.func5, Try.ntmps5
  go_wp2_with fail
  refine (HB w).mono ?_
  rintro e w2 ⟨b, p, q, rfl, hj, hk⟩
  have HJ := Lib.hid hj
  have K := Lib.hid hk
  clear hj hk HB
  go_wp2
  go_loopw [7] (fun i wr => ∃ k : Nat, k ≤ bs.length ∧ i = .int .i64 k ∧ J wr (From w.heap.size) b p q (steps (ar0 20) (bs.take k)) (steps (ar0 20) (bs.take k)) ∧ Keeps Nob w wr) (fun i _ => bs.length - (intOf i).toNat)
  case atStart => exact ⟨0, Nat.zero_le _, rfl, HJ.out, K.out⟩
  obtain ⟨k, hk, rfl, hj, hkr⟩ := hrel
  rcases Nat.lt_or_ge k bs.length with hlt | hlt
  · obtain ⟨o, ho⟩ : ∃ o, bs[k]? = some o := ⟨_, List.getElem?_eq_getElem hlt⟩
    have hst : steps (ar0 20) (bs.take (k + 1)) = step (steps (ar0 20) (bs.take k)) o := by rw [take_snoc' _ _ _ ho, steps_snoc]
    have HST := Lib.hid hst
    obtain ⟨ad, c0, c1, c2, c3, c4, c5, rfl, hop, q0, q1, q2, q3, q4, q5, q6, q7, q8, q9, q10⟩ := (HO.out.keeps hkr (fun _ _ => id)).at_ ho
    have HR := Lib.hid (rawJ hj hop (fun x hx hg => absurd hx (Nat.not_lt.2 hg)))
    have HK := Lib.hid hkr
    clear hop ho hkr hj hst
    unfold pV at HR
    have hk64 : k < 9223372036854775807 := by omega
    go_wp2_with fail
    refine HR.out.mono ?_
    rintro e wk ⟨rfl, hj, hk2⟩
    have HJ2 := Lib.hid hj
    have HK2 := Lib.hid (HK.out.trans hk2 (fun x hx hg => absurd hx (Nat.not_lt.2 hg)))
    clear hj hk2
    go_wp2
    go_roundw
    case rel => exact ⟨k + 1, by omega, by go_num, by rw [HST.out]; exact HJ2.out, HK2.out⟩
    case measure => simp [intOf]; omega
  obtain rfl : k = bs.length := by omega
  rw [List.take_length] at hj
  replace HJ := Lib.hid hj
  replace K := Lib.hid hkr
  clear hj hkr
  rw [HA.out] at HJ
  have hn64 := hlb _ _ _ _ _ HJ.out
  clear hlb
  have r1 := HJ.out.blk.cell 1
  unfold pV at r1
  obtain ⟨wb, hwb⟩ : ∃ x, x = wr := ⟨_, rfl⟩
  subst hwb
  go_wp2_with fail
  refine (FU _ _ _ _ _ HJ.out).mono ?_
  rintro e w' ⟨rfl, rfl⟩
  go_wp2
  clear r1
  have HJB := Lib.hid HJ.out
  have KWB := Lib.hid K.out
  go_loopw [9, 10, 11] (fun wv nv i wr => ∃ k : Nat, k ≤ A0.sl.length ∧ i = .int .i64 ((k : Int) + 1) ∧ ∃ xs, Own wr (From wb.heap.size) 30 1 wv k ((A0.sl.take k).map (fun s => Value.int .u64 (s.word : Int))) ∧ Own wr (From wb.heap.size) 51 6 nv k xs ∧ NdsAt wr (From wb.heap.size) xs ((A0.sl.take k).map (fun s => s.nd)) ∧ Keeps Nob wb wr) (fun _ _ i _ => A0.sl.length + 1 - (intOf i).toNat)
  case atStart => exact ⟨0, Nat.zero_le _, rfl, [], Own.nil _ _ _ _, Own.nil _ _ _ _, fun j n hn => by simp at hn, Keeps.refl _ _⟩
  obtain ⟨k, hk, rfl, xs, how, hon, hnx, hkb⟩ := hrel
  rcases Nat.lt_or_ge k A0.sl.length with hlt | hlt
  · obtain ⟨s, hs⟩ : ∃ s, A0.sl[k]? = some s := ⟨_, List.getElem?_eq_getElem hlt⟩
    have hg : A0.get ((k : Int) + 1) = some s := by
      unfold Ar.get; rw [if_pos (by omega), show ((k : Int) + 1 - 1).toNat = k by omega]; exact hs
    have HT1 : Hid ((A0.sl.take (k + 1)).map (fun s => Value.int .u64 (s.word : Int)) = ((A0.sl.take k).map (fun s => Value.int .u64 (s.word : Int))) ++ [.int .u64 (s.word : Int)]) := by show _ = _; rw [take_snoc' A0.sl k s hs, List.map_append]; rfl
    have HT2 : Hid ((A0.sl.take (k + 1)).map (fun s => s.nd) = ((A0.sl.take k).map (fun s => s.nd)) ++ [s.nd]) := by show _ = _; rw [take_snoc' A0.sl k s hs, List.map_append]; rfl
    have FW := fun wx G b p q (hj : J wx G b p q A0 A0) => hj.wordX (ix := (k : Int) + 1)
    have FH := fun wx G b p q (hj : J wx G b p q A0 A0) => hj.headX (ix := (k : Int) + 1)
    have FB := fun wx G b p q (hj : J wx G b p q A0 A0) => hj.bodyX (ix := (k : Int) + 1)
    rw [opWord_some hg, opErr_some hg] at FW
    rw [opErr_some hg, opNd_some hg] at FH FB
    have HXL := Lib.hid hon.1
    obtain ⟨Aw, cw, e1⟩ := how.form
    obtain ⟨An, cn, e2⟩ := hon.form
    subst e1 e2
    have HLT : Hid (k < A0.sl.length) := hlt
    clear hs hg
    generalize s.word = x0 at *
    generalize s.nd = m at *
    have HOW := Lib.hid how
    have HON := Lib.hid hon
    have HNX := Lib.hid hnx
    have KB := Lib.hid hkb
    replace K := Lib.hid (KWB.out.trans hkb (fun _ _ h => h))
    replace HJ := Lib.hid (HJB.out.nob hkb)
    have S0 := Lib.hid hkb.size
    clear how hon hnx hkb
    unfold pV iV at FW FH FB
    have r0 := HJ.out.blk.cell 0
    unfold pV at r0
    have hle : (k : Int) + 1 ≤ A0.sl.length := by omega
    go_wp2_with fail
    refine (FW _ _ _ _ _ HJ.out).mono ?_
    rintro e w' ⟨rfl, rfl⟩
    go_wp2_with fail
    clear r0
    refine (FH _ _ _ _ _ HJ.out).mono ?_
    rintro e w1 ⟨d0, d1, d2, rfl, ho, hj, hk⟩
    have f0 := ho.lvl
    obtain ⟨A1, j1, f1⟩ := Own.form ho.high
    have f2 := ho.right
    unfold iV at f0 f2
    subst f0 f1 f2
    have HH := Lib.hid ho
    have S1 := Lib.hid hk.size
    replace K := Lib.hid (K.out.trans hk (fun _ _ h => h)); replace KB := Lib.hid (KB.out.trans hk (fun _ _ h => h)); replace HOW := Lib.hid (HOW.out.keeps hk (fun _ _ _ => id)); replace HON := Lib.hid (HON.out.keeps hk (fun _ _ _ => id)); replace HNX := Lib.hid (HNX.out.keeps hk (fun _ _ _ => id))
    replace HJ := Lib.hid hj
    clear ho hj hk
    have r0 := HJ.out.blk.cell 0
    have rl := HJ.out.blk.lt
    unfold pV at r0
    go_wp2_with fail
    clear r0 rl
    refine calls_at (fun w2 hw => ?_)
    obtain ⟨NH, hN⟩ : ∃ N, w1.heap.size = N := ⟨_, rfl⟩
    have hk : Keeps Nob w1 w2 := by rw [hw]; exact Keeps.alloc _ _ _
    have BH : Hid (Blk w2 NH 46 #[.int .i64 m.lvl, .slice A1 m.high.length j1, .int .i64 m.right]) := by rw [hw, ← hN]; exact Blk.new _ _ _
    rw [hN]
    have S2 := Lib.hid hk.size
    replace HH := Lib.hid (HH.out.keeps hk (fun _ _ _ => id))
    replace HJ := Lib.hid (HJ.out.nob hk)
    replace K := Lib.hid (K.out.trans hk (fun _ _ h => h)); replace KB := Lib.hid (KB.out.trans hk (fun _ _ h => h)); replace HOW := Lib.hid (HOW.out.keeps hk (fun _ _ _ => id)); replace HON := Lib.hid (HON.out.keeps hk (fun _ _ _ => id)); replace HNX := Lib.hid (HNX.out.keeps hk (fun _ _ _ => id))
    clear hw hN hk
    refine (FB _ _ _ _ _ HJ.out).mono ?_
    rintro e w3 ⟨d0, d1, d2, rfl, ho, hj, hk⟩
    obtain ⟨B3, j3, f0⟩ := OTx.form ho.keys
    obtain ⟨B4, j4, f1⟩ := OTx.form ho.vals
    obtain ⟨B5, j5, f2⟩ := Own.form ho.kids
    subst f0 f1 f2
    have HC := Lib.hid ho
    have S3 := Lib.hid hk.size
    replace HH := Lib.hid (HH.out.keeps hk (fun _ _ _ => id))
    replace BH := Lib.hid (BH.out.keeps hk id)
    replace K := Lib.hid (K.out.trans hk (fun _ _ h => h)); replace KB := Lib.hid (KB.out.trans hk (fun _ _ h => h)); replace HOW := Lib.hid (HOW.out.keeps hk (fun _ _ _ => id)); replace HON := Lib.hid (HON.out.keeps hk (fun _ _ _ => id)); replace HNX := Lib.hid (HNX.out.keeps hk (fun _ _ _ => id))
    replace HJ := Lib.hid hj
    clear ho hj hk
    have s13 : wr.heap.size ≤ w3.heap.size := by have := S1.out; have := S2.out; have := S3.out; omega
    go_wp2_with (at_builtin; refine wpList_app rfl (.tmp 97) (.tmp 99) 37 rfl Try.underlying37 hi hz0 hz1 hz2 rfl (by decide) (v := .slice Aw k cw) (n := k) (m := 1) (S := From wb.heap.size) (T := fun _ => True) (xs := ((A0.sl.take k).map (fun s => Value.int .u64 (s.word : Int)))) (news := [.int .u64 (x0 : Int)]) rfl ?c1 (y := .slice (some ⟨w3.heap.size + 1, 0, none⟩) 1 1) rfl ?c2 ?c3 ?c4 ?c5 ?c6)
    case c1 => exact HOW.out.keeps ((Keeps.alloc Nob _ _).alloc' _) (fun _ _ _ => id)
    case c2 => exact (SlG.lit1 _ _ _ _ (by simp)).mono (fun _ _ _ => trivial)
    case c3 => intro u hu; simp at hu; subst hu; rfl
    case c4 => unfold maxLen; omega
    case c5 => omega
    case c6 =>
      intro v' w6 ho hk6 _
      obtain ⟨Av, cv, ev⟩ := ho.form
      subst ev
      obtain ⟨w5, hw5⟩ : ∃ x, x = (w3.alloc (.cells #[.slice B3 m.keys.length j3, .slice B4 m.vals.length j4, .slice B5 m.kids.length j5] 49)).alloc (.cells #[.int .u64 (x0 : Int)] 30) := ⟨_, rfl⟩
      rw [← hw5] at hk6
      simp only [← List.map_take] at ho
      have k35 : Keeps Nob w3 w5 := by rw [hw5]; exact (Keeps.alloc _ _ _).alloc' _
      have bc5 : Blk w5 w3.heap.size 49 #[.slice B3 m.keys.length j3, .slice B4 m.vals.length j4, .slice B5 m.kids.length j5] := by rw [hw5]; exact (Blk.new _ _ _).alloc _
      clear hw5
      have kk : ∀ {P : Nat → Prop} {z : Nat}, ∀ x, x < z → P x → ¬ Nob x := fun _ _ _ => id
      have how5 := HOW.out.keeps k35 kk
      have BC := Lib.hid (bc5.keepsOx how5 (by decide) hk6)
      replace BH := Lib.hid ((BH.out.keeps k35 id).keepsOx how5 (by decide) hk6)
      have ha : Apart 30 := ⟨by decide, by decide, by decide⟩
      have hhc : ONd w3 (From wb.heap.size) _ _ _ _ _ _ m := ⟨HH.out.mono (fun x _ hx => by have h1 := hx.1; have := S0.out; show _ ≤ _; omega), HC.out.mono (fun x _ hx => by have h1 := hx.1; have := S0.out; have := S1.out; have := S2.out; show _ ≤ _; omega)⟩
      have HND := Lib.hid ((hhc.keeps k35 kk).keepsOx how5 ha hk6)
      replace HNX := Lib.hid ((HNX.out.keeps k35 kk).keepsOx how5 ha hk6)
      replace HON := Lib.hid (Own.keepsO (HON.out.keeps k35 kk) how5 (by decide) hk6)
      have hown : ∀ x, (Value.slice Aw k cw).ownBlock = some x → wb.heap.size ≤ x := fun x hx => (how5.blk hx).1
      have HOW6 : Hid (Own w6 (From wb.heap.size) 30 1 (.slice Av (k + 1) cv) (k + 1) (((A0.sl.take k).map (fun s => Value.int .u64 (s.word : Int))) ++ [.int .u64 (x0 : Int)])) := ho.mono (fun x _ hx => by
        rcases hx with hx | hx
        · exact hown x hx
        · have h1 := hx.1; have := S0.out; show _ ≤ _; omega)
      have s36 : w3.heap.size ≤ w6.heap.size := Nat.le_trans k35.size hk6.size
      replace KB := Lib.hid ((KB.out.trans k35 (fun _ _ h => h)).trans hk6 (fun x hx hm => by have := hown x hm; omega))
      have S36 := Lib.hid s36
      clear ho hk6 k35 bc5 how5 hhc hown kk HOW HH HC s36 K HJ
      have q1 := fun i => BH.out.cell i
      have q2 := fun i => BC.out.cell i
      have l1 := BH.out.lt
      have l2 := BC.out.lt
      go_wp2_with (at_builtin; refine wpList_app rfl (.tmp 101) (.tmp 105) 61 rfl Try.underlying61 hi1 hy0 hy1 hy2 rfl (by decide) (v := .slice An k cn) (n := k) (m := 1) (S := From wb.heap.size) (T := fun _ => True) (xs := xs) (news := [.int .i64 m.lvl, .slice A1 m.high.length j1, .int .i64 m.right, .slice B3 m.keys.length j3, .slice B4 m.vals.length j4, .slice B5 m.kids.length j5]) rfl ?d1 (y := .slice (some ⟨w6.heap.size, 0, none⟩) 1 1) rfl ?d2 ?d3 ?d4 ?d5 ?d6)
      case d1 => exact HON.out.keeps (Keeps.alloc Nob _ _) (fun _ _ _ => id)
      case d2 => exact (SlG.lit _ _ [.int .i64 m.lvl, .slice A1 m.high.length j1, .int .i64 m.right, .slice B3 m.keys.length j3, .slice B4 m.vals.length j4, .slice B5 m.kids.length j5] 6 1 _ rfl rfl (by decide)).mono (fun _ _ _ => trivial)
      case d3 => intro u hu; simp only [List.mem_cons, List.not_mem_nil, or_false] at hu; rcases hu with h | h | h | h | h | h <;> subst h <;> rfl
      case d4 => unfold maxLen; omega
      case d5 => omega
      case d6 =>
        intro v'' w8 ho hk8 _
        clear q1 q2 l1 l2
        have k67 : Keeps Nob w6 _ := Keeps.alloc Nob w6 (.cells #[.int .i64 m.lvl, .slice A1 m.high.length j1, .int .i64 m.right, .slice B3 m.keys.length j3, .slice B4 m.vals.length j4, .slice B5 m.kids.length j5] 51)
        have kk : ∀ {P : Nat → Prop} {z : Nat}, ∀ x, x < z → P x → ¬ Nob x := fun _ _ _ => id
        have ha : Apart 51 := ⟨by decide, by decide, by decide⟩
        have hon7 := HON.out.keeps k67 kk
        have how8 := Own.keepsO (HOW6.out.keeps k67 kk) hon7 (by decide) hk8
        have hnd8 := (HND.out.keeps k67 kk).keepsOx hon7 ha hk8
        have hnx8 := (HNX.out.keeps k67 kk).keepsOx hon7 ha hk8
        have hown : ∀ x, (Value.slice An k cn).ownBlock = some x → wb.heap.size ≤ x := fun x hx => (hon7.blk hx).1
        have HON8 := Lib.hid (ho.mono (T := From wb.heap.size) (fun x _ hx => by
          rcases hx with hx | hx
          · exact hown x hx
          · have h1 := hx.1; have := S36.out; have := S0.out; show _ ≤ _; omega))
        have HOW8 := Lib.hid how8
        have HNX8 := Lib.hid (hnx8.snoc (by rw [HXL.out]; simp; have := HLT.out; omega) hnd8)
        replace KB := Lib.hid ((KB.out.trans k67 (fun _ _ h => h)).trans hk8 (fun x hx hm => by have := hown x hm; omega))
        clear ho hk8 k67 hon7 how8 hnd8 hnx8 hown kk HOW6 HON HND HNX
        go_wp2
        go_roundw
        case rel =>
          refine ⟨k + 1, HLT.out, by go_num, xs ++ _, ?_, HON8.out, ?_, KB.out⟩
          · rw [HT1.out]; exact HOW8.out
          · rw [HT2.out]; exact HNX8.out
        case measure => have := HLT.out; simp [intOf]; omega
  obtain rfl : k = A0.sl.length := by omega
  rw [List.take_length] at how hnx
  have hnle : decide ((A0.sl.length : Int) + 1 ≤ A0.sl.length) = false := decide_eq_false (by omega)
  obtain ⟨wc, hwc⟩ : ∃ x, x = wr := ⟨_, rfl⟩
  subst hwc
  have hmono : ∀ {t : TypeId} {size n : Nat} {v : Value} {ys : List Value}, Own wc (From wb.heap.size) t size v n ys → Own wc (fun x => wb.heap.size ≤ x ∧ x < wc.heap.size) t size v n ys := fun h => h.mono (fun x hx hf => ⟨hf, hx⟩)
  replace how := hmono how
  replace hon := hmono hon
  replace hnx := hnx.mono (T := (fun x => wb.heap.size ≤ x ∧ x < wc.heap.size)) (fun x hx hf => ⟨hf, hx⟩)
  obtain ⟨Aw, cw, e1⟩ := how.form
  obtain ⟨An, cn, e2⟩ := hon.form
  subst e1 e2
  obtain ⟨_, _, f1⟩ := how.at_
  obtain ⟨_, _, f2⟩ := hon.at_
  rcases f1 with ⟨rfl, rfl⟩ | ⟨g1, o1, cur1, rfl, hg1, hb1, _, hx1⟩
  · exact absurd how.at_.1 (by have := HLEN.out; omega)
  rcases f2 with ⟨rfl, rfl⟩ | ⟨g2, o2, cur2, rfl, hg2, hb2, _, hx2⟩
  · exact absurd hon.at_.1 (by have := HLEN.out; omega)
  have HCW : Hid (∀ i s, A0.sl[i]? = some s → wc.cell? ⟨g1, o1 + i, none⟩ = some (.int .u64 (s.word : Int))) := fun i s hs => by rw [hb1.cell]; exact hx1 i _ (by rw [List.getElem?_map, hs]; rfl)
  have HCN : Hid (∀ i x, xs[i]? = some x → wc.cell? ⟨g2, o2 + i, none⟩ = some x) := fun i x hx => by rw [hb2.cell]; exact hx2 i x hx
  have HG1 : Hid (wb.heap.size ≤ g1 ∧ g1 < wc.heap.size) := hg1
  have HG2 : Hid (wb.heap.size ≤ g2 ∧ g2 < wc.heap.size) := hg2
  have HNX := Lib.hid hnx
  have KB := Lib.hid hkb
  have HJC : Hid (J wc (fun x => w.heap.size ≤ x ∧ ¬ (wb.heap.size ≤ x ∧ x < wc.heap.size)) b p q A0 A0) := HJB.out.enter hkb (fun x hx hg => ⟨hg, fun h => by have := h.1; omega⟩) (fun x hx => ⟨Nat.le_trans (Nat.le_trans KWB.out.size hkb.size) hx, fun h => by have := h.2; omega⟩)
  replace K := Lib.hid (KWB.out.trans hkb (fun _ _ h => h))
  clear how hon hnx hkb hg1 hb1 hx1 hg2 hb2 hx2 hmono HJB KWB hk hlt HJ
  go_wp2
  go_loopw [18] (fun i wr => ∃ k : Nat, k ≤ aft.length ∧ i = .int .i64 k ∧ J wr (fun x => w.heap.size ≤ x ∧ ¬ (wb.heap.size ≤ x ∧ x < wc.heap.size)) b p q (steps A0 ((aft.map tru).take k)) (steps A0 ((aft.map tru).take k)) ∧ Keeps Nob w wr ∧ Keeps (fun x => w.heap.size ≤ x ∧ ¬ (wb.heap.size ≤ x ∧ x < wc.heap.size)) wc wr) (fun i _ => aft.length - (intOf i).toNat)
  case atStart => exact ⟨0, Nat.zero_le _, rfl, HJC.out, K.out, Keeps.refl _ _⟩
  obtain ⟨k, hk, rfl, hj, hkr, hkc⟩ := hrel
  rcases Nat.lt_or_ge k aft.length with hlt | hlt
  · obtain ⟨o, ho⟩ : ∃ o, aft[k]? = some o := ⟨_, List.getElem?_eq_getElem hlt⟩
    have hst : steps A0 ((aft.map tru).take (k + 1)) = step (steps A0 ((aft.map tru).take k)) (tru o) := by rw [take_snoc' _ _ (tru o) (by rw [List.getElem?_map, ho]; rfl), steps_snoc]
    have HST := Lib.hid hst
    obtain ⟨ad, c0, c1, c2, c3, c4, c5, rfl, hop, q0, q1, q2, q3, q4, q5, q6, q7, q8, q9, q10⟩ := (HO2.out.keeps hkr (fun _ _ => id)).at_ ho
    have hnd := hop.node
    have HOP := Lib.hid hop
    obtain ⟨X1, x1, e1, _, _⟩ := hnd.1.high.form
    obtain ⟨X3, x3, e3, _, _⟩ := hnd.2.keys.form
    obtain ⟨X4, x4, e4, _, _⟩ := hnd.2.vals.form
    obtain ⟨X5, x5, e5, _, _⟩ := hnd.2.kids.form
    have e0 := hnd.1.lvl
    have e2 := hnd.1.right
    unfold iV at e0 e2
    subst e0 e1 e2 e3 e4 e5
    have HJK := Lib.hid hj
    have HK := Lib.hid hkr
    have HKC := Lib.hid hkc
    clear hop ho hkr hj hst hnd hkc
    have hk64 : k < 9223372036854775807 := by omega
    go_wp2_with fail
    refine calls_at (fun wa hw => ?_)
    have hka : Keeps Nob wr wa := by rw [hw]; exact Keeps.alloc _ _ _
    clear hw q0 q1 q2 q3 q4 q5 q6 q7 q8 q9 q10
    have HR := Lib.hid (rawJ (HJK.out.nob hka) (HOP.out.tru hka) (fun x hx hg => absurd hx (Nat.not_lt.2 hg.1)))
    unfold pV at HR
    have HK2 := Lib.hid (HK.out.trans hka (fun _ _ h => h))
    have HKC2 := Lib.hid (HKC.out.trans hka (fun _ _ h => h.elim))
    clear hka
    refine HR.out.mono ?_
    rintro e wk ⟨rfl, hj, hk2⟩
    have HJ2 := Lib.hid hj
    have HK3 := Lib.hid (HK2.out.trans hk2 (fun x hx hg => absurd hx (Nat.not_lt.2 hg.1)))
    have HKC3 := Lib.hid (HKC2.out.trans hk2 (fun x _ hg => hg))
    clear hj hk2
    go_wp2
    go_roundw
    case rel => exact ⟨k + 1, by omega, by go_num, by rw [HST.out]; exact HJ2.out, HK3.out, HKC3.out⟩
    case measure => simp [intOf]; omega
  obtain rfl : k = aft.length := by omega
  rw [List.take_of_length_le (by rw [List.length_map]; omega), HE.out] at hj
  have HJE := Lib.hid hj
  have KE := Lib.hid hkr
  have KCE := Lib.hid hkc
  clear hj hkr hkc hk hlt HJC
  go_wp2
  go_loopw [20] (fun i wr => ∃ k : Nat, k ≤ A0.sl.length ∧ i = .int .i64 ((k : Int) + 1) ∧ J wr (fun x => w.heap.size ≤ x ∧ ¬ (wb.heap.size ≤ x ∧ x < wc.heap.size)) b p q AE AE ∧ Keeps Nob w wr ∧ Keeps (fun x => w.heap.size ≤ x ∧ ¬ (wb.heap.size ≤ x ∧ x < wc.heap.size)) wc wr) (fun i _ => A0.sl.length + 1 - (intOf i).toNat)
  case atStart => exact ⟨0, Nat.zero_le _, rfl, HJE.out, KE.out, KCE.out⟩
  obtain ⟨k, hk, rfl, hj, hkr, hkc⟩ := hrel
  rcases Nat.lt_or_ge k A0.sl.length with hlt | hlt
  · obtain ⟨s, hs⟩ : ∃ s, A0.sl[k]? = some s := ⟨_, List.getElem?_eq_getElem hlt⟩
    have hg : A0.get ((k : Int) + 1) = some s := by
      unfold Ar.get; rw [if_pos (by omega), show ((k : Int) + 1 - 1).toNat = k by omega]; exact hs
    obtain ⟨s', hg', hle', hsm⟩ := HREL.out _ _ hg
    have FW := fun wx G b p q (hj : J wx G b p q AE AE) => hj.wordX (ix := (k : Int) + 1)
    have FH := fun wx G b p q (hj : J wx G b p q AE AE) => hj.headX (ix := (k : Int) + 1)
    have FB := fun wx G b p q (hj : J wx G b p q AE AE) => hj.bodyX (ix := (k : Int) + 1)
    rw [opWord_some hg', opErr_some hg'] at FW
    rw [opErr_some hg', opNd_some hg'] at FH FB
    have cw0 := HCW.out k s hs
    obtain ⟨c0, c1, c2, c3, c4, c5, g0, g1', g2', g3, g4, g5, hnd⟩ := HNX.out k s.nd (by rw [List.getElem?_map, hs]; rfl)
    have hu1 : U64 s'.word := w64_get HWE.out hg'
    have HSM : Hid (s'.word = s.word → s.word % 2 = 0 → s'.nd = s.nd) := hsm
    have HLT : Hid (k < A0.sl.length) := hlt
    clear hs hg hg' hle' hsm
    generalize s.word = x0 at *
    generalize s.nd = m0 at *
    generalize s'.word = x1 at *
    generalize s'.nd = m at *
    have hx10 : (0 : Int) ≤ x1 := by omega
    have hx1i : (x1 : Int) < 18446744073709551616 := by unfold U64 at hu1; omega
    have hmod := mod2_int x1
    have CW0 := Lib.hid cw0
    have CN0 := Lib.hid (HCN.out _ _ g0)
    have CN1 := Lib.hid (HCN.out _ _ g1')
    have CN2 := Lib.hid (HCN.out _ _ g2')
    have CN3 := Lib.hid (HCN.out _ _ g3)
    have CN4 := Lib.hid (HCN.out _ _ g4)
    have CN5 := Lib.hid (HCN.out _ _ g5)
    have HND := Lib.hid hnd
    have HJ := Lib.hid hj
    have KC := Lib.hid hkc
    replace K := Lib.hid hkr
    clear hj hkr hkc hnd cw0 g0 g1' g2' g3 g4 g5 hu1
    have HMOD := Lib.hid hmod
    clear hmod
    unfold pV iV at FW FH FB
    have r0 := HJ.out.blk.cell 0
    unfold pV at r0
    have hle : (k : Int) + 1 ≤ A0.sl.length := by omega
    go_wp2_with fail
    refine (FW _ _ _ _ _ HJ.out).mono ?_
    rintro e w' ⟨rfl, rfl⟩
    go_wp2_with fail
    clear r0
    refine (FH _ _ _ _ _ HJ.out).mono ?_
    rintro e w1 ⟨d0, d1, d2, rfl, ho, hj, hk⟩
    have f0 := ho.lvl
    obtain ⟨A1, j1, f1⟩ := Own.form ho.high
    have f2 := ho.right
    unfold iV at f0 f2
    subst f0 f1 f2
    have HH := Lib.hid ho
    have S1 := Lib.hid hk.size
    replace K := Lib.hid (K.out.trans hk (fun _ _ h => h)); replace KC := Lib.hid (KC.out.trans hk (fun _ _ h => h.elim))
    replace HJ := Lib.hid hj
    clear ho hj hk
    have r0 := HJ.out.blk.cell 0
    have rl := HJ.out.blk.lt
    unfold pV at r0
    go_wp2_with fail
    clear r0 rl
    refine calls_at (fun w2 hw => ?_)
    obtain ⟨NH, hN⟩ : ∃ N, w1.heap.size = N := ⟨_, rfl⟩
    have hk : Keeps Nob w1 w2 := by rw [hw]; exact Keeps.alloc _ _ _
    have BH : Hid (Blk w2 NH 46 #[.int .i64 m.lvl, .slice A1 m.high.length j1, .int .i64 m.right]) := by rw [hw, ← hN]; exact Blk.new _ _ _
    rw [hN]
    have S2 := Lib.hid hk.size
    replace HH := Lib.hid (HH.out.keeps hk (fun _ _ _ => id))
    replace HJ := Lib.hid (HJ.out.nob hk)
    replace K := Lib.hid (K.out.trans hk (fun _ _ h => h)); replace KC := Lib.hid (KC.out.trans hk (fun _ _ h => h.elim))
    clear hw hN hk
    refine (FB _ _ _ _ _ HJ.out).mono ?_
    rintro e w3 ⟨d0, d1, d2, rfl, ho, hj, hk⟩
    obtain ⟨B3, j3, f0⟩ := OTx.form ho.keys
    obtain ⟨B4, j4, f1⟩ := OTx.form ho.vals
    obtain ⟨B5, j5, f2⟩ := Own.form ho.kids
    subst f0 f1 f2
    have HC := Lib.hid ho
    have S3 := Lib.hid hk.size
    replace HH := Lib.hid (HH.out.keeps hk (fun _ _ _ => id))
    replace BH := Lib.hid (BH.out.keeps hk id)
    replace K := Lib.hid (K.out.trans hk (fun _ _ h => h)); replace KC := Lib.hid (KC.out.trans hk (fun _ _ h => h.elim))
    replace HJ := Lib.hid hj
    clear ho hj hk
    go_wp2
    refine code_at (fun w4 hw => ?_)
    obtain ⟨NC, hN⟩ : ∃ N, w3.heap.size = N := ⟨_, rfl⟩
    have hk : Keeps Nob w3 w4 := by rw [hw]; exact Keeps.alloc _ _ _
    have BC : Hid (Blk w4 NC 49 #[.slice B3 m.keys.length j3, .slice B4 m.vals.length j4, .slice B5 m.kids.length j5]) := by rw [hw, ← hN]; exact Blk.new _ _ _
    rw [hN]
    replace HH := Lib.hid (HH.out.keeps hk (fun _ _ _ => id))
    replace HC := Lib.hid (HC.out.keeps hk (fun _ _ _ => id))
    replace BH := Lib.hid (BH.out.keeps hk id)
    replace HJ := Lib.hid (HJ.out.nob hk)
    replace K := Lib.hid (K.out.trans hk (fun _ _ h => h)); replace KC := Lib.hid (KC.out.trans hk (fun _ _ h => h.elim))
    clear hw hN hk
    have hng1 : ¬ (fun x => w.heap.size ≤ x ∧ ¬ (wb.heap.size ≤ x ∧ x < wc.heap.size)) g1 := fun h => h.2 HG1.out
    have hng2 : ¬ (fun x => w.heap.size ≤ x ∧ ¬ (wb.heap.size ≤ x ∧ x < wc.heap.size)) g2 := fun h => h.2 HG2.out
    have hwr : IntKind.i64.wrap (k : Int) = (k : Int) := by rw [IntKind.wrap_i64]; omega
    have hpos : 0 ≤ (k : Int) ∧ (k : Int) < (A0.sl.length : Int) := by omega
    refine wp_region_canon [0, 1, 2, 3, 4, 5, 6, 7, 8, 9] 10 (fun W => W.cell? ⟨g2, o2 + k * 6, none⟩ = some c0 ∧ W.cell? ⟨g2, o2 + k * 6 + 1, none⟩ = some c1 ∧ W.cell? ⟨g2, o2 + k * 6 + 2, none⟩ = some c2 ∧ W.cell? ⟨g2, o2 + k * 6 + 3, none⟩ = some c3 ∧ W.cell? ⟨g2, o2 + k * 6 + 4, none⟩ = some c4 ∧ W.cell? ⟨g2, o2 + k * 6 + 5, none⟩ = some c5 ∧
      W.cell? ⟨NH, 0, none⟩ = some (.int .i64 m.lvl) ∧ W.cell? ⟨NH, 1, none⟩ = some (.slice A1 m.high.length j1) ∧ W.cell? ⟨NH, 2, none⟩ = some (.int .i64 m.right) ∧ W.cell? ⟨NC, 0, none⟩ = some (.slice B3 m.keys.length j3) ∧ W.cell? ⟨NC, 1, none⟩ = some (.slice B4 m.vals.length j4) ∧ W.cell? ⟨NC, 2, none⟩ = some (.slice B5 m.kids.length j5)) (by kernel_rfl) (by kernel_rfl) rfl (by kernel_rfl) (fun _ _ d _ _ h => by cases d <;> exact h) ?_ ?_
    · exact ⟨KC.out.cell CN0.out hng2, KC.out.cell CN1.out hng2, KC.out.cell CN2.out hng2, KC.out.cell CN3.out hng2, KC.out.cell CN4.out hng2, KC.out.cell CN5.out hng2, BH.out.cell 0, BH.out.cell 1, BH.out.cell 2, BC.out.cell 0, BC.out.cell 1, BC.out.cell 2⟩
    iterate 8
      refine wpCanon_read (v := ?_) rfl (by kernel_rfl) (by rfl) ?_ ?_
      rotate_left
      · intro W hW
        try (obtain ⟨g1, g2, g3, g4, g5, g6, g7, g8, g9, g10, g11, g12⟩ : _ ∧ _ ∧ _ ∧ _ ∧ _ ∧ _ ∧ _ ∧ _ ∧ _ ∧ _ ∧ _ ∧ _ := hW)
        go_simp
        try simp only [hwr, if_pos hpos, Int.toNat_natCast]
        try rfl
      simp only [Act.put, List.setIfInBounds_toArray, List.set_cons_zero, List.set_cons_succ]
    have HND4 := Lib.hid (HND.out.keeps KC.out (fun x _ hx hgx => hgx.2 hx))
    have hk : Keeps Nob w4 w4.drew := Keeps.drew _ _
    replace HH := Lib.hid (HH.out.keeps hk (fun _ _ _ => id))
    replace HC := Lib.hid (HC.out.keeps hk (fun _ _ _ => id))
    replace HND4 := Lib.hid (HND4.out.keeps hk (fun _ _ _ => id))
    replace BH := Lib.hid (BH.out.keeps hk id)
    replace BC := Lib.hid (BC.out.keeps hk id)
    replace HJ := Lib.hid (HJ.out.nob hk)
    replace K := Lib.hid (K.out.trans hk (fun _ _ h => h)); replace KC := Lib.hid (KC.out.trans hk (fun _ _ h => h.elim))
    clear hk
    have HSN := Lib.hid (sameN (n := m0) (m := m) HND4.out.r ⟨HH.out.r.mono (T := fun _ => True) (fun _ _ _ => trivial), HC.out.r.mono (fun _ _ _ => trivial)⟩)
    refine wpCanon_act rfl (by kernel_rfl) ?_
    go_wp2_with (go_at_call 32; refine HSN.out.mono ?_; rintro e w5 ⟨rfl, hk⟩)
    replace BH := Lib.hid (BH.out.keeps hk id)
    replace BC := Lib.hid (BC.out.keeps hk id)
    replace HJ := Lib.hid (HJ.out.nob hk)
    replace K := Lib.hid (K.out.trans hk (fun _ _ h => h)); replace KC := Lib.hid (KC.out.trans hk (fun _ _ h => h.elim))
    clear hk
    refine ⟨.inr ⟨KC.out.cell CN0.out hng2, KC.out.cell CN1.out hng2, KC.out.cell CN2.out hng2, KC.out.cell CN3.out hng2, KC.out.cell CN4.out hng2, KC.out.cell CN5.out hng2, BH.out.cell 0, BH.out.cell 1, BH.out.cell 2, BC.out.cell 0, BC.out.cell 1, BC.out.cell 2⟩, ?_⟩
    iterate 1
      refine wpCanon_read (v := ?_) rfl (by kernel_rfl) (by rfl) ?_ ?_
      rotate_left
      · intro W hW
        try (obtain ⟨g1, g2, g3, g4, g5, g6, g7, g8, g9, g10, g11, g12⟩ : _ ∧ _ ∧ _ ∧ _ ∧ _ ∧ _ ∧ _ ∧ _ ∧ _ ∧ _ ∧ _ ∧ _ := hW)
        go_simp
        try simp only [hwr, if_pos hpos, Int.toNat_natCast]
        try rfl
      simp only [Act.put, List.setIfInBounds_toArray, List.set_cons_zero, List.set_cons_succ]
    refine wpCanon_nil ?_
    have hcw := KC.out.cell CW0.out hng1
    clear hwr hpos
    by_cases hx : x1 = x0
    · subst hx
      by_cases he : x1 % 2 = 0
      · have hsn : sameNd m0 m = true := by rw [HSM.out rfl he]; exact sameNd_self _
        have hmod := HMOD.out
        rw [he] at hmod
        clear he
        go_wp2
        go_roundw
        case rel => exact ⟨k + 1, HLT.out, by go_num, HJ.out, K.out, KC.out⟩
        case measure => have := HLT.out; simp [intOf]; omega
      · have hmod := HMOD.out
        rw [show x1 % 2 = 1 by omega] at hmod
        clear he
        go_wp2
        go_roundw
        case rel => exact ⟨k + 1, HLT.out, by go_num, HJ.out, K.out, KC.out⟩
        case measure => have := HLT.out; simp [intOf]; omega
    · have hne : ((x1 : Int) == (x0 : Int)) = false := by simp; omega
      clear hx
      go_wp2
      go_roundw
      case rel => exact ⟨k + 1, HLT.out, by go_num, HJ.out, K.out, KC.out⟩
      case measure => have := HLT.out; simp [intOf]; omega
  obtain rfl : k = A0.sl.length := by omega
  have hnle : decide ((A0.sl.length : Int) + 1 ≤ A0.sl.length) = false := decide_eq_false (by omega)
  replace K := Lib.hid hkr
  clear hj hkr hkc
  go_wp2
  go_ret
  exact ⟨rfl, K.out⟩

theorem seen_ok (h : OpsAt w w.heap.size v bs) (h2 : OpsAt w w.heap.size u aft) : Calls Try.prog 5 #[v, u] w fun e w' => e = .returned (.bool true) ∧ Keeps Nob w w' := by
  have hb : bs.length * 136 ≤ 140737488355328 := by obtain ⟨_, _, _, _, _, h, _⟩ := h; exact h
  have ha : aft.length * 136 ≤ 140737488355328 := by obtain ⟨_, _, _, _, _, h, _⟩ := h2; exact h
  have w0 : W64 (ar0 20) := by intro s hs; simp [ar0] at hs; subst hs; unfold U64; decide
  have b0 : WB 1 (ar0 20) := by intro s hs; simp [ar0] at hs; subst hs; decide
  have b1 := wb_steps bs b0 (Nat.le_refl _)
  refine seen_core h h2 rfl rfl (len_steps (ar0 20) bs) (rel_steps _ b1 (by omega) (by rw [List.length_map]; omega) (fun o ho => ?_)) (u64_steps _ _ w0) (u64_steps _ _ (u64_steps _ _ w0))
  obtain ⟨x, _, rfl⟩ := List.mem_map.1 ho
  rfl
end
end Go.Proofs.Ytdmmhblmgbhgfaa
