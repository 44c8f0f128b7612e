/- NodeJoined, walked. -/
import Derived.Test.YtdmmhblmgbhgfaaWithOk
import Derived.Test.YtdmmhblmgbhgfaaJoinD
namespace Go.Proofs.Ytdmmhblmgbhgfaa
open Go.RowKit

theorem inner_law {n : Nd} {key : List UInt8} (h : inner n = true) : below n.keys key + 1 ≤ n.kids.length := by
  unfold inner right at h
  rw [Bool.and_eq_true] at h
  have hl : 0 < n.lvl := by simpa using h.2
  have := h.1
  rw [if_neg (by omega)] at this
  simp at this
  have h1 := this.2.2.2
  have h2 := below_le n.keys key
  omega

section
variable {w : World} {c0 c1 c2 c3 c4 c5 ck : Value} {n : Nd} {key : List UInt8} {kid : Int}

set_option maxRecDepth 100000 in
set_option maxHeartbeats 1000000 in
theorem join_ok (h : IsNd w (fun b => b < w.heap.size) c0 c1 c2 c3 c4 c5 n) (hs : NdSm 64 n) (hky : Byts w (fun b => b < w.heap.size) ck key) (hsk : Sm 64 1 key.length) :
    Calls Try.prog 10 #[.agg #[c0, c1, c2, c3, c4, c5], ck, .int .i64 kid] w fun e w' => e = .returned (.bool true) ∧ Keeps Nob w w' := by
  have H := Lib.hid h
  have HKY := Lib.hid hky
  have HSK : Hid (Sm 0 1 key.length) := hsk.mono (by decide)
  have HS : Hid (NdSm 64 n) := hs
  clear h hs hky hsk
  obtain ⟨vl, hvl⟩ : ∃ v, inner n = v := ⟨_, rfl⟩
  obtain ⟨na, hna⟩ : ∃ m, jnd n key kid = m := ⟨_, rfl⟩
  obtain ⟨vh, hvh⟩ : ∃ v, (!has n.keys key) = v := ⟨_, rfl⟩
  have Qvl := Lib.hid hvl
  clear hvl
  have Qna := Lib.hid hna
  clear hna
  have Qvh := Lib.hid hvh
  clear hvh
  go_enter Try.func10, Try.ntmps10
  go_wp2_with fail
  refine calls_at (fun wa hw => ?_)
  have hk : Keeps Nob w wa := by rw [hw]; exact Keeps.alloc _ _ _
  have BN : Hid (Blk wa (w.heap.size) 51 #[c0, c1, c2, c3, c4, c5]) := by rw [hw]; exact Blk.new _ _ _
  have szwa := hk.size
  have ltBN := BN.out.lt
  have K := Lib.hid hk
  clear hw hk
  have HN := Lib.hid (H.out.keeps K.out (fun _ _ _ => id))
  clear H
  have HK := Lib.hid (HKY.out.keeps K.out (fun _ _ _ => id))
  clear HKY
  refine (head9 wa).mono ?_
  rintro e w1 ⟨rfl, hk⟩
  replace BN := Lib.hid (BN.out.keeps hk id)
  replace HN := Lib.hid (HN.out.keeps hk (fun _ _ _ => id))
  replace HK := Lib.hid (HK.out.keeps hk (fun _ _ _ => id))
  have szw1 := hk.size
  replace K := Lib.hid (K.out.trans hk (fun _ _ h => h))
  clear hk
  have qBN := fun i => BN.out.cell i
  have lBN := BN.out.lt
  go_wp2_with fail
  clear qBN lBN
  refine (innerR HN.out (sm_keys HS.out)).mono ?_
  rintro e w2 ⟨rfl, hk⟩
  replace BN := Lib.hid (BN.out.keeps hk id)
  replace HN := Lib.hid (HN.out.keeps hk (fun _ _ _ => id))
  replace HK := Lib.hid (HK.out.keeps hk (fun _ _ _ => id))
  have szw2 := hk.size
  replace K := Lib.hid (K.out.trans hk (fun _ _ h => h))
  clear hk
  rw [Qvl.out]
  have qBN := fun i => BN.out.cell i
  have lBN := BN.out.lt
  go_wp2_with fail
  clear qBN lBN
  refine (lent9 HN.out HS.out).mono ?_
  rintro e w3 ⟨d0, d1, d2, d3, d4, d5, rfl, hX, hk⟩
  replace BN := Lib.hid (BN.out.keeps hk id)
  replace HN := Lib.hid (HN.out.keeps hk (fun _ _ _ => id))
  replace HK := Lib.hid (HK.out.keeps hk (fun _ _ _ => id))
  have szw3 := hk.size
  replace K := Lib.hid (K.out.trans hk (fun _ _ h => h))
  clear hk
  obtain ⟨D1, dj1, f1⟩ := Own.form hX.high.o
  obtain ⟨D3, dj3, f3⟩ := OTx.form hX.keys.o
  obtain ⟨D4, dj4, f4⟩ := OTx.form hX.vals.o
  obtain ⟨D5, dj5, f5⟩ := Own.form hX.kids.o
  have f0 := hX.lvl
  have f2 := hX.right
  unfold iV at f0 f2
  subst f0 f1 f2 f3 f4 f5
  have HX := Lib.hid hX
  clear hX
  go_wp2_with fail
  refine calls_at (fun wb hw => ?_)
  have hk : Keeps Nob w3 wb := by rw [hw]; exact Keeps.alloc _ _ _
  have BX : Hid (Blk wb (w3.heap.size) 51 #[.int .i64 n.lvl, .slice D1 n.high.length dj1, .int .i64 n.right, .slice D3 n.keys.length dj3, .slice D4 n.vals.length dj4, .slice D5 n.kids.length dj5]) := by rw [hw]; exact Blk.new _ _ _
  replace BN := Lib.hid (BN.out.keeps hk id)
  replace HN := Lib.hid (HN.out.keeps hk (fun _ _ _ => id))
  replace HK := Lib.hid (HK.out.keeps hk (fun _ _ _ => id))
  replace HX := Lib.hid (HX.out.keeps hk (fun _ _ _ => id))
  have szwb := hk.size
  have ltBX := BX.out.lt
  replace K := Lib.hid (K.out.trans hk (fun _ _ h => h))
  clear hw hk
  refine (joinedP HX.out.o.r HK.out HS.out HSK.out).mono ?_
  rintro e w4 ⟨a0, a1, a2, a3, a4, a5, rfl, hA, hk⟩
  replace BN := Lib.hid (BN.out.keeps hk id)
  replace HN := Lib.hid (HN.out.keeps hk (fun _ _ _ => id))
  replace HK := Lib.hid (HK.out.keeps hk (fun _ _ _ => id))
  replace HX := Lib.hid (HX.out.keeps hk (fun _ _ _ => id))
  replace BX := Lib.hid (BX.out.keeps hk id)
  have szw4 := hk.size
  replace K := Lib.hid (K.out.trans hk (fun _ _ h => h))
  clear hk
  rw [Qna.out] at hA
  rw [Qvh.out]
  obtain ⟨A1, aj1, f1⟩ := Own.form hA.1.high
  obtain ⟨A3, aj3, f3⟩ := OTx.form hA.2.keys
  obtain ⟨A4, aj4, f4⟩ := OTx.form hA.2.vals
  obtain ⟨A5, aj5, f5⟩ := Own.form hA.2.kids
  have f0 := hA.1.lvl
  have f2 := hA.1.right
  unfold iV at f0 f2
  subst f0 f1 f2 f3 f4 f5
  have HA := Lib.hid hA
  clear hA
  have qBX := fun i => BX.out.cell i
  have lBX := BX.out.lt
  have qBN := fun i => BN.out.cell i
  have lBN := BN.out.lt
  go_wp2_with fail
  clear qBX lBX qBN lBN
  refine calls_at (fun wd hw => ?_)
  have hk : Keeps Nob w4 wd := by rw [hw]; exact Keeps.alloc _ _ _
  have BA : Hid (Blk wd (w4.heap.size) 51 #[.int .i64 na.lvl, .slice A1 na.high.length aj1, .int .i64 na.right, .slice A3 na.keys.length aj3, .slice A4 na.vals.length aj4, .slice A5 na.kids.length aj5]) := by rw [hw]; exact Blk.new _ _ _
  replace BN := Lib.hid (BN.out.keeps hk id)
  replace HN := Lib.hid (HN.out.keeps hk (fun _ _ _ => id))
  replace HK := Lib.hid (HK.out.keeps hk (fun _ _ _ => id))
  replace HX := Lib.hid (HX.out.keeps hk (fun _ _ _ => id))
  replace BX := Lib.hid (BX.out.keeps hk id)
  replace HA := Lib.hid (HA.out.keeps hk (fun _ _ _ => id))
  have szwd := hk.size
  have ltBA := BA.out.lt
  replace K := Lib.hid (K.out.trans hk (fun _ _ h => h))
  clear hw hk
  refine (whole9 HX.out HN.out).mono ?_
  rintro e w6 ⟨rfl, hk⟩
  replace BN := Lib.hid (BN.out.keeps hk id)
  replace HN := Lib.hid (HN.out.keeps hk (fun _ _ _ => id))
  replace HK := Lib.hid (HK.out.keeps hk (fun _ _ _ => id))
  replace HX := Lib.hid (HX.out.keeps hk (fun _ _ _ => id))
  replace BX := Lib.hid (BX.out.keeps hk id)
  replace HA := Lib.hid (HA.out.keeps hk (fun _ _ _ => id))
  replace BA := Lib.hid (BA.out.keeps hk id)
  have szw6 := hk.size
  replace K := Lib.hid (K.out.trans hk (fun _ _ h => h))
  clear hk
  cases vl with
  | false =>
    go_wp2
    go_ret
    exact ⟨rfl, K.out⟩
  | true =>
    have qBN := fun i => BN.out.cell i
    have lBN := BN.out.lt
    go_wp2_with fail
    clear qBN lBN
    refine (joinedR HN.out HK.out HS.out HSK.out (inner_law Qvl.out)).mono ?_
    rintro e w7 ⟨e0, e1, e2, e3, e4, e5, rfl, hC, hk⟩
    replace BN := Lib.hid (BN.out.keeps hk id)
    replace HN := Lib.hid (HN.out.keeps hk (fun _ _ _ => id))
    replace HK := Lib.hid (HK.out.keeps hk (fun _ _ _ => id))
    replace HX := Lib.hid (HX.out.keeps hk (fun _ _ _ => id))
    replace BX := Lib.hid (BX.out.keeps hk id)
    replace HA := Lib.hid (HA.out.keeps hk (fun _ _ _ => id))
    replace BA := Lib.hid (BA.out.keeps hk id)
    have szw7 := hk.size
    replace K := Lib.hid (K.out.trans hk (fun _ _ h => h))
    clear hk
    rw [Qna.out] at hC
    rw [Qvh.out]
    obtain ⟨E1, ej1, f1⟩ := Own.form hC.1.high
    obtain ⟨E3, ej3, f3⟩ := OTx.form hC.2.keys
    obtain ⟨E4, ej4, f4⟩ := OTx.form hC.2.vals
    obtain ⟨E5, ej5, f5⟩ := Own.form hC.2.kids
    have f0 := hC.1.lvl
    have f2 := hC.1.right
    unfold iV at f0 f2
    subst f0 f1 f2 f3 f4 f5
    have HC := Lib.hid hC
    clear hC
    have qBA := fun i => BA.out.cell i
    have lBA := BA.out.lt
    go_wp2_with fail
    clear qBA lBA
    refine calls_at (fun wf hw => ?_)
    have hk : Keeps Nob w7 wf := by rw [hw]; exact Keeps.alloc _ _ _
    have BC : Hid (Blk wf (w7.heap.size) 51 #[.int .i64 na.lvl, .slice E1 na.high.length ej1, .int .i64 na.right, .slice E3 na.keys.length ej3, .slice E4 na.vals.length ej4, .slice E5 na.kids.length ej5]) := by rw [hw]; exact Blk.new _ _ _
    replace BN := Lib.hid (BN.out.keeps hk id)
    replace HN := Lib.hid (HN.out.keeps hk (fun _ _ _ => id))
    replace HK := Lib.hid (HK.out.keeps hk (fun _ _ _ => id))
    replace HX := Lib.hid (HX.out.keeps hk (fun _ _ _ => id))
    replace BX := Lib.hid (BX.out.keeps hk id)
    replace HA := Lib.hid (HA.out.keeps hk (fun _ _ _ => id))
    replace BA := Lib.hid (BA.out.keeps hk id)
    replace HC := Lib.hid (HC.out.keeps hk (fun _ _ _ => id))
    have szwf := hk.size
    have ltBC := BC.out.lt
    replace K := Lib.hid (K.out.trans hk (fun _ _ h => h))
    clear hw hk
    refine (sameN HA.out.r HC.out.r).mono ?_
    rintro e w9 ⟨rfl, hk⟩
    replace BN := Lib.hid (BN.out.keeps hk id)
    replace HN := Lib.hid (HN.out.keeps hk (fun _ _ _ => id))
    replace HK := Lib.hid (HK.out.keeps hk (fun _ _ _ => id))
    replace HX := Lib.hid (HX.out.keeps hk (fun _ _ _ => id))
    replace BX := Lib.hid (BX.out.keeps hk id)
    replace HA := Lib.hid (HA.out.keeps hk (fun _ _ _ => id))
    replace BA := Lib.hid (BA.out.keeps hk id)
    replace HC := Lib.hid (HC.out.keeps hk (fun _ _ _ => id))
    replace BC := Lib.hid (BC.out.keeps hk id)
    have szw9 := hk.size
    replace K := Lib.hid (K.out.trans hk (fun _ _ h => h))
    clear hk
    rw [sameNd_self]
    have qBA := fun i => BA.out.cell i
    have lBA := BA.out.lt
    go_wp2_with fail
    clear qBA lBA
    have HAz := Lib.hid HA.out
    refine (spoil9 HAz.out).mono ?_
    rintro e w11 ⟨rfl, hk⟩
    replace BN := Lib.hid (BN.out.keeps hk (fun hm => by have := hm.1; have := hm.2; omega))
    replace HN := Lib.hid (HN.out.keeps hk (fun b hb hs hm => by have := hm.1; have := hm.2; have h1 : b < w.heap.size := hs; omega))
    replace HK := Lib.hid (HK.out.keeps hk (fun b hb hs hm => by have := hm.1; have := hm.2; have h1 : b < w.heap.size := hs; omega))
    replace HX := Lib.hid (HX.out.keeps hk (fun b hb hs hm => by have := hm.1; have := hm.2; have := hs.1; have := hs.2; omega))
    replace BX := Lib.hid (BX.out.keeps hk (fun hm => by have := hm.1; have := hm.2; omega))
    replace BA := Lib.hid (BA.out.keeps hk (fun hm => by have := hm.1; have := hm.2; omega))
    replace HC := Lib.hid (HC.out.keeps hk (fun b hb hs hm => by have := hm.1; have := hm.2; have := hs.1; have := hs.2; omega))
    replace BC := Lib.hid (BC.out.keeps hk (fun hm => by have := hm.1; have := hm.2; omega))
    have szw11 := hk.size
    replace K := Lib.hid (K.out.trans hk (fun b hb h => by have := h.1; omega))
    clear hk
    clear HAz
    have qBX := fun i => BX.out.cell i
    have lBX := BX.out.lt
    have qBN := fun i => BN.out.cell i
    have lBN := BN.out.lt
    go_wp2_with fail
    clear qBX lBX qBN lBN
    refine (whole9 HX.out HN.out).mono ?_
    rintro e w13 ⟨rfl, hk⟩
    replace BN := Lib.hid (BN.out.keeps hk id)
    replace HN := Lib.hid (HN.out.keeps hk (fun _ _ _ => id))
    replace HK := Lib.hid (HK.out.keeps hk (fun _ _ _ => id))
    replace HX := Lib.hid (HX.out.keeps hk (fun _ _ _ => id))
    replace BX := Lib.hid (BX.out.keeps hk id)
    replace BA := Lib.hid (BA.out.keeps hk id)
    replace HC := Lib.hid (HC.out.keeps hk (fun _ _ _ => id))
    replace BC := Lib.hid (BC.out.keeps hk id)
    have szw13 := hk.size
    replace K := Lib.hid (K.out.trans hk (fun _ _ h => h))
    clear hk
    cases vh
    all_goals
      go_wp2
      go_ret
      exact ⟨rfl, K.out⟩
end
end Go.Proofs.Ytdmmhblmgbhgfaa
