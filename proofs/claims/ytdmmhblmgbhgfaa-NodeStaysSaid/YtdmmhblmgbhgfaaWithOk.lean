/- NodeWith, walked. -/
import Derived.Test.YtdmmhblmgbhgfaaHead9
import Derived.Test.YtdmmhblmgbhgfaaLent
import Derived.Test.YtdmmhblmgbhgfaaSpoil
import Derived.Test.YtdmmhblmgbhgfaaWhole
import Derived.Test.YtdmmhblmgbhgfaaRight
import Derived.Test.YtdmmhblmgbhgfaaDoc9
import Derived.Test.YtdmmhblmgbhgfaaWithout
namespace Go.Proofs.Ytdmmhblmgbhgfaa
open Go.RowKit

theorem sm_keys {n : Nd} (h : NdSm 64 n) : n.keys.length < 9223372036854775807 := by have := h.2.1.1; unfold Sm at this; omega
theorem has_below : ∀ {l : List (List UInt8)} {key : List UInt8}, has l key = true → below l key < l.length
  | [], _, h => by simp [has] at h
  | x :: l, key, h => by
    unfold has at h
    unfold below
    rw [List.countP_cons, List.length_cons]
    rw [List.any_cons, Bool.or_eq_true] at h
    rcases h with h | h
    · have h0 : cmp x key = 0 := by simpa using h
      rw [if_neg (by rw [h0]; decide)]
      have := below_le l key
      unfold below at this
      omega
    · have := has_below (l := l) (key := key) h
      unfold below at this
      split <;> omega
theorem leaf_law {n : Nd} {key : List UInt8} (h : leaf n = true) : (has n.keys key = true → below n.keys key < n.vals.length) ∧ (has n.keys key = false → below n.keys key ≤ n.vals.length) ∧ woutD n key = wout n key := by
  have hv : n.vals.length = n.keys.length := by
    unfold leaf right at h
    rw [Bool.and_eq_true] at h
    have hl : n.lvl = 0 := by simpa using h.2
    have := h.1
    rw [if_pos hl] at this
    simp at this
    exact this.2.1
  refine ⟨fun hh => by rw [hv]; exact has_below hh, fun _ => by rw [hv]; exact below_le _ _, ?_⟩
  unfold woutD wout
  cases hh : has n.keys key with
  | false => simp
  | true =>
    have := has_below hh
    rw [if_pos rfl, if_pos ⟨rfl, this, by omega⟩]

section
variable {w : World} {c0 c1 c2 c3 c4 c5 ck cv : Value} {n : Nd} {key val : List UInt8}

set_option maxRecDepth 100000 in
set_option maxHeartbeats 1000000 in
theorem with_ok (h : IsNd w (fun b => b < w.heap.size) c0 c1 c2 c3 c4 c5 n) (hs : NdSm 64 n) (hky : Byts w (fun b => b < w.heap.size) ck key) (hsk : Sm 64 1 key.length) (hva : Byts w (fun b => b < w.heap.size) cv val) (hsv : Sm 64 1 val.length) :
    Calls Try.prog 12 #[.agg #[c0, c1, c2, c3, c4, c5], ck, cv] w fun e w' => e = .returned (.bool true) ∧ Keeps Nob w w' := by
  have H := Lib.hid h
  have HKY := Lib.hid hky
  have HVA := Lib.hid hva
  have HSK : Hid (Sm 0 1 key.length) := hsk.mono (by decide)
  have HSV : Hid (Sm 0 1 val.length) := hsv.mono (by decide)
  have HS : Hid (NdSm 64 n) := hs
  clear h hs hky hva hsk hsv
  obtain ⟨vl, hvl⟩ : ∃ v, leaf n = v := ⟨_, rfl⟩
  obtain ⟨na, hna⟩ : ∃ m, wth n key val = m := ⟨_, rfl⟩
  obtain ⟨nb, hnb⟩ : ∃ m, wout n key = m := ⟨_, rfl⟩
  obtain ⟨vh, hvh⟩ : ∃ v, has n.keys key = v := ⟨_, rfl⟩
  have Qvl := Lib.hid hvl
  clear hvl
  have Qna := Lib.hid hna
  clear hna
  have Qnb := Lib.hid hnb
  clear hnb
  have Qvh := Lib.hid hvh
  clear hvh
  go_enter Try.func12, Try.ntmps12
  go_wp2_with fail
  refine calls_at (fun wa hw => ?_)
  have hk : Keeps Nob w wa := by rw [hw]; exact Keeps.alloc _ _ _
  have BN : Hid (Blk wa (w.heap.size) 51 #[c0, c1, c2, c3, c4, c5]) := by rw [hw]; exact Blk.new _ _ _
  have szwa := hk.size
  have ltBN := BN.out.lt
  have K := Lib.hid hk
  clear hw hk
  have HN := Lib.hid (H.out.keeps K.out (fun _ _ _ => id))
  clear H
  have HK := Lib.hid (HKY.out.keeps K.out (fun _ _ _ => id))
  clear HKY
  have HV := Lib.hid (HVA.out.keeps K.out (fun _ _ _ => id))
  clear HVA
  refine (head9 wa).mono ?_
  rintro e w1 ⟨rfl, hk⟩
  replace BN := Lib.hid (BN.out.keeps hk id)
  replace HN := Lib.hid (HN.out.keeps hk (fun _ _ _ => id))
  replace HK := Lib.hid (HK.out.keeps hk (fun _ _ _ => id))
  replace HV := Lib.hid (HV.out.keeps hk (fun _ _ _ => id))
  have szw1 := hk.size
  replace K := Lib.hid (K.out.trans hk (fun _ _ h => h))
  clear hk
  have qBN := fun i => BN.out.cell i
  have lBN := BN.out.lt
  go_wp2_with fail
  clear qBN lBN
  refine (leafR HN.out (sm_keys HS.out)).mono ?_
  rintro e w2 ⟨rfl, hk⟩
  replace BN := Lib.hid (BN.out.keeps hk id)
  replace HN := Lib.hid (HN.out.keeps hk (fun _ _ _ => id))
  replace HK := Lib.hid (HK.out.keeps hk (fun _ _ _ => id))
  replace HV := Lib.hid (HV.out.keeps hk (fun _ _ _ => id))
  have szw2 := hk.size
  replace K := Lib.hid (K.out.trans hk (fun _ _ h => h))
  clear hk
  rw [Qvl.out]
  have qBN := fun i => BN.out.cell i
  have lBN := BN.out.lt
  go_wp2_with fail
  clear qBN lBN
  refine (lent9 HN.out HS.out).mono ?_
  rintro e w3 ⟨d0, d1, d2, d3, d4, d5, rfl, hX, hk⟩
  replace BN := Lib.hid (BN.out.keeps hk id)
  replace HN := Lib.hid (HN.out.keeps hk (fun _ _ _ => id))
  replace HK := Lib.hid (HK.out.keeps hk (fun _ _ _ => id))
  replace HV := Lib.hid (HV.out.keeps hk (fun _ _ _ => id))
  have szw3 := hk.size
  replace K := Lib.hid (K.out.trans hk (fun _ _ h => h))
  clear hk
  obtain ⟨D1, dj1, f1⟩ := Own.form hX.high.o
  obtain ⟨D3, dj3, f3⟩ := OTx.form hX.keys.o
  obtain ⟨D4, dj4, f4⟩ := OTx.form hX.vals.o
  obtain ⟨D5, dj5, f5⟩ := Own.form hX.kids.o
  have f0 := hX.lvl
  have f2 := hX.right
  unfold iV at f0 f2
  subst f0 f1 f2 f3 f4 f5
  have HX := Lib.hid hX
  clear hX
  go_wp2_with fail
  refine calls_at (fun wb hw => ?_)
  have hk : Keeps Nob w3 wb := by rw [hw]; exact Keeps.alloc _ _ _
  have BX : Hid (Blk wb (w3.heap.size) 51 #[.int .i64 n.lvl, .slice D1 n.high.length dj1, .int .i64 n.right, .slice D3 n.keys.length dj3, .slice D4 n.vals.length dj4, .slice D5 n.kids.length dj5]) := by rw [hw]; exact Blk.new _ _ _
  replace BN := Lib.hid (BN.out.keeps hk id)
  replace HN := Lib.hid (HN.out.keeps hk (fun _ _ _ => id))
  replace HK := Lib.hid (HK.out.keeps hk (fun _ _ _ => id))
  replace HV := Lib.hid (HV.out.keeps hk (fun _ _ _ => id))
  replace HX := Lib.hid (HX.out.keeps hk (fun _ _ _ => id))
  have szwb := hk.size
  have ltBX := BX.out.lt
  replace K := Lib.hid (K.out.trans hk (fun _ _ h => h))
  clear hw hk
  refine (withP HX.out.o.r HK.out HV.out HS.out HSK.out HSV.out).mono ?_
  rintro e w4 ⟨a0, a1, a2, a3, a4, a5, rfl, hA, hk⟩
  replace BN := Lib.hid (BN.out.keeps hk id)
  replace HN := Lib.hid (HN.out.keeps hk (fun _ _ _ => id))
  replace HK := Lib.hid (HK.out.keeps hk (fun _ _ _ => id))
  replace HV := Lib.hid (HV.out.keeps hk (fun _ _ _ => id))
  replace HX := Lib.hid (HX.out.keeps hk (fun _ _ _ => id))
  replace BX := Lib.hid (BX.out.keeps hk id)
  have szw4 := hk.size
  replace K := Lib.hid (K.out.trans hk (fun _ _ h => h))
  clear hk
  rw [Qna.out] at hA
  obtain ⟨A1, aj1, f1⟩ := Own.form hA.1.high
  obtain ⟨A3, aj3, f3⟩ := OTx.form hA.2.keys
  obtain ⟨A4, aj4, f4⟩ := OTx.form hA.2.vals
  obtain ⟨A5, aj5, f5⟩ := Own.form hA.2.kids
  have f0 := hA.1.lvl
  have f2 := hA.1.right
  unfold iV at f0 f2
  subst f0 f1 f2 f3 f4 f5
  have HA := Lib.hid hA
  clear hA
  have qBX := fun i => BX.out.cell i
  have lBX := BX.out.lt
  go_wp2_with fail
  clear qBX lBX
  refine calls_at (fun wc hw => ?_)
  have hk : Keeps Nob w4 wc := by rw [hw]; exact Keeps.alloc _ _ _
  have BA : Hid (Blk wc (w4.heap.size) 51 #[.int .i64 na.lvl, .slice A1 na.high.length aj1, .int .i64 na.right, .slice A3 na.keys.length aj3, .slice A4 na.vals.length aj4, .slice A5 na.kids.length aj5]) := by rw [hw]; exact Blk.new _ _ _
  replace BN := Lib.hid (BN.out.keeps hk id)
  replace HN := Lib.hid (HN.out.keeps hk (fun _ _ _ => id))
  replace HK := Lib.hid (HK.out.keeps hk (fun _ _ _ => id))
  replace HV := Lib.hid (HV.out.keeps hk (fun _ _ _ => id))
  replace HX := Lib.hid (HX.out.keeps hk (fun _ _ _ => id))
  replace BX := Lib.hid (BX.out.keeps hk id)
  replace HA := Lib.hid (HA.out.keeps hk (fun _ _ _ => id))
  have szwc := hk.size
  have ltBA := BA.out.lt
  replace K := Lib.hid (K.out.trans hk (fun _ _ h => h))
  clear hw hk
  refine (withoutP HX.out.o.r HK.out HS.out).mono ?_
  rintro e w5 ⟨b0, b1, b2, b3, b4, b5, rfl, hB, hk⟩
  replace BN := Lib.hid (BN.out.keeps hk id)
  replace HN := Lib.hid (HN.out.keeps hk (fun _ _ _ => id))
  replace HK := Lib.hid (HK.out.keeps hk (fun _ _ _ => id))
  replace HV := Lib.hid (HV.out.keeps hk (fun _ _ _ => id))
  replace HX := Lib.hid (HX.out.keeps hk (fun _ _ _ => id))
  replace BX := Lib.hid (BX.out.keeps hk id)
  replace HA := Lib.hid (HA.out.keeps hk (fun _ _ _ => id))
  replace BA := Lib.hid (BA.out.keeps hk id)
  have szw5 := hk.size
  replace K := Lib.hid (K.out.trans hk (fun _ _ h => h))
  clear hk
  rw [Qnb.out] at hB
  rw [Qvh.out]
  obtain ⟨B1, bj1, f1⟩ := Own.form hB.1.high
  obtain ⟨B3, bj3, f3⟩ := OTx.form hB.2.keys
  obtain ⟨B4, bj4, f4⟩ := OTx.form hB.2.vals
  obtain ⟨B5, bj5, f5⟩ := Own.form hB.2.kids
  have f0 := hB.1.lvl
  have f2 := hB.1.right
  unfold iV at f0 f2
  subst f0 f1 f2 f3 f4 f5
  have HB := Lib.hid hB
  clear hB
  have qBX := fun i => BX.out.cell i
  have lBX := BX.out.lt
  have qBN := fun i => BN.out.cell i
  have lBN := BN.out.lt
  go_wp2_with fail
  clear qBX lBX qBN lBN
  refine calls_at (fun wd hw => ?_)
  have hk : Keeps Nob w5 wd := by rw [hw]; exact Keeps.alloc _ _ _
  have BB : Hid (Blk wd (w5.heap.size) 51 #[.int .i64 nb.lvl, .slice B1 nb.high.length bj1, .int .i64 nb.right, .slice B3 nb.keys.length bj3, .slice B4 nb.vals.length bj4, .slice B5 nb.kids.length bj5]) := by rw [hw]; exact Blk.new _ _ _
  replace BN := Lib.hid (BN.out.keeps hk id)
  replace HN := Lib.hid (HN.out.keeps hk (fun _ _ _ => id))
  replace HK := Lib.hid (HK.out.keeps hk (fun _ _ _ => id))
  replace HV := Lib.hid (HV.out.keeps hk (fun _ _ _ => id))
  replace HX := Lib.hid (HX.out.keeps hk (fun _ _ _ => id))
  replace BX := Lib.hid (BX.out.keeps hk id)
  replace HA := Lib.hid (HA.out.keeps hk (fun _ _ _ => id))
  replace BA := Lib.hid (BA.out.keeps hk id)
  replace HB := Lib.hid (HB.out.keeps hk (fun _ _ _ => id))
  have szwd := hk.size
  have ltBB := BB.out.lt
  replace K := Lib.hid (K.out.trans hk (fun _ _ h => h))
  clear hw hk
  refine (whole9 HX.out HN.out).mono ?_
  rintro e w6 ⟨rfl, hk⟩
  replace BN := Lib.hid (BN.out.keeps hk id)
  replace HN := Lib.hid (HN.out.keeps hk (fun _ _ _ => id))
  replace HK := Lib.hid (HK.out.keeps hk (fun _ _ _ => id))
  replace HV := Lib.hid (HV.out.keeps hk (fun _ _ _ => id))
  replace HX := Lib.hid (HX.out.keeps hk (fun _ _ _ => id))
  replace BX := Lib.hid (BX.out.keeps hk id)
  replace HA := Lib.hid (HA.out.keeps hk (fun _ _ _ => id))
  replace BA := Lib.hid (BA.out.keeps hk id)
  replace HB := Lib.hid (HB.out.keeps hk (fun _ _ _ => id))
  replace BB := Lib.hid (BB.out.keeps hk id)
  have szw6 := hk.size
  replace K := Lib.hid (K.out.trans hk (fun _ _ h => h))
  clear hk
  cases vl with
  | false =>
    go_wp2
    go_ret
    exact ⟨rfl, K.out⟩
  | true =>
    obtain ⟨hc1, hc2, hdd⟩ := leaf_law (key := key) Qvl.out
    rw [Qnb.out] at hdd
    have HDD := Lib.hid hdd
    have HC12 := Lib.hid (And.intro hc1 hc2)
    clear hc1 hc2 hdd
    have qBN := fun i => BN.out.cell i
    have lBN := BN.out.lt
    go_wp2_with fail
    clear qBN lBN
    refine (withR HN.out HK.out HV.out HS.out HSK.out HSV.out HC12.out.1 HC12.out.2).mono ?_
    rintro e w7 ⟨e0, e1, e2, e3, e4, e5, rfl, hC, hk⟩
    replace BN := Lib.hid (BN.out.keeps hk id)
    replace HN := Lib.hid (HN.out.keeps hk (fun _ _ _ => id))
    replace HK := Lib.hid (HK.out.keeps hk (fun _ _ _ => id))
    replace HV := Lib.hid (HV.out.keeps hk (fun _ _ _ => id))
    replace HX := Lib.hid (HX.out.keeps hk (fun _ _ _ => id))
    replace BX := Lib.hid (BX.out.keeps hk id)
    replace HA := Lib.hid (HA.out.keeps hk (fun _ _ _ => id))
    replace BA := Lib.hid (BA.out.keeps hk id)
    replace HB := Lib.hid (HB.out.keeps hk (fun _ _ _ => id))
    replace BB := Lib.hid (BB.out.keeps hk id)
    have szw7 := hk.size
    replace K := Lib.hid (K.out.trans hk (fun _ _ h => h))
    clear hk
    rw [Qna.out] at hC
    obtain ⟨E1, ej1, f1⟩ := Own.form hC.1.high
    obtain ⟨E3, ej3, f3⟩ := OTx.form hC.2.keys
    obtain ⟨E4, ej4, f4⟩ := OTx.form hC.2.vals
    obtain ⟨E5, ej5, f5⟩ := Own.form hC.2.kids
    have f0 := hC.1.lvl
    have f2 := hC.1.right
    unfold iV at f0 f2
    subst f0 f1 f2 f3 f4 f5
    have HC := Lib.hid hC
    clear hC
    have qBN := fun i => BN.out.cell i
    have lBN := BN.out.lt
    go_wp2_with fail
    clear qBN lBN
    refine calls_at (fun we hw => ?_)
    have hk : Keeps Nob w7 we := by rw [hw]; exact Keeps.alloc _ _ _
    have BC : Hid (Blk we (w7.heap.size) 51 #[.int .i64 na.lvl, .slice E1 na.high.length ej1, .int .i64 na.right, .slice E3 na.keys.length ej3, .slice E4 na.vals.length ej4, .slice E5 na.kids.length ej5]) := by rw [hw]; exact Blk.new _ _ _
    replace BN := Lib.hid (BN.out.keeps hk id)
    replace HN := Lib.hid (HN.out.keeps hk (fun _ _ _ => id))
    replace HK := Lib.hid (HK.out.keeps hk (fun _ _ _ => id))
    replace HV := Lib.hid (HV.out.keeps hk (fun _ _ _ => id))
    replace HX := Lib.hid (HX.out.keeps hk (fun _ _ _ => id))
    replace BX := Lib.hid (BX.out.keeps hk id)
    replace HA := Lib.hid (HA.out.keeps hk (fun _ _ _ => id))
    replace BA := Lib.hid (BA.out.keeps hk id)
    replace HB := Lib.hid (HB.out.keeps hk (fun _ _ _ => id))
    replace BB := Lib.hid (BB.out.keeps hk id)
    replace HC := Lib.hid (HC.out.keeps hk (fun _ _ _ => id))
    have szwe := hk.size
    have ltBC := BC.out.lt
    replace K := Lib.hid (K.out.trans hk (fun _ _ h => h))
    clear hw hk
    refine (withoutR HN.out HK.out HS.out).mono ?_
    rintro e w8 ⟨p0, p1, p2, p3, p4, p5, rfl, hD, hk⟩
    replace BN := Lib.hid (BN.out.keeps hk id)
    replace HN := Lib.hid (HN.out.keeps hk (fun _ _ _ => id))
    replace HK := Lib.hid (HK.out.keeps hk (fun _ _ _ => id))
    replace HV := Lib.hid (HV.out.keeps hk (fun _ _ _ => id))
    replace HX := Lib.hid (HX.out.keeps hk (fun _ _ _ => id))
    replace BX := Lib.hid (BX.out.keeps hk id)
    replace HA := Lib.hid (HA.out.keeps hk (fun _ _ _ => id))
    replace BA := Lib.hid (BA.out.keeps hk id)
    replace HB := Lib.hid (HB.out.keeps hk (fun _ _ _ => id))
    replace BB := Lib.hid (BB.out.keeps hk id)
    replace HC := Lib.hid (HC.out.keeps hk (fun _ _ _ => id))
    replace BC := Lib.hid (BC.out.keeps hk id)
    have szw8 := hk.size
    replace K := Lib.hid (K.out.trans hk (fun _ _ h => h))
    clear hk
    rw [HDD.out] at hD
    rw [Qvh.out]
    obtain ⟨P1, pj1, f1⟩ := Own.form hD.1.high
    obtain ⟨P3, pj3, f3⟩ := OTx.form hD.2.keys
    obtain ⟨P4, pj4, f4⟩ := OTx.form hD.2.vals
    obtain ⟨P5, pj5, f5⟩ := Own.form hD.2.kids
    have f0 := hD.1.lvl
    have f2 := hD.1.right
    unfold iV at f0 f2
    subst f0 f1 f2 f3 f4 f5
    have HD := Lib.hid hD
    clear hD
    have qBA := fun i => BA.out.cell i
    have lBA := BA.out.lt
    have qBC := fun i => BC.out.cell i
    have lBC := BC.out.lt
    go_wp2_with fail
    clear qBA lBA qBC lBC
    refine calls_at (fun wf hw => ?_)
    have hk : Keeps Nob w8 wf := by rw [hw]; exact Keeps.alloc _ _ _
    have BD : Hid (Blk wf (w8.heap.size) 51 #[.int .i64 nb.lvl, .slice P1 nb.high.length pj1, .int .i64 nb.right, .slice P3 nb.keys.length pj3, .slice P4 nb.vals.length pj4, .slice P5 nb.kids.length pj5]) := by rw [hw]; exact Blk.new _ _ _
    replace BN := Lib.hid (BN.out.keeps hk id)
    replace HN := Lib.hid (HN.out.keeps hk (fun _ _ _ => id))
    replace HK := Lib.hid (HK.out.keeps hk (fun _ _ _ => id))
    replace HV := Lib.hid (HV.out.keeps hk (fun _ _ _ => id))
    replace HX := Lib.hid (HX.out.keeps hk (fun _ _ _ => id))
    replace BX := Lib.hid (BX.out.keeps hk id)
    replace HA := Lib.hid (HA.out.keeps hk (fun _ _ _ => id))
    replace BA := Lib.hid (BA.out.keeps hk id)
    replace HB := Lib.hid (HB.out.keeps hk (fun _ _ _ => id))
    replace BB := Lib.hid (BB.out.keeps hk id)
    replace HC := Lib.hid (HC.out.keeps hk (fun _ _ _ => id))
    replace BC := Lib.hid (BC.out.keeps hk id)
    replace HD := Lib.hid (HD.out.keeps hk (fun _ _ _ => id))
    have szwf := hk.size
    have ltBD := BD.out.lt
    replace K := Lib.hid (K.out.trans hk (fun _ _ h => h))
    clear hw hk
    refine (sameN HA.out.r HC.out.r).mono ?_
    rintro e w9 ⟨rfl, hk⟩
    replace BN := Lib.hid (BN.out.keeps hk id)
    replace HN := Lib.hid (HN.out.keeps hk (fun _ _ _ => id))
    replace HK := Lib.hid (HK.out.keeps hk (fun _ _ _ => id))
    replace HV := Lib.hid (HV.out.keeps hk (fun _ _ _ => id))
    replace HX := Lib.hid (HX.out.keeps hk (fun _ _ _ => id))
    replace BX := Lib.hid (BX.out.keeps hk id)
    replace HA := Lib.hid (HA.out.keeps hk (fun _ _ _ => id))
    replace BA := Lib.hid (BA.out.keeps hk id)
    replace HB := Lib.hid (HB.out.keeps hk (fun _ _ _ => id))
    replace BB := Lib.hid (BB.out.keeps hk id)
    replace HC := Lib.hid (HC.out.keeps hk (fun _ _ _ => id))
    replace BC := Lib.hid (BC.out.keeps hk id)
    replace HD := Lib.hid (HD.out.keeps hk (fun _ _ _ => id))
    replace BD := Lib.hid (BD.out.keeps hk id)
    have szw9 := hk.size
    replace K := Lib.hid (K.out.trans hk (fun _ _ h => h))
    clear hk
    rw [sameNd_self]
    have qBB := fun i => BB.out.cell i
    have lBB := BB.out.lt
    have qBD := fun i => BD.out.cell i
    have lBD := BD.out.lt
    go_wp2_with fail
    clear qBB lBB qBD lBD
    refine (sameN HB.out.r HD.out.r).mono ?_
    rintro e w10 ⟨rfl, hk⟩
    replace BN := Lib.hid (BN.out.keeps hk id)
    replace HN := Lib.hid (HN.out.keeps hk (fun _ _ _ => id))
    replace HK := Lib.hid (HK.out.keeps hk (fun _ _ _ => id))
    replace HV := Lib.hid (HV.out.keeps hk (fun _ _ _ => id))
    replace HX := Lib.hid (HX.out.keeps hk (fun _ _ _ => id))
    replace BX := Lib.hid (BX.out.keeps hk id)
    replace HA := Lib.hid (HA.out.keeps hk (fun _ _ _ => id))
    replace BA := Lib.hid (BA.out.keeps hk id)
    replace HB := Lib.hid (HB.out.keeps hk (fun _ _ _ => id))
    replace BB := Lib.hid (BB.out.keeps hk id)
    replace HC := Lib.hid (HC.out.keeps hk (fun _ _ _ => id))
    replace BC := Lib.hid (BC.out.keeps hk id)
    replace HD := Lib.hid (HD.out.keeps hk (fun _ _ _ => id))
    replace BD := Lib.hid (BD.out.keeps hk id)
    have szw10 := hk.size
    replace K := Lib.hid (K.out.trans hk (fun _ _ h => h))
    clear hk
    rw [sameNd_self]
    have qBA := fun i => BA.out.cell i
    have lBA := BA.out.lt
    go_wp2_with fail
    clear qBA lBA
    have HAz := Lib.hid HA.out
    refine (spoil9 HAz.out).mono ?_
    rintro e w11 ⟨rfl, hk⟩
    replace BN := Lib.hid (BN.out.keeps hk (fun hm => by have := hm.1; have := hm.2; omega))
    replace HN := Lib.hid (HN.out.keeps hk (fun b hb hs hm => by have := hm.1; have := hm.2; have h1 : b < w.heap.size := hs; omega))
    replace HK := Lib.hid (HK.out.keeps hk (fun b hb hs hm => by have := hm.1; have := hm.2; have h1 : b < w.heap.size := hs; omega))
    replace HV := Lib.hid (HV.out.keeps hk (fun b hb hs hm => by have := hm.1; have := hm.2; have h1 : b < w.heap.size := hs; omega))
    replace HX := Lib.hid (HX.out.keeps hk (fun b hb hs hm => by have := hm.1; have := hm.2; have := hs.1; have := hs.2; omega))
    replace BX := Lib.hid (BX.out.keeps hk (fun hm => by have := hm.1; have := hm.2; omega))
    replace BA := Lib.hid (BA.out.keeps hk (fun hm => by have := hm.1; have := hm.2; omega))
    replace HB := Lib.hid (HB.out.keeps hk (fun b hb hs hm => by have := hm.1; have := hm.2; have := hs.1; have := hs.2; omega))
    replace BB := Lib.hid (BB.out.keeps hk (fun hm => by have := hm.1; have := hm.2; omega))
    replace HC := Lib.hid (HC.out.keeps hk (fun b hb hs hm => by have := hm.1; have := hm.2; have := hs.1; have := hs.2; omega))
    replace BC := Lib.hid (BC.out.keeps hk (fun hm => by have := hm.1; have := hm.2; omega))
    replace HD := Lib.hid (HD.out.keeps hk (fun b hb hs hm => by have := hm.1; have := hm.2; have := hs.1; have := hs.2; omega))
    replace BD := Lib.hid (BD.out.keeps hk (fun hm => by have := hm.1; have := hm.2; omega))
    have szw11 := hk.size
    replace K := Lib.hid (K.out.trans hk (fun b hb h => by have := h.1; omega))
    clear hk
    clear HAz
    have qBB := fun i => BB.out.cell i
    have lBB := BB.out.lt
    go_wp2_with fail
    clear qBB lBB
    have HBz := Lib.hid HB.out
    refine (spoil9 HBz.out).mono ?_
    rintro e w12 ⟨rfl, hk⟩
    replace BN := Lib.hid (BN.out.keeps hk (fun hm => by have := hm.1; have := hm.2; omega))
    replace HN := Lib.hid (HN.out.keeps hk (fun b hb hs hm => by have := hm.1; have := hm.2; have h1 : b < w.heap.size := hs; omega))
    replace HK := Lib.hid (HK.out.keeps hk (fun b hb hs hm => by have := hm.1; have := hm.2; have h1 : b < w.heap.size := hs; omega))
    replace HV := Lib.hid (HV.out.keeps hk (fun b hb hs hm => by have := hm.1; have := hm.2; have h1 : b < w.heap.size := hs; omega))
    replace HX := Lib.hid (HX.out.keeps hk (fun b hb hs hm => by have := hm.1; have := hm.2; have := hs.1; have := hs.2; omega))
    replace BX := Lib.hid (BX.out.keeps hk (fun hm => by have := hm.1; have := hm.2; omega))
    replace BA := Lib.hid (BA.out.keeps hk (fun hm => by have := hm.1; have := hm.2; omega))
    replace BB := Lib.hid (BB.out.keeps hk (fun hm => by have := hm.1; have := hm.2; omega))
    replace HC := Lib.hid (HC.out.keeps hk (fun b hb hs hm => by have := hm.1; have := hm.2; have := hs.1; have := hs.2; omega))
    replace BC := Lib.hid (BC.out.keeps hk (fun hm => by have := hm.1; have := hm.2; omega))
    replace HD := Lib.hid (HD.out.keeps hk (fun b hb hs hm => by have := hm.1; have := hm.2; have := hs.1; have := hs.2; omega))
    replace BD := Lib.hid (BD.out.keeps hk (fun hm => by have := hm.1; have := hm.2; omega))
    have szw12 := hk.size
    replace K := Lib.hid (K.out.trans hk (fun b hb h => by have := h.1; omega))
    clear hk
    clear HBz
    have qBX := fun i => BX.out.cell i
    have lBX := BX.out.lt
    have qBN := fun i => BN.out.cell i
    have lBN := BN.out.lt
    go_wp2_with fail
    clear qBX lBX qBN lBN
    refine (whole9 HX.out HN.out).mono ?_
    rintro e w13 ⟨rfl, hk⟩
    replace BN := Lib.hid (BN.out.keeps hk id)
    replace HN := Lib.hid (HN.out.keeps hk (fun _ _ _ => id))
    replace HK := Lib.hid (HK.out.keeps hk (fun _ _ _ => id))
    replace HV := Lib.hid (HV.out.keeps hk (fun _ _ _ => id))
    replace HX := Lib.hid (HX.out.keeps hk (fun _ _ _ => id))
    replace BX := Lib.hid (BX.out.keeps hk id)
    replace BA := Lib.hid (BA.out.keeps hk id)
    replace BB := Lib.hid (BB.out.keeps hk id)
    replace HC := Lib.hid (HC.out.keeps hk (fun _ _ _ => id))
    replace BC := Lib.hid (BC.out.keeps hk id)
    replace HD := Lib.hid (HD.out.keeps hk (fun _ _ _ => id))
    replace BD := Lib.hid (BD.out.keeps hk id)
    have szw13 := hk.size
    replace K := Lib.hid (K.out.trans hk (fun _ _ h => h))
    clear hk
    cases vh
    all_goals
      go_wp2
      go_ret
      exact ⟨rfl, K.out⟩
end
end Go.Proofs.Ytdmmhblmgbhgfaa
