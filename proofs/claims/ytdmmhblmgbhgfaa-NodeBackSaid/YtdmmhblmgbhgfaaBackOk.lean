/- NodeBack, walked. -/
import Derived.Test.YtdmmhblmgbhgfaaOrder
namespace Go.Proofs.Ytdmmhblmgbhgfaa
open Go.RowKit

theorem mem_ins {α : Type} {l : List α} {i : Nat} {x y : α} (h : y ∈ ins l i x) : y = x ∨ y ∈ l := by
  unfold ins at h
  rcases List.mem_append.1 h with h | h
  · exact .inr (List.mem_of_mem_take h)
  · rcases List.mem_cons.1 h with h | h
    · exact .inl h
    · exact .inr (List.mem_of_mem_drop h)
theorem len_ins_le {α : Type} (l : List α) (i : Nat) (x : α) : (ins l i x).length ≤ l.length + 1 := by unfold ins; simp; omega
theorem tx_ins {l : List (List UInt8)} {i : Nat} {x : List UInt8} (h : TxSm 64 l) (hx : Sm 64 1 x.length) : TxSm 0 (ins l i x) :=
  ⟨by have h1 := h.1; have h2 := len_ins_le l i x; unfold Sm at *; omega, fun y hy => by
    rcases mem_ins hy with rfl | hy
    · exact hx.mono (by decide)
    · exact (h.2 y hy).mono (by decide)⟩
theorem sm_wth {n na : Nd} {key val : List UInt8} (h : NdSm 64 n) (hk : Sm 64 1 key.length) (hv : Sm 64 1 val.length) (e : wth n key val = na) : NdSm 0 na := by
  subst e
  unfold wth
  split
  · refine ⟨h.1.mono (by decide), h.2.1.mono (by decide), ⟨?_, fun y hy => ?_⟩, h.2.2.2.mono (by decide)⟩
    · show Sm 0 24 (n.vals.set _ _).length
      rw [List.length_set]; exact h.2.2.1.1.mono (by decide)
    · rcases List.mem_or_eq_of_mem_set hy with hy | rfl
      · exact (h.2.2.1.2 y hy).mono (by decide)
      · exact hv.mono (by decide)
  · exact ⟨h.1.mono (by decide), tx_ins h.2.1 hk, tx_ins h.2.2.1 hv, h.2.2.2.mono (by decide)⟩

section
variable {w : World} {c0 c1 c2 c3 c4 c5 ck cv : Value} {n : Nd} {key val : List UInt8}

set_option maxRecDepth 100000 in
set_option maxHeartbeats 1000000 in
theorem back_ok (h : IsNd w (fun b => b < w.heap.size) c0 c1 c2 c3 c4 c5 n) (hs : NdSm 64 n) (hky : Byts w (fun b => b < w.heap.size) ck key) (hsk : Sm 64 1 key.length) (hva : Byts w (fun b => b < w.heap.size) cv val) (hsv : Sm 64 1 val.length) :
    Calls Try.prog 13 #[.agg #[c0, c1, c2, c3, c4, c5], ck, cv] w fun e w' => e = .returned (.bool true) ∧ Keeps Nob w w' := by
  have H := Lib.hid h
  have HKY := Lib.hid hky
  have HVA := Lib.hid hva
  have HSK : Hid (Sm 0 1 key.length) := hsk.mono (by decide)
  have HSV : Hid (Sm 0 1 val.length) := hsv.mono (by decide)
  have HSK2 : Hid (Sm 64 1 key.length) := hsk
  have HSV2 : Hid (Sm 64 1 val.length) := hsv
  have HS : Hid (NdSm 64 n) := hs
  clear h hs hky hva hsk hsv
  obtain ⟨vl, hvl⟩ : ∃ v, leaf n = v := ⟨_, rfl⟩
  obtain ⟨na, hna⟩ : ∃ m, wth n key val = m := ⟨_, rfl⟩
  obtain ⟨nb, hnb⟩ : ∃ m, wout n key = m := ⟨_, rfl⟩
  obtain ⟨vh, hvh⟩ : ∃ v, has n.keys key = v := ⟨_, rfl⟩
  obtain ⟨i, hvi⟩ : ∃ v, below n.keys key = v := ⟨_, rfl⟩
  have LAW : Hid (vl = true → has na.keys key = true ∧ below na.keys key = i ∧ na.keys[i]? = some key ∧ na.vals[i]? = some val ∧ wout na key = nb ∧ has nb.keys key = false) := fun hv => by
    subst hv
    obtain ⟨h1, h2, h3, h4⟩ := back_in (key := key) (val := val) hvl
    obtain ⟨h5, h6⟩ := back_out (key := key) (val := val) hvl
    rw [hna, hvi] at *
    rw [hnb] at *
    exact ⟨h1, h2, h3, h4, h5, h6⟩
  have Qvl := Lib.hid hvl
  clear hvl
  have Qna := Lib.hid hna
  clear hna
  have Qnb := Lib.hid hnb
  clear hnb
  have Qvh := Lib.hid hvh
  clear hvh
  have Qvi := Lib.hid hvi
  clear hvi
  go_enter Try.func13, Try.ntmps13
  go_wp2_with fail
  refine calls_at (fun wa hw => ?_)
  have hk : Keeps Nob w wa := by rw [hw]; exact Keeps.alloc _ _ _
  have BN : Hid (Blk wa (w.heap.size) 51 #[c0, c1, c2, c3, c4, c5]) := by rw [hw]; exact Blk.new _ _ _
  have szwa := hk.size
  have ltBN := BN.out.lt
  have K := Lib.hid hk
  clear hw hk
  have HN := Lib.hid (H.out.keeps K.out (fun _ _ _ => id))
  clear H
  have HK := Lib.hid (HKY.out.keeps K.out (fun _ _ _ => id))
  clear HKY
  have HV := Lib.hid (HVA.out.keeps K.out (fun _ _ _ => id))
  clear HVA
  refine (head9 wa).mono ?_
  rintro e w1 ⟨rfl, hk⟩
  replace BN := Lib.hid (BN.out.keeps hk id)
  replace HN := Lib.hid (HN.out.keeps hk (fun _ _ _ => id))
  replace HK := Lib.hid (HK.out.keeps hk (fun _ _ _ => id))
  replace HV := Lib.hid (HV.out.keeps hk (fun _ _ _ => id))
  have szw1 := hk.size
  replace K := Lib.hid (K.out.trans hk (fun _ _ h => h))
  clear hk
  have qBN := fun i => BN.out.cell i
  have lBN := BN.out.lt
  go_wp2_with fail
  clear qBN lBN
  refine (leafR HN.out (sm_keys HS.out)).mono ?_
  rintro e w2 ⟨rfl, hk⟩
  replace BN := Lib.hid (BN.out.keeps hk id)
  replace HN := Lib.hid (HN.out.keeps hk (fun _ _ _ => id))
  replace HK := Lib.hid (HK.out.keeps hk (fun _ _ _ => id))
  replace HV := Lib.hid (HV.out.keeps hk (fun _ _ _ => id))
  have szw2 := hk.size
  replace K := Lib.hid (K.out.trans hk (fun _ _ h => h))
  clear hk
  rw [Qvl.out]
  cases vl with
  | false =>
    go_wp2
    go_ret
    exact ⟨rfl, K.out⟩
  | true =>
    obtain ⟨L1, L2, L3, L4, L5, L6⟩ := LAW.out rfl
    have M1 := Lib.hid L1
    have M2 := Lib.hid L2
    have M3 := Lib.hid L3
    have M4 := Lib.hid L4
    have M5 := Lib.hid L5
    have M6 := Lib.hid L6
    clear LAW L1 L2 L3 L4 L5 L6
    have qBN := fun i => BN.out.cell i
    have lBN := BN.out.lt
    go_wp2_with fail
    clear qBN lBN
    refine (findP HN.out.2.keys HK.out).mono ?_
    rintro e w3 ⟨rfl, hk⟩
    replace BN := Lib.hid (BN.out.keeps hk id)
    replace HN := Lib.hid (HN.out.keeps hk (fun _ _ _ => id))
    replace HK := Lib.hid (HK.out.keeps hk (fun _ _ _ => id))
    replace HV := Lib.hid (HV.out.keeps hk (fun _ _ _ => id))
    have szw3 := hk.size
    replace K := Lib.hid (K.out.trans hk (fun _ _ h => h))
    clear hk
    rw [Qvi.out, Qvh.out]
    have qBN := fun i => BN.out.cell i
    have lBN := BN.out.lt
    go_wp2_with fail
    clear qBN lBN
    refine (withP HN.out HK.out HV.out HS.out HSK.out HSV.out).mono ?_
    rintro e w4 ⟨a0, a1, a2, a3, a4, a5, rfl, hA, hk⟩
    replace BN := Lib.hid (BN.out.keeps hk id)
    replace HN := Lib.hid (HN.out.keeps hk (fun _ _ _ => id))
    replace HK := Lib.hid (HK.out.keeps hk (fun _ _ _ => id))
    replace HV := Lib.hid (HV.out.keeps hk (fun _ _ _ => id))
    have szw4 := hk.size
    replace K := Lib.hid (K.out.trans hk (fun _ _ h => h))
    clear hk
    rw [Qna.out] at hA
    obtain ⟨A1, aj1, f1⟩ := Own.form hA.1.high
    obtain ⟨A3, aj3, f3⟩ := OTx.form hA.2.keys
    obtain ⟨A4, aj4, f4⟩ := OTx.form hA.2.vals
    obtain ⟨A5, aj5, f5⟩ := Own.form hA.2.kids
    have f0 := hA.1.lvl
    have f2 := hA.1.right
    unfold iV at f0 f2
    subst f0 f1 f2 f3 f4 f5
    have HA := Lib.hid hA
    clear hA
    go_wp2_with fail
    refine calls_at (fun wb hw => ?_)
    have hk : Keeps Nob w4 wb := by rw [hw]; exact Keeps.alloc _ _ _
    have BA : Hid (Blk wb (w4.heap.size) 51 #[.int .i64 na.lvl, .slice A1 na.high.length aj1, .int .i64 na.right, .slice A3 na.keys.length aj3, .slice A4 na.vals.length aj4, .slice A5 na.kids.length aj5]) := by rw [hw]; exact Blk.new _ _ _
    replace BN := Lib.hid (BN.out.keeps hk id)
    replace HN := Lib.hid (HN.out.keeps hk (fun _ _ _ => id))
    replace HK := Lib.hid (HK.out.keeps hk (fun _ _ _ => id))
    replace HV := Lib.hid (HV.out.keeps hk (fun _ _ _ => id))
    replace HA := Lib.hid (HA.out.keeps hk (fun _ _ _ => id))
    have szwb := hk.size
    have ltBA := BA.out.lt
    replace K := Lib.hid (K.out.trans hk (fun _ _ h => h))
    clear hw hk
    refine (findP HA.out.r.2.keys HK.out).mono ?_
    rintro e w5 ⟨rfl, hk⟩
    replace BN := Lib.hid (BN.out.keeps hk id)
    replace HN := Lib.hid (HN.out.keeps hk (fun _ _ _ => id))
    replace HK := Lib.hid (HK.out.keeps hk (fun _ _ _ => id))
    replace HV := Lib.hid (HV.out.keeps hk (fun _ _ _ => id))
    replace HA := Lib.hid (HA.out.keeps hk (fun _ _ _ => id))
    replace BA := Lib.hid (BA.out.keeps hk id)
    have szw5 := hk.size
    replace K := Lib.hid (K.out.trans hk (fun _ _ h => h))
    clear hk
    rw [M2.out, M1.out]
    have hkl : i < na.keys.length := (List.getElem?_eq_some_iff.1 M3.out).1
    have hvl : i < na.vals.length := (List.getElem?_eq_some_iff.1 M4.out).1
    obtain ⟨xd, rfl, _, hc⟩ := HA.out.r.2.keys.cells hkl
    obtain ⟨u1, hu1, hb1⟩ := hc i _ M3.out
    clear hc
    obtain ⟨yd, rfl, _, hc⟩ := HA.out.r.2.vals.cells hvl
    obtain ⟨u2, hu2, hb2⟩ := hc i _ M4.out
    clear hc
    obtain ⟨s1, e1, t1⟩ := strN hb1
    obtain ⟨s2, e2, t2⟩ := strN HK.out
    obtain ⟨s3, e3, t3⟩ := strN hb2
    obtain ⟨s4, e4, t4⟩ := strN HV.out
    clear hb1 hb2
    have p1 : decide ((na.keys.length : Int) ≤ (i : Int)) = false := decide_eq_false (by omega)
    have p2 : decide ((na.vals.length : Int) ≤ (i : Int)) = false := decide_eq_false (by omega)
    have p3 : decide ((i : Int) ≥ (na.keys.length : Int)) = false := decide_eq_false (by omega)
    have p4 : decide ((i : Int) ≥ (na.vals.length : Int)) = false := decide_eq_false (by omega)
    have n1 : (na.keys.length : Int) ≤ 9223372036854775807 := by obtain ⟨_, _, _, p, q⟩ := HA.out.r.2.keys.form; unfold maxLen at q; omega
    have n2 : (na.vals.length : Int) ≤ 9223372036854775807 := by obtain ⟨_, _, _, p, q⟩ := HA.out.r.2.vals.form; unfold maxLen at q; omega
    have qBA := fun i => BA.out.cell i
    have lBA := BA.out.lt
    go_wp2
    go_quiet (fail)
    clear qBA lBA
    clear hu1 hu2 t1 t2 t3 t4 e1 e2 e3 e4 p1 p2 p3 p4 n1 n2
    generalize hq : w5.drewN nq = wq
    have hk : Keeps Nob w5 wq := by rw [← hq]; exact Keeps.drewN _ _ _
    replace BN := Lib.hid (BN.out.keeps hk id)
    replace HN := Lib.hid (HN.out.keeps hk (fun _ _ _ => id))
    replace HK := Lib.hid (HK.out.keeps hk (fun _ _ _ => id))
    replace HV := Lib.hid (HV.out.keeps hk (fun _ _ _ => id))
    replace HA := Lib.hid (HA.out.keeps hk (fun _ _ _ => id))
    replace BA := Lib.hid (BA.out.keeps hk id)
    have szwq := hk.size
    replace K := Lib.hid (K.out.trans hk (fun _ _ h => h))
    clear hk hq
    have qBA := fun i => BA.out.cell i
    have lBA := BA.out.lt
    go_wp2_with fail
    clear qBA lBA
    refine (withoutP0 HA.out.r HK.out (sm_wth HS.out HSK2.out HSV2.out Qna.out)).mono ?_
    rintro e w6 ⟨b0, b1, b2, b3, b4, b5, rfl, hB, hk⟩
    replace BN := Lib.hid (BN.out.keeps hk id)
    replace HN := Lib.hid (HN.out.keeps hk (fun _ _ _ => id))
    replace HK := Lib.hid (HK.out.keeps hk (fun _ _ _ => id))
    replace HV := Lib.hid (HV.out.keeps hk (fun _ _ _ => id))
    replace HA := Lib.hid (HA.out.keeps hk (fun _ _ _ => id))
    replace BA := Lib.hid (BA.out.keeps hk id)
    have szw6 := hk.size
    replace K := Lib.hid (K.out.trans hk (fun _ _ h => h))
    clear hk
    rw [M5.out] at hB
    rw [M1.out]
    obtain ⟨B1, bj1, f1⟩ := Own.form hB.1.high
    obtain ⟨B3, bj3, f3⟩ := OTx.form hB.2.keys
    obtain ⟨B4, bj4, f4⟩ := OTx.form hB.2.vals
    obtain ⟨B5, bj5, f5⟩ := Own.form hB.2.kids
    have f0 := hB.1.lvl
    have f2 := hB.1.right
    unfold iV at f0 f2
    subst f0 f1 f2 f3 f4 f5
    have HB := Lib.hid hB
    clear hB
    go_wp2_with fail
    refine calls_at (fun wc hw => ?_)
    have hk : Keeps Nob w6 wc := by rw [hw]; exact Keeps.alloc _ _ _
    have BB : Hid (Blk wc (w6.heap.size) 51 #[.int .i64 nb.lvl, .slice B1 nb.high.length bj1, .int .i64 nb.right, .slice B3 nb.keys.length bj3, .slice B4 nb.vals.length bj4, .slice B5 nb.kids.length bj5]) := by rw [hw]; exact Blk.new _ _ _
    replace BN := Lib.hid (BN.out.keeps hk id)
    replace HN := Lib.hid (HN.out.keeps hk (fun _ _ _ => id))
    replace HK := Lib.hid (HK.out.keeps hk (fun _ _ _ => id))
    replace HV := Lib.hid (HV.out.keeps hk (fun _ _ _ => id))
    replace HA := Lib.hid (HA.out.keeps hk (fun _ _ _ => id))
    replace BA := Lib.hid (BA.out.keeps hk id)
    replace HB := Lib.hid (HB.out.keeps hk (fun _ _ _ => id))
    have szwc := hk.size
    have ltBB := BB.out.lt
    replace K := Lib.hid (K.out.trans hk (fun _ _ h => h))
    clear hw hk
    obtain ⟨ib, hib⟩ : ∃ v, below nb.keys key = v := ⟨_, rfl⟩
    have QIB := Lib.hid hib
    clear hib
    refine (findP HB.out.r.2.keys HK.out).mono ?_
    rintro e w7 ⟨rfl, hk⟩
    replace BN := Lib.hid (BN.out.keeps hk id)
    replace HN := Lib.hid (HN.out.keeps hk (fun _ _ _ => id))
    replace HK := Lib.hid (HK.out.keeps hk (fun _ _ _ => id))
    replace HV := Lib.hid (HV.out.keeps hk (fun _ _ _ => id))
    replace HA := Lib.hid (HA.out.keeps hk (fun _ _ _ => id))
    replace BA := Lib.hid (BA.out.keeps hk id)
    replace HB := Lib.hid (HB.out.keeps hk (fun _ _ _ => id))
    replace BB := Lib.hid (BB.out.keeps hk id)
    have szw7 := hk.size
    replace K := Lib.hid (K.out.trans hk (fun _ _ h => h))
    clear hk
    rw [QIB.out, M6.out]
    have qBN := fun i => BN.out.cell i
    have lBN := BN.out.lt
    go_wp2_with fail
    clear qBN lBN
    refine (withoutP HN.out HK.out HS.out).mono ?_
    rintro e w8 ⟨e0, e1, e2, e3, e4, e5, rfl, hC, hk⟩
    replace BN := Lib.hid (BN.out.keeps hk id)
    replace HN := Lib.hid (HN.out.keeps hk (fun _ _ _ => id))
    replace HK := Lib.hid (HK.out.keeps hk (fun _ _ _ => id))
    replace HV := Lib.hid (HV.out.keeps hk (fun _ _ _ => id))
    replace HA := Lib.hid (HA.out.keeps hk (fun _ _ _ => id))
    replace BA := Lib.hid (BA.out.keeps hk id)
    replace HB := Lib.hid (HB.out.keeps hk (fun _ _ _ => id))
    replace BB := Lib.hid (BB.out.keeps hk id)
    have szw8 := hk.size
    replace K := Lib.hid (K.out.trans hk (fun _ _ h => h))
    clear hk
    rw [Qnb.out] at hC
    rw [Qvh.out]
    obtain ⟨E1, ej1, f1⟩ := Own.form hC.1.high
    obtain ⟨E3, ej3, f3⟩ := OTx.form hC.2.keys
    obtain ⟨E4, ej4, f4⟩ := OTx.form hC.2.vals
    obtain ⟨E5, ej5, f5⟩ := Own.form hC.2.kids
    have f0 := hC.1.lvl
    have f2 := hC.1.right
    unfold iV at f0 f2
    subst f0 f1 f2 f3 f4 f5
    have HC := Lib.hid hC
    clear hC
    have qBB := fun i => BB.out.cell i
    have lBB := BB.out.lt
    go_wp2_with fail
    clear qBB lBB
    refine calls_at (fun wd hw => ?_)
    have hk : Keeps Nob w8 wd := by rw [hw]; exact Keeps.alloc _ _ _
    have BC : Hid (Blk wd (w8.heap.size) 51 #[.int .i64 nb.lvl, .slice E1 nb.high.length ej1, .int .i64 nb.right, .slice E3 nb.keys.length ej3, .slice E4 nb.vals.length ej4, .slice E5 nb.kids.length ej5]) := by rw [hw]; exact Blk.new _ _ _
    replace BN := Lib.hid (BN.out.keeps hk id)
    replace HN := Lib.hid (HN.out.keeps hk (fun _ _ _ => id))
    replace HK := Lib.hid (HK.out.keeps hk (fun _ _ _ => id))
    replace HV := Lib.hid (HV.out.keeps hk (fun _ _ _ => id))
    replace HA := Lib.hid (HA.out.keeps hk (fun _ _ _ => id))
    replace BA := Lib.hid (BA.out.keeps hk id)
    replace HB := Lib.hid (HB.out.keeps hk (fun _ _ _ => id))
    replace BB := Lib.hid (BB.out.keeps hk id)
    replace HC := Lib.hid (HC.out.keeps hk (fun _ _ _ => id))
    have szwd := hk.size
    have ltBC := BC.out.lt
    replace K := Lib.hid (K.out.trans hk (fun _ _ h => h))
    clear hw hk
    refine (sameN HB.out.r HC.out.r).mono ?_
    rintro e w9 ⟨rfl, hk⟩
    replace BN := Lib.hid (BN.out.keeps hk id)
    replace HN := Lib.hid (HN.out.keeps hk (fun _ _ _ => id))
    replace HK := Lib.hid (HK.out.keeps hk (fun _ _ _ => id))
    replace HV := Lib.hid (HV.out.keeps hk (fun _ _ _ => id))
    replace HA := Lib.hid (HA.out.keeps hk (fun _ _ _ => id))
    replace BA := Lib.hid (BA.out.keeps hk id)
    replace HB := Lib.hid (HB.out.keeps hk (fun _ _ _ => id))
    replace BB := Lib.hid (BB.out.keeps hk id)
    replace HC := Lib.hid (HC.out.keeps hk (fun _ _ _ => id))
    replace BC := Lib.hid (BC.out.keeps hk id)
    have szw9 := hk.size
    replace K := Lib.hid (K.out.trans hk (fun _ _ h => h))
    clear hk
    rw [sameNd_self]
    cases vh
    all_goals
      go_wp2
      go_ret
      exact ⟨rfl, K.out⟩
end
end Go.Proofs.Ytdmmhblmgbhgfaa
