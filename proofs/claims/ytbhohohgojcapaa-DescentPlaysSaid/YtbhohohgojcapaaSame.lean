/- Are two texts, two rows of texts, two heads, bodies, nodes the same: the document's answer. -/
import Derived.Test.YtbhohohgojcapaaCmp
import Derived.Test.YtbhohohgojcapaaRegion
import Derived.Laws.IdiomStrings
import Derived.Laws.BytesArg
namespace Go.Proofs.Ytbhohohgojcapaa
open Go.RowKit

theorem run_str {w : World} {S : Nat → Prop} {v : Value} {l : List UInt8} (h : Byts w S v l) : (convert 30 9 v).run Try.prog w = .ok (.string ⟨l.toArray⟩) w := by
  obtain ⟨A, c, rfl, _, _⟩ := h.form
  rcases hA : A with _ | ad
  · subst hA
    have hn : l = [] := by
      rcases hl : l with _ | ⟨x, l'⟩
      · rfl
      · obtain ⟨ad, e, _⟩ := h.cells (i := 0) (by rw [hl]; simp)
        cases e
    subst hn
    exact run_convert_bytes_nil w 30 5 Try.underlying30 Try.underlying5 _ _ 9 Try.underlying9
  · subst hA
    refine run_convert_bytes_back w 30 9 5 ad c l Try.underlying30 Try.underlying5 Try.underlying9 (fun j hj => ?_)
    obtain ⟨ad', e, _, hc⟩ := h.cells hj
    cases e
    exact hc j _ (List.getElem?_eq_getElem hj)

theorem strN {w : World} {S : Nat → Prop} {v : Value} {l : List UInt8} (h : Byts w S v l) : ∃ s : ByteArray, s.toList = l ∧ ∀ n, (convert 30 9 v).run Try.prog (w.drewN n) = .ok (.string s) (w.drewN n) :=
  ⟨_, ByteArray.toList_mk l, fun n => run_str (h.keeps (Keeps.drewN Nob w n) (fun _ _ _ => id))⟩

section
variable {S T : Nat → Prop} {w : World} {a b : Value} {la lb : List (List UInt8)}

theorem take_bothT {α : Type} {k : Nat} {la lb : List α} {x : α} (h : la.take k = lb.take k) (hx : la[k]? = some x) (hy : lb[k]? = some x) : la.take (k + 1) = lb.take (k + 1) := by
  rw [List.take_add_one, List.take_add_one, h, hx, hy]

set_option maxRecDepth 100000 in
set_option maxHeartbeats 1000000 in
theorem sameT (h1 : Txts w S a la) (h2 : Txts w T b lb) : Calls Try.prog 99 #[a, b] w fun e w' => e = .returned (.bool (decide (la = lb))) ∧ Keeps Nob w w' := by
  obtain ⟨A, c, rfl, hn1, hm1⟩ := h1.form
  obtain ⟨B, d, rfl, hn2, hm2⟩ := h2.form
  have hz1 : la.length ≤ 9223372036854775807 := Nat.le_trans hn1 hm1
  have hz2 : lb.length ≤ 9223372036854775807 := Nat.le_trans hn2 hm2
  have H1 := Lib.hid h1
  have H2 := Lib.hid h2
  clear h1 h2 hn1 hn2 hm1 hm2
  by_cases hll : la.length = lb.length
  · rw [← hll]
    rw [← hll] at hz2
    have HLL := Lib.hid hll
    clear hll
    go_enter Try.func99, Try.ntmps99
    go_wp2
    go_loopw [5] (fun i wr => ∃ k : Nat, k ≤ la.length ∧ i = .int .i64 k ∧ la.take k = lb.take k ∧ Keeps Nob w wr) (fun i _ => la.length - (intOf i).toNat)
    case atStart => exact ⟨0, Nat.zero_le _, rfl, rfl, Keeps.refl _ _⟩
    case round =>
      obtain ⟨k, hk1, rfl, htake, hK⟩ := hrel
      have HT := Lib.hid htake
      have HK := Lib.hid hK
      clear htake hK
      by_cases hlt : k < la.length
      · have hlt2 : k < lb.length := by have := HLL.out; omega
        obtain ⟨x, hx⟩ : ∃ x, la[k]? = some x := ⟨_, List.getElem?_eq_getElem hlt⟩
        obtain ⟨y, hy⟩ : ∃ y, lb[k]? = some y := ⟨_, List.getElem?_eq_getElem hlt2⟩
        obtain ⟨ad, rfl, _, hca⟩ := H1.out.cells hlt
        obtain ⟨bd, rfl, _, hcb⟩ := H2.out.cells hlt2
        obtain ⟨u, hu, hbu⟩ := hca k x hx
        obtain ⟨v, hv, hbv⟩ := hcb k y hy
        have hu' : wr.cell? (ad.add k) = some u := HK.out.cell hu id
        have hv' : wr.cell? (bd.add k) = some v := HK.out.cell hv id
        obtain ⟨sx, e1, s1⟩ := strN (hbu.keeps HK.out (fun _ _ _ => id))
        obtain ⟨sy, e2, s2⟩ := strN (hbv.keeps HK.out (fun _ _ _ => id))
        have HX := Lib.hid hx
        have HY := Lib.hid hy
        clear hca hcb hu hv hbu hbv hx hy hlt2
        by_cases hxy : x = y
        · subst hxy
          go_wp2
          go_quiet (fail)
          go_wp2
          go_roundw
          case rel => exact ⟨k + 1, by omega, by go_num, take_bothT HT.out HX.out HY.out, HK.out.drewN' _⟩
          case measure => simp [intOf]; omega
        · have hne : (x == y) = false := by simp [hxy]
          go_wp2
          go_quiet (fail)
          go_wp2
          go_ret
          refine ⟨?_, HK.out.drewN' _⟩
          have : ¬ la = lb := fun e => by
            subst e
            have := HX.out.symm.trans HY.out
            injection this with this
            exact hxy this
          rw [decide_eq_false this]; rfl
      · have hkk : k = la.length := by omega
        subst hkk
        go_wp2
        go_ret
        refine ⟨?_, HK.out⟩
        have h := HT.out
        rw [List.take_length, HLL.out, List.take_length] at h
        rw [decide_eq_true h]; rfl
  · have hne : (la.length : Int) ≠ (lb.length : Int) := by omega
    have HLL := Lib.hid hll
    clear hll
    go_enter Try.func99, Try.ntmps99
    go_wp2
    go_ret
    refine ⟨?_, Keeps.refl _ _⟩
    rw [decide_eq_false (fun e => HLL.out (by rw [e]))]; rfl
end

def sameHd (n m : Nd) : Bool := (n.lvl == m.lvl) && ((n.high == m.high) && (n.right == m.right))
def sameBd (n m : Nd) : Bool := decide (n.keys = m.keys) && (decide (n.vals = m.vals) && (n.kids == m.kids))
def sameNd (n m : Nd) : Bool := sameHd n m && sameBd n m
theorem sameNd_self (n : Nd) : sameNd n n = true := by simp [sameNd, sameHd, sameBd]
theorem sameNd_eq {n m : Nd} (h : sameNd n m = true) : n = m := by
  cases n; cases m
  simp [sameNd, sameHd, sameBd] at h
  obtain ⟨⟨rfl, rfl, rfl⟩, rfl, rfl, rfl⟩ := h
  rfl

section
variable {S T : Nat → Prop} {w : World} {a0 a1 a2 a3 a4 a5 b0 b1 b2 b3 b4 b5 : Value} {n m : Nd}

set_option maxRecDepth 100000 in
set_option maxHeartbeats 1000000 in
theorem sameH (h1 : IsHd w S a0 a1 a2 n) (h2 : IsHd w T b0 b1 b2 m) : Calls Try.prog 60 #[.agg #[a0, a1, a2], .agg #[b0, b1, b2]] w fun e w' => e = .returned (.bool (sameHd n m)) ∧ Keeps Nob w w' := by
  have e0 := h1.lvl
  have e1 := h1.right
  have e2 := h2.lvl
  have e3 := h2.right
  subst e0 e1 e2 e3
  have s1 : ∃ s : ByteArray, s.toList = n.high ∧ ∀ o o', (convert 30 9 a1).run Try.prog ((w.alloc o).alloc o') = .ok (.string s) ((w.alloc o).alloc o') := ⟨_, ByteArray.toList_mk _, fun o o' => run_str ((h1.high.keeps (Keeps.alloc Nob _ o) (fun _ _ _ => id)).keeps (Keeps.alloc Nob _ o') (fun _ _ _ => id))⟩
  have s2 : ∃ s : ByteArray, s.toList = m.high ∧ ∀ o o', (convert 30 9 b1).run Try.prog ((w.alloc o).alloc o') = .ok (.string s) ((w.alloc o).alloc o') := ⟨_, ByteArray.toList_mk _, fun o o' => run_str ((h2.high.keeps (Keeps.alloc Nob _ o) (fun _ _ _ => id)).keeps (Keeps.alloc Nob _ o') (fun _ _ _ => id))⟩
  obtain ⟨sx, f1, s1⟩ := s1
  obtain ⟨sy, f2, s2⟩ := s2
  obtain ⟨A, c, rfl, _, _⟩ := h1.high.form
  obtain ⟨B, d, rfl, _, _⟩ := h2.high.form
  unfold sameHd iV
  clear h1 h2
  generalize n.lvl = x0 at *
  generalize m.lvl = y0 at *
  generalize n.right = x2 at *
  generalize m.right = y2 at *
  generalize n.high = x1 at *
  generalize m.high = y1 at *
  cases g0 : (x0 == y0) <;> cases g1 : (x1 == y1) <;> cases g2 : (x2 == y2)
  all_goals
    go_enter Try.func60, Try.ntmps60
    go_wp2
    go_ret
    exact ⟨rfl, (Keeps.alloc _ w _).alloc' _⟩

set_option maxRecDepth 100000 in
set_option maxHeartbeats 1000000 in
theorem sameB (h1 : IsBd w S a3 a4 a5 n) (h2 : IsBd w T b3 b4 b5 m) : Calls Try.prog 61 #[.agg #[a3, a4, a5], .agg #[b3, b4, b5]] w fun e w' => e = .returned (.bool (sameBd n m)) ∧ Keeps Nob w w' := by
  obtain ⟨A3, c3, rfl, _, _⟩ := h1.keys.form
  obtain ⟨A4, c4, rfl, _, _⟩ := h1.vals.form
  obtain ⟨A5, c5, rfl, hn1, hm1⟩ := h1.kids.form
  obtain ⟨B3, d3, rfl, _, _⟩ := h2.keys.form
  obtain ⟨B4, d4, rfl, _, _⟩ := h2.vals.form
  obtain ⟨B5, d5, rfl, hn2, hm2⟩ := h2.kids.form
  have hz1 : n.kids.length ≤ 9223372036854775807 := Nat.le_trans hn1 hm1
  have hz2 : m.kids.length ≤ 9223372036854775807 := Nat.le_trans hn2 hm2
  have H1 := Lib.hid h1
  have H2 := Lib.hid h2
  unfold sameBd
  clear h1 h2 hn1 hm1 hn2 hm2
  generalize hk : decide (n.keys = m.keys) = bk
  generalize hv : decide (n.vals = m.vals) = bv
  generalize hi : (n.kids == m.kids) = bi
  have HK := Lib.hid hk
  have HV := Lib.hid hv
  have HI := Lib.hid hi
  clear hk hv hi
  go_enter Try.func61, Try.ntmps61
  go_wp2_with fail
  refine calls_at (fun wa hwa => ?_)
  have BA : Blk wa w.heap.size 35 #[.slice A3 n.keys.length c3, .slice A4 n.vals.length c4, .slice A5 n.kids.length c5] := by rw [hwa]; exact (Blk.new _ _ _).alloc _
  have BB : Blk wa (w.heap.size + 1) 35 #[.slice B3 m.keys.length d3, .slice B4 m.vals.length d4, .slice B5 m.kids.length d5] := by rw [hwa]; exact Blk.new' (by simp) _ _
  have hka : Keeps Nob w wa := by rw [hwa]; exact (Keeps.alloc _ w _).alloc' _
  clear hwa
  refine (sameT (H1.out.keys.keeps hka (fun _ _ _ => id)) (H2.out.keys.keeps hka (fun _ _ _ => id))).mono ?_
  rintro e w1 ⟨rfl, hK⟩
  rw [HK.out]
  have BA1 := Lib.hid (BA.keeps hK id)
  have BB1 := Lib.hid (BB.keeps hK id)
  have K1 := Lib.hid (hka.trans hK (fun _ _ h => h))
  clear BA BB hka hK
  have q1 := BA1.out.cell 1
  have q2 := BB1.out.cell 1
  go_wp2_with fail
  clear q1 q2
  refine (sameT (H1.out.vals.keeps K1.out (fun _ _ _ => id)) (H2.out.vals.keeps K1.out (fun _ _ _ => id))).mono ?_
  rintro e w2 ⟨rfl, hK⟩
  rw [HV.out]
  have BA2 := Lib.hid (BA1.out.keeps hK id)
  have BB2 := Lib.hid (BB1.out.keeps hK id)
  have K2 := Lib.hid (K1.out.trans hK (fun _ _ h => h))
  clear hK BA1 BB1 K1
  have q1 := BA2.out.cell 2
  have q2 := BB2.out.cell 2
  cases bk
  · go_wp2
    go_ret
    exact ⟨rfl, K2.out⟩
  cases bv
  · go_wp2
    go_ret
    exact ⟨rfl, K2.out⟩
  by_cases hll : n.kids.length = m.kids.length
  · rw [← hll] at q2
    have HLL := Lib.hid hll
    rw [← hll] at BB2
    clear hll
    go_wp2
    clear q1 q2
    go_loopw [7] (fun i wr => ∃ k : Nat, k ≤ n.kids.length ∧ i = .int .i64 k ∧ n.kids.take k = m.kids.take k ∧ Keeps Nob w2 wr) (fun i _ => n.kids.length - (intOf i).toNat)
    case atStart => exact ⟨0, Nat.zero_le _, rfl, rfl, Keeps.refl _ _⟩
    case round =>
      obtain ⟨k, hk1, rfl, htake, hK⟩ := hrel
      have HT := Lib.hid htake
      have HKK := Lib.hid hK
      have q1 := (BA2.out.keeps hK id).cell 2
      have q2 := (BB2.out.keeps hK id).cell 2
      clear htake hK
      by_cases hlt : k < n.kids.length
      · have hlt2 : k < m.kids.length := by have := HLL.out; omega
        obtain ⟨x, hx⟩ : ∃ x, n.kids[k]? = some x := ⟨_, List.getElem?_eq_getElem hlt⟩
        obtain ⟨y, hy⟩ : ∃ y, m.kids[k]? = some y := ⟨_, List.getElem?_eq_getElem hlt2⟩
        obtain ⟨ad, rfl, _, hca⟩ := H1.out.kids.cells hlt
        obtain ⟨bd, rfl, _, hcb⟩ := H2.out.kids.cells hlt2
        have hu' : wr.cell? (ad.add k) = some (.int .i64 x) := HKK.out.cell (K2.out.cell (hca k x hx) id) id
        have hv' : wr.cell? (bd.add k) = some (.int .i64 y) := HKK.out.cell (K2.out.cell (hcb k y hy) id) id
        have HX := Lib.hid hx
        have HY := Lib.hid hy
        clear hca hcb hx hy hlt2
        by_cases hxy : x = y
        · subst hxy
          go_wp2
          go_quiet (fail)
          go_wp2
          go_roundw
          case rel => exact ⟨k + 1, by omega, by go_num, take_bothT HT.out HX.out HY.out, HKK.out.drewN' _⟩
          case measure => simp [intOf]; omega
        · have hne : (x != y) = true := by simp [hxy]
          go_wp2
          go_quiet (fail)
          go_wp2
          go_ret
          refine ⟨?_, K2.out.trans (HKK.out.drewN' _) (fun _ _ h => h)⟩
          rw [← HI.out]
          have : ¬ n.kids = m.kids := fun e => by
            have h1 := HX.out
            rw [e] at h1
            have := h1.symm.trans HY.out
            injection this with this
            exact hxy this
          have : (n.kids == m.kids) = false := by simp [this]
          rw [this]; rfl
      · have hkk : k = n.kids.length := by omega
        subst hkk
        go_wp2
        go_ret
        refine ⟨?_, K2.out.trans HKK.out (fun _ _ h => h)⟩
        have h := HT.out
        rw [List.take_length, HLL.out, List.take_length] at h
        rw [← HI.out, h]
        simp
  · have hne : (n.kids.length : Int) ≠ (m.kids.length : Int) := by omega
    have hbi : bi = false := by
      rw [← HI.out]
      have : ¬ n.kids = m.kids := fun e => hll (by rw [e])
      simp [this]
    subst hbi
    clear hll
    go_wp2
    go_ret
    exact ⟨rfl, K2.out⟩

set_option maxRecDepth 100000 in
set_option maxHeartbeats 1000000 in
theorem sameN (h1 : IsNd w S a0 a1 a2 a3 a4 a5 n) (h2 : IsNd w T b0 b1 b2 b3 b4 b5 m) : Calls Try.prog 19 #[.agg #[a0, a1, a2, a3, a4, a5], .agg #[b0, b1, b2, b3, b4, b5]] w fun e w' => e = .returned (.bool (sameNd n m)) ∧ Keeps Nob w w' := by
  have H1 := Lib.hid h1
  have H2 := Lib.hid h2
  unfold sameNd
  clear h1 h2
  generalize hh : sameHd n m = bh
  generalize hb : sameBd n m = bb
  have HH := Lib.hid hh
  have HB := Lib.hid hb
  clear hh hb
  go_enter Try.func19, Try.ntmps19
  go_wp2_with fail
  refine calls_at (fun wa hwa => ?_)
  have BA : Blk wa w.heap.size 37 #[a0, a1, a2, a3, a4, a5] := by rw [hwa]; exact (Blk.new _ _ _).alloc _
  have BB : Blk wa (w.heap.size + 1) 37 #[b0, b1, b2, b3, b4, b5] := by rw [hwa]; exact Blk.new' (by simp) _ _
  have hka : Keeps Nob w wa := by rw [hwa]; exact (Keeps.alloc _ w _).alloc' _
  clear hwa
  refine (sameH (H1.out.1.keeps hka (fun _ _ _ => id)) (H2.out.1.keeps hka (fun _ _ _ => id))).mono ?_
  rintro e w1 ⟨rfl, hK⟩
  rw [HH.out]
  have BA1 := BA.keeps hK id
  have BB1 := BB.keeps hK id
  have K1 := Lib.hid (hka.trans hK (fun _ _ h => h))
  clear BA BB hka hK
  have q3 := BA1.cell 3
  have q4 := BA1.cell 4
  have q5 := BA1.cell 5
  have p3 := BB1.cell 3
  have p4 := BB1.cell 4
  have p5 := BB1.cell 5
  clear BA1 BB1
  go_wp2_with fail
  refine (sameB (H1.out.2.keeps K1.out (fun _ _ _ => id)) (H2.out.2.keeps K1.out (fun _ _ _ => id))).mono ?_
  rintro e w2 ⟨rfl, hK⟩
  rw [HB.out]
  have K2 := Lib.hid (K1.out.trans hK (fun _ _ h => h))
  clear hK K1 q3 q4 q5 p3 p4 p5
  cases bh
  all_goals
    go_wp2
    go_ret
    exact ⟨rfl, K2.out⟩
end

end Go.Proofs.Ytbhohohgojcapaa
