/- Beyond and Child, of the program and of the document. -/
import Derived.Test.YtbhohohgojcapaaCmp
import Derived.Test.YtbhohohgojcapaaRegion
namespace Go.Proofs.Ytbhohohgojcapaa
open Go.RowKit

def beyond (high key : List UInt8) : Bool := decide (0 < high.length) && decide (0 ≤ cmp key high)
/-- How many keys are not above. -/
def upto (l : List (List UInt8)) (k : List UInt8) : Nat := l.countP (fun x => decide (cmp x k ≤ 0))
theorem upto_le (l k) : upto l k ≤ l.length := List.countP_le_length
theorem upto_take (l : List (List UInt8)) (k : List UInt8) (n : Nat) : upto (l.take n) k ≤ n := Nat.le_trans (upto_le _ _) (List.length_take_le _ _)
theorem upto_succ {l : List (List UInt8)} {k x : List UInt8} {n : Nat} (h : l[n]? = some x) : upto (l.take (n + 1)) k = upto (l.take n) k + if cmp x k ≤ 0 then 1 else 0 := by
  rw [List.take_add_one, h]
  unfold upto
  rw [List.countP_append]
  simp [List.countP_cons]
def childOf (kids : List Int) (keys : List (List UInt8)) (key : List UInt8) : Int := kids.getD (min (upto keys key) (kids.length - 1)) 0

section
variable {S T U : Nat → Prop} {w : World} {c0 c1 c2 c3 c4 c5 b : Value} {high key : List UInt8} {ls : List (List UInt8)} {kids : List Int}

set_option maxRecDepth 100000 in
set_option maxHeartbeats 1000000 in
theorem beyondP (h1 : Byts w S c1 high) (h2 : Byts w T b key) : Calls Try.prog 132 #[.agg #[c0, c1, c2, c3, c4, c5], b] w fun e w' => e = .returned (.bool (beyond high key)) ∧ Keeps Nob w w' := by
  obtain ⟨A, c, rfl, hn1, hm1⟩ := h1.form
  have HC : Hid (∀ o, Calls Try.prog 123 #[b, .slice A high.length c] (w.alloc o) fun e w' => e = .returned (.int .i64 (cmp key high)) ∧ w' = w.alloc o) := fun o => cmpP (h2.keeps (Keeps.alloc Nob w o) (fun _ _ _ => id)) (h1.keeps (Keeps.alloc Nob w o) (fun _ _ _ => id))
  unfold beyond
  clear h1 h2 hn1 hm1
  by_cases hz : 0 < high.length
  · rcases cmp_cases key high with hc | hc | hc
    all_goals
      have HCM := Lib.hid hc
      rw [hc]
      clear hc
      go_enter Try.func132, Try.ntmps132
      go_wp2_with (go_at_call 123; refine (HC.out _).mono ?_; rintro e w1 ⟨rfl, rfl⟩; rw [HCM.out])
      go_ret
      exact ⟨by simp [hz], Keeps.alloc _ _ _⟩
  · go_enter Try.func132, Try.ntmps132
    go_wp2
    go_ret
    exact ⟨by simp [hz], Keeps.alloc _ _ _⟩

set_option maxRecDepth 100000 in
set_option maxHeartbeats 1000000 in
theorem beyondR (h1 : Byts w S c1 high) (h2 : Byts w T b key) : Calls Try.prog 20 #[.agg #[c0, c1, c2, c3, c4, c5], b] w fun e w' => e = .returned (.bool (beyond high key)) ∧ Keeps Nob w w' := by
  obtain ⟨A, c, rfl, hn1, hm1⟩ := h1.form
  have HC : Hid (∀ o, Calls Try.prog 29 #[b, .slice A high.length c] (w.alloc o) fun e w' => e = .returned (.int .i64 (cmp key high)) ∧ Keeps Nob (w.alloc o) w') := fun o => cmpR (h2.keeps (Keeps.alloc Nob w o) (fun _ _ _ => id)) (h1.keeps (Keeps.alloc Nob w o) (fun _ _ _ => id))
  unfold beyond
  clear h1 h2 hn1 hm1
  by_cases hz : 0 < high.length
  · rcases cmp_cases key high with hc | hc | hc
    all_goals
      have HCM := Lib.hid hc
      rw [hc]
      clear hc
      go_enter Try.func20, Try.ntmps20
      go_wp2_with (go_at_call 29; refine (HC.out _).mono ?_; rintro e w1 ⟨rfl, hk⟩; have HK := Lib.hid hk; clear hk; rw [HCM.out])
      go_ret
      exact ⟨by simp [hz], (Keeps.alloc Nob w _).trans HK.out (fun _ _ h => h)⟩
  · go_enter Try.func20, Try.ntmps20
    go_wp2
    go_ret
    exact ⟨by simp [hz], Keeps.alloc _ _ _⟩

theorem child_min {n m : Nat} (hm : 0 < m) : min (n : Int) ((m : Int) - 1) = ((min n (m - 1) : Nat) : Int) := by omega

set_option maxRecDepth 100000 in
set_option maxHeartbeats 1000000 in
theorem childP (h1 : Txts w S c3 ls) (h3 : Ints w U c5 kids) (h2 : Byts w T b key) : Calls Try.prog 139 #[.agg #[c0, c1, c2, c3, c4, c5], b] w fun e w' => e = .returned (.int .i64 (childOf kids ls key)) ∧ Keeps Nob w w' := by
  obtain ⟨A, c, rfl, hn1, hm1⟩ := h1.form
  obtain ⟨B, d, rfl, hn3, hm3⟩ := h3.form
  have hz1 : ls.length ≤ 9223372036854775807 := Nat.le_trans hn1 hm1
  have hz3 : kids.length ≤ 9223372036854775807 := Nat.le_trans hn3 hm3
  have H1 := Lib.hid h1
  have H2 := Lib.hid h2
  have H3 := Lib.hid h3
  clear h1 h2 h3 hn1 hm1 hn3 hm3
  go_enter Try.func139, Try.ntmps139
  go_wp2
  go_loopw [5, 12] (fun b i wr => ∃ k : Nat, k ≤ ls.length ∧ i = .int .i64 k ∧ b = .int .i64 (upto (ls.take k) key) ∧ Blk wr w.heap.size 37 #[c0, c1, c2, .slice A ls.length c, c4, .slice B kids.length d] ∧ Keeps Nob w wr) (fun _ i _ => ls.length - (intOf i).toNat)
  case atStart => exact ⟨0, Nat.zero_le _, rfl, rfl, Blk.new _ _ _, Keeps.alloc _ _ _⟩
  case round =>
    obtain ⟨k, hk, rfl, rfl, hB, hK⟩ := hrel
    have HK := Lib.hid hK
    have HBK := Lib.hid hB
    have q := hB.cell 5
    clear hK hB
    have hbl := upto_take ls key k
    by_cases hlt : k < ls.length
    · obtain ⟨x, hx⟩ : ∃ x, ls[k]? = some x := ⟨_, List.getElem?_eq_getElem hlt⟩
      obtain ⟨ad, rfl, _, hc⟩ := H1.out.cells hlt
      obtain ⟨u, hu, hbu⟩ := hc k x hx
      have hu' : wr.cell? (ad.add k) = some u := HK.out.cell hu id
      have HX := Lib.hid hx
      have HB := Lib.hid (upto_succ (k := key) hx)
      have HC := Lib.hid (cmpP (hbu.keeps HK.out (fun _ _ _ => id)) (H2.out.keeps HK.out (fun _ _ _ => id)))
      clear hc hu hbu hx
      generalize upto (ls.take k) key = bl at hbl HB ⊢
      rcases cmp_cases x key with hcm | hcm | hcm
      all_goals
        have HCM := Lib.hid hcm
        clear hcm
        go_wp2_with (go_at_call 123; refine HC.out.mono ?_; rintro e w1 ⟨rfl, rfl⟩; rw [HCM.out])
        go_roundw
        case rel =>
          refine ⟨k + 1, by omega, by go_num, ?_, HBK.out, HK.out⟩
          rw [HB.out, HCM.out]; simp
        case measure => simp [intOf]; omega
    · have hkk : k = ls.length := by omega
      subst hkk
      rw [List.take_of_length_le (Nat.le_refl _)] at hbl ⊢
      generalize hup : upto ls key = m at hbl ⊢
      have HUP := Lib.hid hup
      clear hup
      by_cases hz : kids.length = 0
      · have hz' : kids = [] := List.eq_nil_of_length_eq_zero hz
        subst hz'
        go_wp2
        go_ret
        refine ⟨?_, HK.out⟩
        unfold childOf; simp
      · obtain ⟨bd, rfl, _, hc⟩ := H3.out.cells (i := 0) (by omega)
        have hil : min m (kids.length - 1) < kids.length := by omega
        have hcc : wr.cell? (bd.add (min m (kids.length - 1))) = some (.int .i64 (childOf kids ls key)) := by
          refine HK.out.cell ?_ id
          rw [hc _ _ (List.getElem?_eq_getElem hil)]
          unfold childOf
          rw [HUP.out, List.getD_eq_getElem?_getD, List.getElem?_eq_getElem hil]
          rfl
        clear hc
        generalize hr : childOf kids ls key = r at hcc
        have HR := Lib.hid hr
        clear hr
        by_cases hle : (kids.length : Int) - 1 < (m : Int)
        · rw [show min m (kids.length - 1) = kids.length - 1 by omega] at hcc hil
          have t1 : ¬ (m : Int) ≤ (kids.length : Int) - 1 := by omega
          have t2 : ¬ (m : Int) < (kids.length : Int) - 1 := by omega
          go_wp2
          go_ret
          exact ⟨by rw [HR.out]; rfl, HK.out⟩
        · rw [show min m (kids.length - 1) = m by omega] at hcc hil
          have t1 : (m : Int) ≤ (kids.length : Int) - 1 := by omega
          go_wp2
          go_ret
          exact ⟨by rw [HR.out]; rfl, HK.out⟩

set_option maxRecDepth 100000 in
set_option maxHeartbeats 1000000 in
theorem childR (h1 : Txts w S c3 ls) (h3 : Ints w U c5 kids) (h2 : Byts w T b key) : Calls Try.prog 84 #[.agg #[c0, c1, c2, c3, c4, c5], b] w fun e w' => e = .returned (.int .i64 (childOf kids ls key)) ∧ Keeps Nob w w' := by
  obtain ⟨A, c, rfl, hn1, hm1⟩ := h1.form
  obtain ⟨B, d, rfl, hn3, hm3⟩ := h3.form
  have hz1 : ls.length ≤ 9223372036854775807 := Nat.le_trans hn1 hm1
  have hz3 : kids.length ≤ 9223372036854775807 := Nat.le_trans hn3 hm3
  have H1 := Lib.hid h1
  have H2 := Lib.hid h2
  have H3 := Lib.hid h3
  clear h1 h2 h3 hn1 hm1 hn3 hm3
  by_cases hz : kids.length = 0
  · have hz' : kids = [] := List.eq_nil_of_length_eq_zero hz
    subst hz'
    go_enter Try.func84, Try.ntmps84
    go_wp2
    go_ret
    refine ⟨?_, Keeps.alloc _ _ _⟩
    unfold childOf; simp
  have hzi : ((kids.length : Int) == 0) = false := by rw [beq_eq_false_iff_ne]; omega
  go_enter Try.func84, Try.ntmps84
  go_wp2
  go_loopw [5, 6] (fun b i wr => ∃ k : Nat, k ≤ ls.length ∧ i = .int .i64 k ∧ b = .int .i64 (upto (ls.take k) key) ∧ Blk wr w.heap.size 37 #[c0, c1, c2, .slice A ls.length c, c4, .slice B kids.length d] ∧ Keeps Nob w wr) (fun _ i _ => ls.length - (intOf i).toNat)
  case atStart => exact ⟨0, Nat.zero_le _, rfl, rfl, Blk.new _ _ _, Keeps.alloc _ _ _⟩
  case round =>
    obtain ⟨k, hk, rfl, rfl, hB, hK⟩ := hrel
    have HK := Lib.hid hK
    have HBK := Lib.hid hB
    have q := hB.cell 5
    have q3 := hB.cell 3
    clear hK hB
    have hbl := upto_take ls key k
    by_cases hlt : k < ls.length
    · obtain ⟨x, hx⟩ : ∃ x, ls[k]? = some x := ⟨_, List.getElem?_eq_getElem hlt⟩
      obtain ⟨ad, rfl, _, hc⟩ := H1.out.cells hlt
      obtain ⟨u, hu, hbu⟩ := hc k x hx
      have hu' : wr.cell? (ad.add k) = some u := HK.out.cell hu id
      have HX := Lib.hid hx
      have HB := Lib.hid (upto_succ (k := key) hx)
      have HC := Lib.hid (cmpR (hbu.keeps HK.out (fun _ _ _ => id)) (H2.out.keeps HK.out (fun _ _ _ => id)))
      clear hc hu hbu hx
      generalize upto (ls.take k) key = bl at hbl HB ⊢
      rcases cmp_cases x key with hcm | hcm | hcm
      all_goals
        have HCM := Lib.hid hcm
        clear hcm
        go_wp2_with (go_at_call 29; refine HC.out.mono ?_; rintro e w1 ⟨rfl, hk1⟩; have HK1 := Lib.hid hk1; clear hk1; rw [HCM.out])
        go_roundw
        case rel =>
          refine ⟨k + 1, by omega, by go_num, ?_, HBK.out.keeps HK1.out id, HK.out.trans HK1.out (fun _ _ => id)⟩
          rw [HB.out, HCM.out]; simp
        case measure => simp [intOf]; omega
    · have hkk : k = ls.length := by omega
      subst hkk
      rw [List.take_of_length_le (Nat.le_refl _)] at hbl ⊢
      generalize hup : upto ls key = m at hbl ⊢
      have HUP := Lib.hid hup
      clear hup
      obtain ⟨bd, rfl, _, hc⟩ := H3.out.cells (i := 0) (by omega)
      have hil : min m (kids.length - 1) < kids.length := by omega
      have hcc : wr.cell? (bd.add (min m (kids.length - 1))) = some (.int .i64 (childOf kids ls key)) := by
        refine HK.out.cell ?_ id
        rw [hc _ _ (List.getElem?_eq_getElem hil)]
        unfold childOf
        rw [HUP.out, List.getD_eq_getElem?_getD, List.getElem?_eq_getElem hil]
        rfl
      clear hc
      generalize hr : childOf kids ls key = r at hcc
      have HR := Lib.hid hr
      clear hr
      by_cases hle : (kids.length : Int) - 1 < (m : Int)
      · rw [show min m (kids.length - 1) = kids.length - 1 by omega] at hcc hil
        have t1 : ¬ (m : Int) ≤ (kids.length : Int) - 1 := by omega
        have t2 : ¬ (m : Int) < (kids.length : Int) - 1 := by omega
        go_wp2
        go_ret
        exact ⟨by rw [HR.out]; rfl, HK.out⟩
      · rw [show min m (kids.length - 1) = m by omega] at hcc hil
        have t1 : (m : Int) ≤ (kids.length : Int) - 1 := by omega
        go_wp2
        go_ret
        exact ⟨by rw [HR.out]; rfl, HK.out⟩
end
end Go.Proofs.Ytbhohohgojcapaa
