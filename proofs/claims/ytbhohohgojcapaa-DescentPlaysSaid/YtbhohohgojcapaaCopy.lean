/- Copies in new memory: slices.Clone at bytes and ints, the reference's bytes, both sides' lists of texts. -/
import Derived.Test.YtbhohohgojcapaaOwn
import Derived.Test.YtbhohohgojcapaaArH
import Derived.Deep.QuietTactic
import Derived.BigQuiet
import Derived.Deep.OwnRows
namespace Go.Proofs.Ytbhohohgojcapaa
open Go.RowKit

section
variable {S : Nat → Prop} {w : World} {v : Value}

theorem bV_one (l : List UInt8) : ∀ u ∈ l.map bV, u.oneCell' = true := fun u hu => by
  obtain ⟨_, _, rfl⟩ := List.mem_map.1 hu; rfl
theorem iV_one (l : List Int) : ∀ u ∈ l.map iV, u.oneCell' = true := fun u hu => by
  obtain ⟨_, _, rfl⟩ := List.mem_map.1 hu; rfl
theorem Byts.g {l : List UInt8} (h : Byts w S v l) : SlG w S 1 v l.length (l.map bV) := by have := SlR.g h; rwa [List.length_map] at this
theorem Ints.g {l : List Int} (h : Ints w S v l) : SlG w S 1 v l.length (l.map iV) := by have := SlR.g h; rwa [List.length_map] at this
/-- A new empty row. -/
theorem Own.empty (w : World) (S : Nat → Prop) (e : TypeId) (size : Nat) (hs : S w.heap.size) : Own (w.alloc (.cells #[] e)) S e size (.slice (some ⟨w.heap.size, 0, none⟩) 0 0) 0 [] :=
  Own.made (xs := []) w #[] 0 0 hs (Nat.le_refl _) (by decide) (by simp) (by simp)

set_option maxRecDepth 100000 in
set_option maxHeartbeats 400000 in
theorem cloneB {l : List UInt8} (h : Byts w S v l) (hb : Sm 0 1 l.length) : Calls Try.prog 40 #[v] w fun e w' => ∃ v', e = .returned v' ∧ OBy w' (Fresh w w') v' l ∧ Keeps Nob w w' := by
  obtain ⟨A, c, rfl, h1, h2⟩ := h.form
  have H := Lib.hid h
  have HB : Hid (Sm 0 1 l.length) := hb
  have HC : Hid (l.length ≤ maxLen) := Nat.le_trans h1 h2
  clear h h1 h2 hb
  have he := fun w => Lib.run_eql_slice_nil (P := Try.prog) w 30 5 A l.length c 0 0 Try.underlying30
  obtain ⟨i0, hi, hz0, hz1, hz2⟩ := info_parts Try.inf_u8
  cases A with
  | none =>
    have hl : l = [] := by
      cases l with
      | nil => rfl
      | cons x l => obtain ⟨ad, e, _⟩ := H.out.cells (i := 0) (by simp); cases e
    subst hl
    simp only [List.length_nil] at he ⊢
    go_enter Try.func40, Try.ntmps40
    go_wp2
    go_ret
    exact ⟨_, rfl, OBy.nil _ _, Keeps.refl _ _⟩
  | some ad =>
    go_enter Try.func40, Try.ntmps40
    go_wp2_with (at_builtin; refine wpList_app rfl (.tmp 5) (.tmp 6) 30 rfl Try.underlying30 hi hz0 hz1 hz2 rfl (by decide) (v := .slice (some ⟨w.heap.size, 0, none⟩) 0 0) (n := 0) (m := l.length) (S := From w.heap.size) (T := S) (xs := []) (news := l.map bV) rfl ?c1 (y := .slice (some ad) l.length c) rfl ?c2 ?c3 ?c4 ?c5 ?c6)
    case c1 => exact Own.empty w _ _ _ (Nat.le_refl _)
    case c2 => exact H.out.g.keeps (Keeps.alloc Nob _ _) (fun _ _ _ => id)
    case c3 => exact bV_one l
    case c4 => have := HC.out; omega
    case c5 => have := HB.out; unfold Sm at this; omega
    case c6 =>
      intro v' w1 ho hk _
      try simp only [Nat.zero_add, List.nil_append] at ho
      go_wp2
      go_ret
      refine ⟨_, rfl, ho.mono (fun b _ hb => ?_), (Keeps.alloc Nob w _).trans hk (fun b hb e => ?_)⟩
      · rcases hb with hb | hb
        · simp [Value.ownBlock] at hb; subst hb; exact ⟨Nat.le_refl _, by have := hk.size; simp at this; omega⟩
        · have := hb.1; exact ⟨by omega, hb.2⟩
      · simp [Value.ownBlock] at e; omega

set_option maxRecDepth 100000 in
set_option maxHeartbeats 400000 in
theorem cloneI {l : List Int} (h : Ints w S v l) (hb : Sm 0 8 l.length) : Calls Try.prog 97 #[v] w fun e w' => ∃ v', e = .returned v' ∧ OIn w' (Fresh w w') v' l ∧ Keeps Nob w w' := by
  obtain ⟨A, c, rfl, h1, h2⟩ := h.form
  have H := Lib.hid h
  have HB : Hid (Sm 0 8 l.length) := hb
  have HC : Hid (l.length ≤ maxLen) := Nat.le_trans h1 h2
  clear h h1 h2 hb
  have he := fun w => Lib.run_eql_slice_nil (P := Try.prog) w 29 3 A l.length c 0 0 Try.underlying29
  obtain ⟨i0, hi, hz0, hz1, hz2⟩ := info_parts Try.inf_int
  cases A with
  | none =>
    have hl : l = [] := by
      cases l with
      | nil => rfl
      | cons x l => obtain ⟨ad, e, _⟩ := H.out.cells (i := 0) (by simp); cases e
    subst hl
    simp only [List.length_nil] at he ⊢
    go_enter Try.func97, Try.ntmps97
    go_wp2
    go_ret
    exact ⟨_, rfl, OIn.nil _ _, Keeps.refl _ _⟩
  | some ad =>
    go_enter Try.func97, Try.ntmps97
    go_wp2_with (at_builtin; refine wpList_app rfl (.tmp 5) (.tmp 6) 29 rfl Try.underlying29 hi hz0 hz1 hz2 rfl (by decide) (v := .slice (some ⟨w.heap.size, 0, none⟩) 0 0) (n := 0) (m := l.length) (S := From w.heap.size) (T := S) (xs := []) (news := l.map iV) rfl ?c1 (y := .slice (some ad) l.length c) rfl ?c2 ?c3 ?c4 ?c5 ?c6)
    case c1 => exact Own.empty w _ _ _ (Nat.le_refl _)
    case c2 => exact H.out.g.keeps (Keeps.alloc Nob _ _) (fun _ _ _ => id)
    case c3 => exact iV_one l
    case c4 => have := HC.out; omega
    case c5 => have := HB.out; unfold Sm at this; omega
    case c6 =>
      intro v' w1 ho hk _
      try simp only [Nat.zero_add, List.nil_append] at ho
      go_wp2
      go_ret
      refine ⟨_, rfl, ho.mono (fun b _ hb => ?_), (Keeps.alloc Nob w _).trans hk (fun b hb e => ?_)⟩
      · rcases hb with hb | hb
        · simp [Value.ownBlock] at hb; subst hb; exact ⟨Nat.le_refl _, by have := hk.size; simp at this; omega⟩
        · have := hb.1; exact ⟨by omega, hb.2⟩
      · simp [Value.ownBlock] at e; omega

set_option maxRecDepth 100000 in
set_option maxHeartbeats 400000 in
theorem bytesR {l : List UInt8} (h : Byts w S v l) (hb : Sm 0 1 l.length) : Calls Try.prog 113 #[v] w fun e w' => ∃ v', e = .returned v' ∧ OBy w' (Fresh w w') v' l ∧ Keeps Nob w w' := by
  obtain ⟨A, c, rfl, h1, h2⟩ := h.form
  have H := Lib.hid h
  have HB : Hid (Sm 0 1 l.length) := hb
  have HC : Hid (l.length ≤ maxLen) := Nat.le_trans h1 h2
  clear h h1 h2 hb
  obtain ⟨i0, hi, hz0, hz1, hz2⟩ := info_parts Try.inf_u8
  go_enter Try.func113, Try.ntmps113
  go_wp2_with (at_builtin; refine wpList_app rfl (.tmp 3) (.tmp 4) 30 rfl Try.underlying30 hi hz0 hz1 hz2 rfl (by decide) (v := .slice (some ⟨w.heap.size, 0, none⟩) 0 0) (n := 0) (m := l.length) (S := From w.heap.size) (T := S) (xs := []) (news := l.map bV) rfl ?c1 (y := .slice A l.length c) rfl ?c2 ?c3 ?c4 ?c5 ?c6)
  case c1 => exact Own.empty w _ _ _ (Nat.le_refl _)
  case c2 => exact H.out.g.keeps (Keeps.alloc Nob _ _) (fun _ _ _ => id)
  case c3 => exact bV_one l
  case c4 => have := HC.out; omega
  case c5 => have := HB.out; unfold Sm at this; omega
  case c6 =>
    intro v' w1 ho hk _
    try simp only [Nat.zero_add, List.nil_append] at ho
    go_wp2
    go_ret
    refine ⟨_, rfl, ho.mono (fun b _ hb => ?_), (Keeps.alloc Nob w _).trans hk (fun b hb e => ?_)⟩
    · rcases hb with hb | hb
      · simp [Value.ownBlock] at hb; subst hb; exact ⟨Nat.le_refl _, by have := hk.size; simp at this; omega⟩
      · have := hb.1; exact ⟨by omega, hb.2⟩
    · simp [Value.ownBlock] at e; omega

theorem tx_one {vs : List Value} {w : World} {S : Nat → Prop} {l : List (List UInt8)} (hl : vs.length = l.length) (h : ∀ (i : Nat) u x, vs[i]? = some u → l[i]? = some x → OBy w S u x) : ∀ u ∈ vs, u.oneCell' = true := fun u hu => by
  obtain ⟨i, hi⟩ := List.mem_iff_getElem?.1 hu
  have hlt : i < l.length := by rw [← hl]; exact (List.getElem?_eq_some_iff.1 hi).1
  obtain ⟨A, c, rfl⟩ := (h i u _ hi (List.getElem?_eq_getElem hlt)).form
  rfl
/-- One text more in a row of texts. -/
theorem tx_snoc {w w' : World} {S T : Nat → Prop} {v v' u : Value} {vs : List Value} {l : List (List UInt8)} {x : List UInt8}
    (hown : Own w S 30 1 v l.length vs) (hlen : vs.length = l.length) (hvs : ∀ (i : Nat) u x, vs[i]? = some u → l[i]? = some x → OBy w S u x) (hu : OBy w T u x)
    (ho : Own w' T 30 1 v' (l.length + 1) (vs ++ [u])) (hk : Keeps (fun b => v.ownBlock = some b) w w') (hST : ∀ b, b < w.heap.size → S b → T b) : OTx w' T v' (l ++ [x]) := by
  refine ⟨_, by simpa using ho, by simp [hlen], fun i a y ha hy => ?_⟩
  rw [List.getElem?_append] at ha hy
  split at ha
  · rename_i hlt
    rw [if_pos (by omega)] at hy
    exact ((hvs i a y ha hy).mono hST).keepsO hown (by decide) hk
  · rename_i hge
    rw [if_neg (by omega)] at hy
    have e : i - vs.length = 0 := by
      rcases hh : i - vs.length with _ | m
      · rfl
      · rw [hh] at ha; simp at ha
    rw [e] at ha
    rw [← hlen, e] at hy
    simp at ha hy
    subst ha hy
    exact hu.keepsO hown (by decide) hk

set_option maxRecDepth 100000 in
set_option maxHeartbeats 800000 in
theorem textsR {ls : List (List UInt8)} (h : Txts w S v ls) (hb : TxSm 0 ls) : Calls Try.prog 114 #[v] w fun e w' => ∃ v', e = .returned v' ∧ OTx w' (Fresh w w') v' ls ∧ Keeps Nob w w' := by
  obtain ⟨A, c, rfl, h1, h2⟩ := h.form
  have H := Lib.hid h
  have HB : Hid (TxSm 0 ls) := hb
  have hsz : ls.length ≤ 9223372036854775807 := Nat.le_trans h1 h2
  clear h h1 h2 hb
  obtain ⟨i0, hi, hz0, hz1, hz2⟩ := info_parts Try.inf_text
  go_enter Try.func114, Try.ntmps114
  go_wp2
  go_loopw [3, 4] (fun l i wr => ∃ k : Nat, k ≤ ls.length ∧ i = .int .i64 k ∧ OTx wr (Fresh w wr) l (ls.take k) ∧ Keeps Nob w wr) (fun _ i _ => ls.length - (intOf i).toNat)
  case atStart => exact ⟨0, Nat.zero_le _, rfl, OTx.nil _ _, Keeps.refl _ _⟩
  case round =>
    obtain ⟨k, hk, rfl, hO, hK⟩ := hrel
    obtain ⟨vs, hown, hlen, hvs⟩ := hO
    have hle : (ls.take k).length = k := by rw [List.length_take]; omega
    rw [hle] at hown
    have HLE := Lib.hid hle
    clear hle
    obtain ⟨A', c', hv⟩ := hown.form
    subst hv
    have HOWN := Lib.hid hown
    have HVS := Lib.hid (And.intro hlen hvs)
    have HKR := Lib.hid hK
    clear hown hlen hvs hK
    by_cases hlt : k < ls.length
    · obtain ⟨x, hx⟩ : ∃ x, ls[k]? = some x := ⟨_, List.getElem?_eq_getElem hlt⟩
      obtain ⟨ad, rfl, _, hc⟩ := H.out.cells hlt
      obtain ⟨u, hu, hbu⟩ := hc k x hx
      have hu' : wr.cell? (ad.add k) = some u := HKR.out.cell hu id
      have HT := Lib.hid (take_snoc' ls k x hx)
      have hcl := bytesR (hbu.keeps HKR.out (fun _ _ _ => id)) (HB.out.2 x (List.mem_of_getElem? hx))
      have HCL := Lib.hid hcl
      clear hc hu hbu hcl hx
      go_wp2_with (first
        | (go_at_call 113; refine HCL.out.mono ?_; rintro e w1 ⟨u', rfl, hO1, hK1⟩; have HO1 := Lib.hid hO1; have HK1 := Lib.hid hK1; obtain ⟨A1, c1, hf1⟩ := hO1.form; subst hf1; clear hO1 hK1)
        | (at_builtin; refine wpList_app rfl (.tmp 11) (.tmp 17) 28 rfl Try.underlying28 hi hz0 hz1 hz2 rfl (by decide) (v := .slice A' k c') (n := k) (m := 1) (S := Fresh w wr) (T := fun _ => True) (xs := vs) (news := [.slice A1 x.length c1]) rfl ?c1 (y := .slice (some ⟨w1.heap.size, 0, none⟩) 1 1) rfl ?c2 ?c3 ?c4 ?c5 ?c6))
      case c1 => exact HOWN.out.keeps (HK1.out.alloc' _) (fun _ _ _ => id)
      case c2 => exact (SlG.lit1 _ _ _ _ rfl).mono (fun _ _ _ => trivial)
      case c3 => intro u hu; simp at hu; subst hu; rfl
      case c4 => unfold maxLen; omega
      case c5 => have := HB.out.1; unfold Sm at this; omega
      case c6 =>
        intro v' w2 ho hk2 _
        have HOO := Lib.hid ho
        have HKK := Lib.hid hk2
        clear ho hk2
        go_wp2
        go_roundw
        case rel =>
          refine ⟨k + 1, by omega, by go_num, ?_, ?_⟩
          · have hk1 := HK1.out.alloc' (.cells #[.slice A1 x.length c1] 30)
            have hs1 := HKR.out.size
            have hs2 := hk1.size
            have hs3 := HKK.out.size
            rw [HT.out]
            have ho' : Own w2 (Fresh w w2) 30 1 v' (k + 1) (vs ++ [.slice A1 x.length c1]) := HOO.out.mono (fun b _ hb => by
              rcases hb with hb | hb
              · have := (HOWN.out.blk hb).1; exact ⟨this.1, by have := this.2; omega⟩
              · have h1 := hb.1; have h2 := hk1.size; have h3 := HK1.out.size; exact ⟨by omega, hb.2⟩)
            refine tx_snoc (S := Fresh w wr) (T := Fresh w w2) (by rw [HLE.out]; exact HOWN.out.keeps hk1 (fun _ _ _ => id)) HVS.out.1 (fun i a y ha hy => (HVS.out.2 i a y ha hy).keeps hk1 (fun _ _ _ => id))
              ((HO1.out.keeps (Keeps.alloc Nob _ _) (fun _ _ _ => id)).mono (fun b _ hb => ⟨by have := hb.1; omega, by have := hb.2; simp at hs3; omega⟩)) (by rw [HLE.out]; exact ho') HKK.out (fun b _ hb => ⟨hb.1, by have := hb.2; omega⟩)
          · exact HKR.out.trans ((HK1.out.alloc' _).mono (M' := fun b => (Value.slice A' k c').ownBlock = some b) (fun _ _ h => h.elim) |>.trans HKK.out (fun _ _ h => h)) (fun b hb e => absurd hb (Nat.not_lt.2 (HOWN.out.blk e).1.1))
        case measure => simp [intOf]; omega
    · have hkk : k = ls.length := by omega
      subst hkk
      go_wp2
      go_ret
      refine ⟨_, rfl, ?_, HKR.out⟩
      have hh : ls.take ls.length = ls := List.take_length
      rw [hh] at HVS
      exact ⟨vs, HOWN.out, HVS.out.1, HVS.out.2⟩

theorem madeCells_rep (z : Value) (n : Nat) : madeCells #[z] n = (List.replicate n z).toArray := by
  apply Array.ext'
  rw [toList_madeCells_one]
/-- A row that is filled from its head: k values are there, the others are still zero. -/
theorem fill_set (vs : List Value) (z u : Value) (n k : Nat) (hv : vs.length = k) (hk : k < n) :
    (vs ++ List.replicate (n - k) z).toArray.setIfInBounds k u = ((vs ++ [u]) ++ List.replicate (n - (k + 1)) z).toArray := by
  apply Array.ext'
  rw [Array.toList_setIfInBounds]
  subst hv
  rw [List.set_append_right _ _ (Nat.le_refl _), Nat.sub_self]
  obtain ⟨m, hm⟩ : ∃ m, n - vs.length = m + 1 := ⟨n - vs.length - 1, by omega⟩
  rw [hm, show n - (vs.length + 1) = m by omega, List.replicate_succ, List.set_cons_zero, List.append_assoc]
  rfl

set_option maxRecDepth 100000 in
set_option maxHeartbeats 800000 in
theorem textsP {ls : List (List UInt8)} (h : Txts w S v ls) (hb : TxSm 0 ls) : Calls Try.prog 96 #[v] w fun e w' => ∃ v', e = .returned v' ∧ OTx w' (Fresh w w') v' ls ∧ Keeps Nob w w' := by
  obtain ⟨A, c, rfl, h1, h2⟩ := h.form
  have H := Lib.hid h
  have HB : Hid (TxSm 0 ls) := hb
  have hsz : ls.length ≤ 9223372036854775807 := Nat.le_trans h1 h2
  have hmk := run_make_row' (P := Try.prog) 28 30 (.slice none 0 0) 24 Try.underlying28 Try.inf_text rfl .i64 .i64 ls.length (by have := hb.1; unfold Sm at this; omega) hsz
  clear h h1 h2 hb
  go_enter Try.func96, Try.ntmps96
  go_wp2
  clear hmk
  go_loopw [10] (fun i wr => ∃ (k : Nat) (vs : List Value), k ≤ ls.length ∧ i = .int .i64 k ∧ Blk wr w.heap.size 30 (vs ++ List.replicate (ls.length - k) (Value.slice none 0 0)).toArray ∧ vs.length = k ∧
      (∀ (i : Nat) u x, vs[i]? = some u → ls[i]? = some x → OBy wr (Fresh w wr) u x) ∧ Keeps Nob w wr) (fun i _ => ls.length - (intOf i).toNat)
  case atStart =>
    refine ⟨0, [], Nat.zero_le _, rfl, ?_, rfl, fun i u x h => by simp at h, Keeps.alloc _ _ _⟩
    rw [madeCells_rep]
    exact Blk.new w _ _
  case round =>
    obtain ⟨k, vs, hk, rfl, hB, hvl, hvs, hK⟩ := hrel
    have HBK := Lib.hid hB
    have HVL := Lib.hid hvl
    have HVS := Lib.hid hvs
    have HKR := Lib.hid hK
    clear hB hvl hvs hK
    by_cases hlt : k < ls.length
    · obtain ⟨x, hx⟩ : ∃ x, ls[k]? = some x := ⟨_, List.getElem?_eq_getElem hlt⟩
      obtain ⟨ad, rfl, _, hc⟩ := H.out.cells hlt
      obtain ⟨u, hu, hbu⟩ := hc k x hx
      have hu' : wr.cell? (ad.add k) = some u := HKR.out.cell hu id
      have HX := Lib.hid hx
      have HCL := Lib.hid (cloneB (hbu.keeps HKR.out (fun _ _ _ => id)) (HB.out.2 x (List.mem_of_getElem? hx)))
      clear hc hu hbu hx
      go_wp2_with (go_at_call 40; refine HCL.out.mono ?_; rintro e w1 ⟨u', rfl, hO1, hK1⟩; have HO1 := Lib.hid hO1; have HK1 := Lib.hid hK1; obtain ⟨A1, c1, hf1⟩ := hO1.form; subst hf1; have hbk := HBK.out.keeps hK1 id; have hfr := hbk.frozen (0 + k); have hcl := hbk.cell (0 + k); rw [Nat.zero_add] at hfr hcl; rw [List.getElem?_toArray, List.getElem?_append_right (by rw [HVL.out]; exact Nat.le_refl _), HVL.out, Nat.sub_self, List.getElem?_replicate, if_pos (by omega)] at hcl; clear hO1 hK1 hbk)
      go_roundw
      case rel =>
        have hb1 := HBK.out.keeps HK1.out id
        have hb2 := hb1.set_ k (.slice A1 x.length c1)
        rw [fill_set vs _ _ _ k HVL.out hlt] at hb2
        refine ⟨k + 1, vs ++ [.slice A1 x.length c1], by omega, by go_num, hb2, by simp [HVL.out], ?_, ?_⟩
        · have hk2 : Keeps (fun b => b = w.heap.size) w1 (w1.setCell ⟨w.heap.size, k, none⟩ (.slice A1 x.length c1)) := Keeps.setCell w1 (M := fun b => b = w.heap.size) rfl _
          have hs1 := HK1.out.size
          have hs0 := HKR.out.size
          have hs2 := hk2.size
          intro i a y ha hy
          rw [List.getElem?_append] at ha
          split at ha
          · refine Own.keepsB (((HVS.out i a y ha hy).keeps HK1.out (fun _ _ _ => id)).mono (fun b _ hb => ⟨hb.1, by have := hb.2; omega⟩)) hb1 (by decide) hk2
          · rename_i hge
            have e : i - vs.length = 0 := by
              rcases hh : i - vs.length with _ | m
              · rfl
              · rw [hh] at ha; simp at ha
            rw [e] at ha
            simp at ha
            subst ha
            have hik : i = k := by rw [HVL.out] at e hge; omega
            subst hik
            have := HX.out.symm.trans hy
            injection this with this
            subst this
            exact Own.keepsB (HO1.out.mono (fun b _ hb => ⟨by have := hb.1; omega, by have := hb.2; omega⟩)) hb1 (by decide) hk2
        · exact (HKR.out.trans HK1.out (fun _ _ => id)).setCell' (fun h => absurd h (by simp)) _
      case measure => simp [intOf]; omega
    · have hkk : k = ls.length := by omega
      subst hkk
      go_wp2
      go_ret
      have hb := HBK.out
      rw [Nat.sub_self, List.replicate_zero, List.append_nil] at hb
      exact ⟨_, rfl, ⟨vs, ⟨by rw [HVL.out]; omega, _, _, rfl, Nat.le_refl _, hsz, .inr ⟨_, 0, _, rfl, ⟨Nat.le_refl _, hb.lt⟩, hb, by rw [List.size_toArray, HVL.out]; omega, fun i x hx => by rw [Nat.zero_add, List.getElem?_toArray]; exact hx⟩⟩, HVL.out, HVS.out⟩, HKR.out⟩

end
end Go.Proofs.Ytbhohohgojcapaa
