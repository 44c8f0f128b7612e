/- Held: the numbers of the slots whose words are odd. -/
import Derived.Test.YtbhohohgojcapaaArA
namespace Go.Proofs.Ytbhohohgojcapaa
open Go.RowKit

/-- The numbers of the held ones among the slots, the first of which has number i. -/
def heldFrom (i : Nat) : List Sl → List Int
  | [] => []
  | s :: l => if s.word % 2 = 1 then ((i : Int)) :: heldFrom (i + 1) l else heldFrom (i + 1) l
theorem heldFrom_len (i : Nat) (l : List Sl) : (heldFrom i l).length ≤ l.length := by
  induction l generalizing i with
  | nil => simp [heldFrom]
  | cons s l ih => have := ih (i + 1); simp only [heldFrom]; split <;> simp <;> omega
theorem heldFrom_snoc (i : Nat) (l : List Sl) (s : Sl) : heldFrom i (l ++ [s]) = heldFrom i l ++ if s.word % 2 = 1 then [((i + l.length : Nat) : Int)] else [] := by
  induction l generalizing i with
  | nil => simp [heldFrom]
  | cons t l ih =>
    simp only [List.cons_append, heldFrom, ih, List.length_cons, show i + 1 + l.length = i + (l.length + 1) by omega]
    split <;> simp
theorem take_snoc' {α : Type} (l : List α) (k : Nat) (x : α) (h : l[k]? = some x) : l.take (k + 1) = l.take k ++ [x] := by
  rw [List.take_add_one, h]; rfl

theorem odd_bits (n : Nat) (h : U64 n) : bits BinOp.and IntKind.u64 (n : Int) 1 = ((n % 2 : Nat) : Int) := by
  unfold U64 at h
  rw [and_one_u64 _ (by omega) (by omega)]
  omega

section
variable {M D : Nat → Prop} {w : World} {p : Nat} {slots : Value} {ids : List Nat} {A : Ar}

set_option maxRecDepth 100000 in
set_option maxHeartbeats 800000 in
theorem held_ (h : ArW w M D p slots ids A) : Calls Try.prog 67 #[pV p] w fun e w' => ∃ v, e = .returned v ∧
    Own w' (From w.heap.size) 3 1 v (heldFrom 1 A.sl).length ((heldFrom 1 A.sl).map iV) ∧ Keeps Nob w w' := by
  have hl := h.len
  have hbd := h.bound
  have hsmall : ids.length ≤ 65536 := by omega
  have H := Lib.hid h
  obtain ⟨_, a, c, hsl, _, _, hrow⟩ := h.row
  subst hsl
  have c1 : w.cell? ⟨p, 1, none⟩ = some (.slice a ids.length c) := h.blk.cell 1
  have HL := Lib.hid hl
  clear h hl hbd hrow
  obtain ⟨i0, hi, hz0, hz1, hz2⟩ := info_parts Try.inf_int
  unfold pV at *
  go_enter Try.func67, Try.ntmps67
  go_wp2
  go_loopw [3, 11] (fun l i wr => ∃ k : Nat, k ≤ ids.length ∧ i = .int .i64 k ∧ Own wr (From w.heap.size) 3 1 l (heldFrom 1 (A.sl.take k)).length ((heldFrom 1 (A.sl.take k)).map iV) ∧ Keeps Nob w wr) (fun _ i _ => ids.length - (intOf i).toNat)
  case atStart => exact ⟨0, Nat.zero_le _, rfl, Own.nil _ _ _ _, Keeps.refl _ _⟩
  case round =>
    obtain ⟨k, hk, rfl, hown, hkp⟩ := hrel
    obtain ⟨A', c', hv⟩ := hown.form
    subst hv
    have hle := heldFrom_len 1 (A.sl.take k)
    have hle2 : (A.sl.take k).length ≤ k := List.length_take_le _ _
    have hsz := hkp.size
    by_cases hlt : k < ids.length
    · obtain ⟨b, hb⟩ : ∃ b, ids[k]? = some b := ⟨_, List.getElem?_eq_getElem hlt⟩
      obtain ⟨s, hs⟩ : ∃ s, A.sl[k]? = some s := ⟨_, List.getElem?_eq_getElem (by rw [← HL.out]; exact hlt)⟩
      obtain ⟨g, o, c2, hform, _, hcells⟩ := H.out.form (by omega)
      obtain ⟨rfl, rfl⟩ : a = some ⟨g, o, none⟩ ∧ c = c2 := by injection hform with h1 _ h3; exact ⟨h1, h3⟩
      have hc1 : wr.cell? ⟨g, o + k, none⟩ = some (.pointer (some ⟨b, 0, none⟩)) := hkp.cell (hcells k b hb) id
      have hc2 : wr.cell? ⟨b, 0, none⟩ = some (.int .u64 s.word) := hkp.cell (H.out.slotCell hb hs) id
      have HT := Lib.hid (take_snoc' A.sl k s hs)
      have HS := Lib.hid (heldFrom_snoc 1 (A.sl.take k) s)
      have HO := Lib.hid hown
      have HK := Lib.hid hkp
      have HB := Lib.hid hb
      have HU : Hid (U64 s.word) := (H.out.slot k b s hb hs).choose_spec.choose_spec.choose_spec.choose_spec.choose_spec.choose_spec.2.2
      clear hcells hform hown hkp hb hs
      have hodd := odd_bits s.word HU.out
      have HODD := Lib.hid hodd
      clear hodd
      go_wp2_with (first
        | (go_at_call 59; refine (loadU hc2).mono ?_; rintro e w' ⟨rfl, rfl⟩)
        | (at_builtin; refine wpList_app rfl (.tmp 22) (.tmp 25) 29 rfl Try.underlying29 hi hz0 hz1 hz2 rfl (by decide) (v := .slice A' (heldFrom 1 (List.take k A.sl)).length c') (n := (heldFrom 1 (List.take k A.sl)).length) (m := 1) (S := From w.heap.size) (T := fun _ => True) (xs := (heldFrom 1 (List.take k A.sl)).map iV) (news := [.int .i64 ((k : Int) + 1)]) rfl ?c1 (y := .slice (some ⟨wr.heap.size, 0, none⟩) 1 1) rfl ?c2 ?c3 ?c4 ?c5 ?c6))
      case c1 => exact HO.out.keeps (Keeps.alloc Nob _ _) (fun _ _ _ => id)
      case c2 => exact (SlG.lit1 _ _ _ _ rfl).mono (fun _ _ _ => trivial)
      case c3 => intro u hu; simp at hu; subst hu; rfl
      case c4 => unfold maxLen; omega
      case c5 => omega
      case c6 =>
        intro v' w1 ho hkk _
        have HOO := Lib.hid ho
        have HKK := Lib.hid hkk
        clear ho hkk
        go_wp2
        go_roundw
        case rel =>
          have ht : (bits BinOp.and IntKind.u64 (↑s.word) 1 == 1) = true := by assumption
          rw [HODD.out] at ht
          have hsw : s.word % 2 = 1 := by have := beq_iff_eq.1 ht; omega
          have hlk : (A.sl.take k).length = k := by rw [List.length_take, ← HL.out]; omega
          have heq : heldFrom 1 (A.sl.take (k + 1)) = heldFrom 1 (A.sl.take k) ++ [((k : Int) + 1)] := by
            rw [HT.out, HS.out, if_pos hsw, hlk]; congr 2; omega
          refine ⟨k + 1, by omega, by go_num, ?_, ?_⟩
          · rw [heq, List.length_append, List.map_append]
            refine HOO.out.mono (fun b _ hb => ?_)
            rcases hb with hb | hb
            · exact (HO.out.blk hb).1
            · have := HK.out.size; show w.heap.size ≤ b; have h2 := hb.1; omega
          · exact (HK.out.alloc' _).trans HKK.out (fun b hb e => absurd hb (Nat.not_lt.2 (HO.out.blk e).1))
        case measure => simp [intOf]; omega
      all_goals (try (
        go_roundw
        case rel =>
          have ht : (bits BinOp.and IntKind.u64 (↑s.word) 1 == 1) = false := by assumption
          rw [HODD.out] at ht
          have hsw : ¬ s.word % 2 = 1 := by have := beq_eq_false_iff_ne.1 ht; omega
          have heq : heldFrom 1 (A.sl.take (k + 1)) = heldFrom 1 (A.sl.take k) := by
            rw [HT.out, HS.out, if_neg hsw, List.append_nil]
          exact ⟨k + 1, by omega, by go_num, by rw [heq]; exact HO.out, HK.out⟩
        case measure => simp [intOf]; omega))
    · have hkk : k = ids.length := by omega
      have HO := Lib.hid hown
      have HK := Lib.hid hkp
      clear hown hkp
      go_wp2
      go_ret
      have heq : A.sl.take k = A.sl := List.take_of_length_le (by rw [← HL.out]; omega)
      have := HO.out
      rw [heq] at this
      exact ⟨_, rfl, by rw [heq]; exact this, HK.out⟩
end
end Go.Proofs.Ytbhohohgojcapaa
