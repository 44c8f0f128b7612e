/- How keys stand in a row that rises; what is put in is found, and taken out again. -/
import Derived.Test.YtdmmhblmgbhgfaaWithOk
namespace Go.Proofs.Ytdmmhblmgbhgfaa
open Go.RowKit

theorem cmp_cons (x y : UInt8) (l m : List UInt8) : cmp (x :: l) (y :: m) = if x < y then -1 else if y < x then 1 else cmp l m := by
  show Lib.compareBytes (x :: l) (y :: m) = _
  conv => lhs; unfold Lib.compareBytes
theorem cmp_lt_trans : ∀ (a b c : List UInt8), cmp a b < 0 → cmp b c < 0 → cmp a c < 0
  | [], [], _, h, _ => absurd h (by decide)
  | [], _ :: _, [], _, h => absurd h (by show ¬ (1 : Int) < 0; decide)
  | [], _ :: _, _ :: _, _, _ => by show (-1 : Int) < 0; decide
  | _ :: _, [], _, h, _ => absurd h (by show ¬ (1 : Int) < 0; decide)
  | _ :: _, _ :: _, [], _, h => absurd h (by show ¬ (1 : Int) < 0; decide)
  | x :: a, y :: b, z :: c, h1, h2 => by
    rw [cmp_cons] at h1 h2 ⊢
    by_cases hxy : x < y
    · by_cases hyz : y < z
      · rw [if_pos (UInt8.lt_trans hxy hyz)]; decide
      · rw [if_neg hyz] at h2
        by_cases hzy : z < y
        · rw [if_pos hzy] at h2; exact absurd h2 (by decide)
        · have : y = z := UInt8.le_antisymm (UInt8.not_lt.1 hzy) (UInt8.not_lt.1 hyz)
          subst this
          rw [if_pos hxy]; decide
    · rw [if_neg hxy] at h1
      by_cases hyx : y < x
      · rw [if_pos hyx] at h1; exact absurd h1 (by decide)
      · have : x = y := UInt8.le_antisymm (UInt8.not_lt.1 hyx) (UInt8.not_lt.1 hxy)
        subst this
        rw [if_neg hyx] at h1
        by_cases hxz : x < z
        · rw [if_pos hxz]; decide
        · rw [if_neg hxz] at h2 ⊢
          by_cases hzx : z < x
          · rw [if_pos hzx] at h2; exact absurd h2 (by decide)
          · rw [if_neg hzx] at h2 ⊢
            exact cmp_lt_trans a b c h1 h2
theorem cmp_gt {a b : List UInt8} (h : cmp a b < 0) : ¬ cmp b a < 0 ∧ cmp b a ≠ 0 := by
  refine ⟨fun h2 => ?_, fun h2 => ?_⟩
  · have := cmp_lt_trans a b a h h2
    rw [cmp_self] at this
    exact absurd this (by decide)
  · have := cmp_zero b a h2
    subst this
    rw [cmp_self] at h
    exact absurd h (by decide)

theorem rise_lt {l : List (List UInt8)} (h : Rise l) (i : Nat) {a : List UInt8} (ha : l[i]? = some a) : ∀ (d : Nat) b, l[i + 1 + d]? = some b → cmp a b < 0
  | 0, b, hb => h i a b ha hb
  | d + 1, b, hb => by
    have hlt : i + 1 + d < l.length := by have := (List.getElem?_eq_some_iff.1 hb).1; omega
    have hc : l[i + 1 + d]? = some l[i + 1 + d] := List.getElem?_eq_getElem hlt
    exact cmp_lt_trans _ _ _ (rise_lt h i ha d _ hc) (h (i + 1 + d) _ _ hc (by rw [← hb]; congr 1))
theorem rise_lt' {l : List (List UInt8)} (h : Rise l) {i j : Nat} {a b : List UInt8} (hij : i < j) (ha : l[i]? = some a) (hb : l[j]? = some b) : cmp a b < 0 :=
  rise_lt h i ha (j - (i + 1)) b (by rw [show i + 1 + (j - (i + 1)) = j by omega]; exact hb)

theorem has_at {l : List (List UInt8)} {key : List UInt8} (h : has l key = true) : ∃ j : Nat, l[j]? = some key := by
  unfold has at h
  rw [List.any_eq_true] at h
  obtain ⟨x, hx, hc⟩ := h
  have h0 : cmp x key = 0 := by simpa using hc
  have := cmp_zero x key h0
  subst this
  exact List.getElem?_of_mem hx
theorem below_at {l : List (List UInt8)} {key : List UInt8} (h : Rise l) {j : Nat} (hj : l[j]? = some key) : below l key = j := by
  have hlt : j < l.length := (List.getElem?_eq_some_iff.1 hj).1
  unfold below
  rw [← List.take_append_drop j l, List.countP_append]
  have h1 : (l.take j).countP (fun x => decide (cmp x key < 0)) = j := by
    have e : (l.take j).length = j := by rw [List.length_take]; omega
    rw [List.countP_eq_length.2 (fun x hx => ?_), e]
    obtain ⟨i, hi⟩ := List.getElem?_of_mem hx
    rw [List.getElem?_take] at hi
    split at hi
    · rename_i hij
      exact decide_eq_true (rise_lt' h hij hi hj)
    · cases hi
  have h2 : (l.drop j).countP (fun x => decide (cmp x key < 0)) = 0 := by
    refine List.countP_eq_zero.2 (fun x hx => ?_)
    obtain ⟨i, hi⟩ := List.getElem?_of_mem hx
    rw [List.getElem?_drop] at hi
    by_cases h0 : i = 0
    · subst h0
      rw [Nat.add_zero, hj] at hi
      cases hi
      rw [cmp_self]; decide
    · have := (cmp_gt (rise_lt' h (show j < j + i by omega) hj hi)).1
      simpa using this
  rw [h1, h2, Nat.add_zero]
theorem at_below {l : List (List UInt8)} {key : List UInt8} (h : Rise l) (hh : has l key = true) : l[below l key]? = some key := by
  obtain ⟨j, hj⟩ := has_at hh
  rw [below_at h hj]; exact hj
theorem has_erase {l : List (List UInt8)} {key : List UInt8} (h : Rise l) (hh : has l key = true) : has (l.eraseIdx (below l key)) key = false := by
  have hb := at_below h hh
  generalize below l key = b at hb ⊢
  rcases hx : has (l.eraseIdx b) key with _ | _
  · rfl
  · obtain ⟨j, hj⟩ := has_at hx
    rw [List.getElem?_eraseIdx] at hj
    split at hj
    · rename_i hjb
      have := rise_lt' h hjb hj hb
      rw [cmp_self] at this
      exact absurd this (by decide)
    · have := rise_lt' h (show b < j + 1 by omega) hb hj
      rw [cmp_self] at this
      exact absurd this (by decide)
theorem has_ins (l : List (List UInt8)) (i : Nat) (key : List UInt8) : has (ins l i key) key = true := by
  unfold has ins
  rw [List.any_append, List.any_cons, cmp_self]
  simp
theorem below_ins (l : List (List UInt8)) (i : Nat) (key : List UInt8) : below (ins l i key) key = below l key := by
  have e : below l key = below (l.take i) key + below (l.drop i) key := by
    conv => lhs; rw [← List.take_append_drop i l]
    unfold below
    rw [List.countP_append]
  rw [e]
  unfold below ins
  rw [List.countP_append, List.countP_cons, cmp_self]
  simp
theorem erase_ins {α : Type} (l : List α) (i : Nat) (x : α) (hi : i ≤ l.length) : (ins l i x).eraseIdx i = l := by
  unfold ins
  have hl : (l.take i).length = i := by rw [List.length_take]; omega
  rw [List.eraseIdx_append_of_length_le (by omega), hl, Nat.sub_self, List.eraseIdx_cons_zero, List.take_append_drop]

theorem leaf_facts {n : Nd} (h : leaf n = true) : n.lvl = 0 ∧ Rise n.keys ∧ n.vals.length = n.keys.length ∧ n.kids.length = 0 := by
  unfold leaf right at h
  rw [Bool.and_eq_true] at h
  have hl : n.lvl = 0 := by simpa using h.2
  have := h.1
  rw [if_pos hl, Bool.and_eq_true, Bool.and_eq_true] at this
  exact ⟨hl, (rises_iff _).1 this.1, by simpa using this.2.1, by simpa using this.2.2⟩

/-- What is put in is found. -/
theorem back_in {n : Nd} {key val : List UInt8} (h : leaf n = true) : has (wth n key val).keys key = true ∧ below (wth n key val).keys key = below n.keys key ∧ (wth n key val).keys[below n.keys key]? = some key ∧ (wth n key val).vals[below n.keys key]? = some val := by
  obtain ⟨_, hr, hv, _⟩ := leaf_facts h
  have hb := below_le n.keys key
  unfold wth
  cases hh : has n.keys key with
  | false =>
    refine ⟨has_ins _ _ _, below_ins _ _ _, ?_, ?_⟩
    · show (ins n.keys (below n.keys key) key)[below n.keys key]? = _
      rw [ins_get _ _ _ hb, if_neg (by omega), if_pos rfl]
    · show (ins n.vals (min (below n.keys key) n.vals.length) val)[below n.keys key]? = _
      rw [show min (below n.keys key) n.vals.length = below n.keys key by omega, ins_get _ _ _ (by omega), if_neg (by omega), if_pos rfl]
  | true =>
    rw [if_pos rfl]
    have := has_below hh
    refine ⟨hh, rfl, at_below hr hh, ?_⟩
    show (n.vals.set (below n.keys key) val)[below n.keys key]? = _
    rw [List.getElem?_set, if_pos rfl, if_pos (by omega)]
/-- It is taken out again. -/
theorem back_out {n : Nd} {key val : List UInt8} (h : leaf n = true) : wout (wth n key val) key = wout n key ∧ has (wout n key).keys key = false := by
  obtain ⟨_, hr, hv, _⟩ := leaf_facts h
  have hb := below_le n.keys key
  obtain ⟨h1, h2, _, _⟩ := back_in (key := key) (val := val) h
  cases hh : has n.keys key with
  | false =>
    have e : wout n key = n := by unfold wout; rw [if_neg (by rw [hh]; simp)]
    refine ⟨?_, by rw [e, hh]⟩
    rw [e]
    unfold wout
    rw [h1, h2]
    have hw : wth n key val = { n with keys := ins n.keys (below n.keys key) key, vals := ins n.vals (below n.keys key) val } := by
      unfold wth
      rw [hh, if_neg (by simp), show min (below n.keys key) n.vals.length = below n.keys key by omega]
    rw [hw, if_pos ⟨rfl, by rw [ins_len _ _ _ hb]; omega, by rw [ins_len _ _ _ (by omega)]; omega⟩]
    show ({ n with keys := (ins n.keys (below n.keys key) key).eraseIdx (below n.keys key), vals := (ins n.vals (below n.keys key) val).eraseIdx (below n.keys key) } : Nd) = n
    rw [erase_ins _ _ _ hb, erase_ins _ _ _ (by omega)]
  | true =>
    have hbl := has_below hh
    have hw : wth n key val = { n with vals := n.vals.set (below n.keys key) val } := by unfold wth; rw [hh]; rfl
    have e : wout n key = { n with keys := n.keys.eraseIdx (below n.keys key), vals := n.vals.eraseIdx (below n.keys key) } := by
      unfold wout; rw [if_pos ⟨hh, hbl, by omega⟩]
    refine ⟨?_, by rw [e]; exact has_erase hr hh⟩
    rw [e]
    unfold wout
    rw [h1, h2, hw, if_pos ⟨rfl, hbl, by rw [List.length_set]; omega⟩]
    show ({ n with keys := _, vals := (n.vals.set (below n.keys key) val).eraseIdx (below n.keys key) } : Nd) = _
    rw [List.eraseIdx_set_eq]

end Go.Proofs.Ytdmmhblmgbhgfaa
