/- Rows of keys that rise, with a key more or less, parted; right nodes with a key more or less, parted. No condition. -/
import Derived.Test.YtbhohohgojcapaaGreatKeyO
import Derived.Test.YtbhohohgojcapaaGreatInsM
import Derived.Test.YtbhohohgojcapaaGreatDoc9
import Derived.Test.YtbhohohgojcapaaGreatSplitD
namespace Go.Proofs.YtbhohohgojcapaaGreat
open Go.RowKit

theorem rs_swap : ∀ (a b : List UInt8), cmp b a = -cmp a b
  | [], [] => rfl
  | [], _ :: _ => rfl
  | _ :: _, [] => rfl
  | x :: a, y :: b => by
    rw [cmp_cons, cmp_cons]
    by_cases h1 : x < y
    · rw [if_pos h1, if_neg (fun h => absurd (UInt8.lt_trans h1 h) (UInt8.lt_irrefl x)), if_pos h1]; rfl
    · by_cases h2 : y < x
      · rw [if_pos h2, if_neg h1, if_pos h2]
      · rw [if_neg h2, if_neg h1, if_neg h1, if_neg h2]
        exact rs_swap a b
theorem rs_tail {x : List UInt8} {l : List (List UInt8)} (h : Rise (x :: l)) : Rise l := fun j a b ha hb => h (j + 1) a b (by simpa using ha) (by simpa using hb)
theorem rs_below_iff {key : List UInt8} : ∀ {l : List (List UInt8)}, Rise l → ∀ (j : Nat) (x : List UInt8), l[j]? = some x → (cmp x key < 0 ↔ j < below l key)
  | [], _, j, x, hx => by simp at hx
  | y :: l, h, j, x, hx => by
    have hl : below (y :: l) key = below l key + if cmp y key < 0 then 1 else 0 := by unfold below; rw [List.countP_cons]; simp
    by_cases hy : cmp y key < 0
    · rw [hl, if_pos hy]
      cases j with
      | zero => simp at hx; subst hx; exact ⟨fun _ => by omega, fun _ => hy⟩
      | succ j =>
        have := rs_below_iff (key := key) (rs_tail h) j x (by simpa using hx)
        rw [this]; omega
    · have hz : below l key = 0 := by
        unfold below
        rw [List.countP_eq_zero]
        intro z hz
        obtain ⟨i, hi⟩ := List.mem_iff_getElem?.1 hz
        have h1 := rise_lt' h (i := 0) (j := i + 1) (by omega) (a := y) (b := z) rfl (by simpa using hi)
        simp only [decide_eq_true_eq]
        intro h2
        exact hy (cmp_lt_trans _ _ _ h1 h2)
      rw [hl, if_neg hy, hz]
      constructor
      · intro h1
        exfalso
        cases j with
        | zero => simp at hx; subst hx; exact hy h1
        | succ j => exact hy (cmp_lt_trans _ _ _ (rise_lt' h (i := 0) (j := j + 1) (by omega) rfl hx) h1)
      · intro h1; omega
theorem rs_ins {l : List (List UInt8)} {key : List UInt8} (h : Rise l) (hh : has l key = false) : Rise (ins l (below l key) key) := by
  intro j a b ha hb
  have hle := below_le l key
  rw [ins_get _ _ _ hle] at ha hb
  have hne : ∀ x ∈ l, cmp x key ≠ 0 := fun x hx h0 => by
    have : has l key = true := by unfold has; exact List.any_eq_true.2 ⟨x, hx, by simpa using h0⟩
    rw [hh] at this; cases this
  by_cases h1 : j + 1 < below l key
  · rw [if_pos (by omega)] at ha
    rw [if_pos h1] at hb
    exact h j a b ha hb
  · by_cases h2 : j + 1 = below l key
    · rw [if_pos (by omega)] at ha
      rw [if_neg (by omega), if_pos h2] at hb
      cases hb
      exact (rs_below_iff h j a ha).2 (by omega)
    · by_cases h3 : j = below l key
      · rw [if_neg (by omega), if_pos h3] at ha
        rw [if_neg (by omega), if_neg (by omega)] at hb
        cases ha
        have hb' : l[j]? = some b := by rw [← hb]; congr 1
        have h4 : ¬ cmp b key < 0 := fun hc => by have := (rs_below_iff h j b hb').1 hc; omega
        have h5 := hne b (List.mem_of_getElem? hb')
        rw [rs_swap b key]
        rcases cmp_cases b key with hc | hc | hc <;> omega
      · rw [if_neg (by omega), if_neg h3] at ha
        rw [if_neg (by omega), if_neg (by omega)] at hb
        exact h (j - 1) a b ha (by rw [← hb]; congr 1; omega)
theorem rs_take {l : List (List UInt8)} (h : Rise l) (k : Nat) : Rise (l.take k) := fun j a b ha hb => by
  rw [List.getElem?_take] at ha hb
  split at ha
  · split at hb
    · exact h j a b ha hb
    · cases hb
  · cases ha
theorem rs_drop {l : List (List UInt8)} (h : Rise l) (k : Nat) : Rise (l.drop k) := fun j a b ha hb => by
  rw [List.getElem?_drop] at ha hb
  exact h (k + j) a b ha (by rw [← hb]; congr 1)

/-! ### a leaf with a key more, an inner node with a child more -/
theorem rs_erase {l : List (List UInt8)} (h : Rise l) (i : Nat) : Rise (l.eraseIdx i) := fun j a b ha hb => by
  rw [List.getElem?_eraseIdx] at ha hb
  split at ha
  · split at hb
    · exact h j a b ha hb
    · exact rise_lt' h (i := j) (j := j + 1 + 1) (by omega) ha hb
  · rw [if_neg (by omega)] at hb
    exact h (j + 1) a b ha hb
theorem right_iff {n : Nd} : right n = true ↔ Rise n.keys ∧ (n.lvl = 0 → n.vals.length = n.keys.length ∧ n.kids.length = 0) ∧ (n.lvl ≠ 0 → 0 < n.lvl ∧ n.vals.length = 0 ∧ n.kids.length = n.keys.length + 1) := by
  unfold right
  rw [← rises_iff]
  by_cases h : n.lvl = 0
  · rw [if_pos h]
    simp only [Bool.and_eq_true, decide_eq_true_eq]
    exact ⟨fun ⟨a, b, c⟩ => ⟨a, fun _ => ⟨b, c⟩, fun hh => absurd h hh⟩, fun ⟨a, b, _⟩ => ⟨a, b h⟩⟩
  · rw [if_neg h]
    simp only [Bool.and_eq_true, decide_eq_true_eq]
    exact ⟨fun ⟨a, b, c, d⟩ => ⟨a, fun hh => absurd hh h, fun _ => ⟨b, c, d⟩⟩, fun ⟨a, _, b⟩ => ⟨a, b h⟩⟩
theorem right_zero : right Nd.zero = true := by decide
section
variable {n : Nd} {key val : List UInt8} {r : Int}
theorem has_lt {l : List (List UInt8)} (h : Rise l) (hh : has l key = true) : below l key < l.length := by
  unfold has at hh
  obtain ⟨x, hx, hc⟩ := List.any_eq_true.1 hh
  obtain ⟨j, hj⟩ := List.mem_iff_getElem?.1 hx
  have hl := (List.getElem?_eq_some_iff.1 hj).1
  have h0 : cmp x key = 0 := by simpa using hc
  have h1 := (rs_below_iff (key := key) h j x hj)
  have : ¬ j < below l key := fun hlt => by have := h1.2 hlt; omega
  omega
theorem right_with (h : right n = true) (hl : n.lvl = 0) : right (wth n key val) = true ∧ (wth n key val).lvl = 0 := by
  obtain ⟨h1, h2, _⟩ := right_iff.1 h
  obtain ⟨h3, h4⟩ := h2 hl
  unfold wth
  cases hh : has n.keys key with
  | true =>
    rw [if_pos rfl]
    exact ⟨right_iff.2 ⟨h1, fun _ => ⟨by simpa using h3, h4⟩, fun hne => absurd hl hne⟩, hl⟩
  | false =>
    rw [if_neg (by decide)]
    have hb := below_le n.keys key
    exact ⟨right_iff.2 ⟨rs_ins h1 hh, fun _ => ⟨by rw [ins_len _ _ _ (by omega), ins_len _ _ _ hb, h3], h4⟩, fun hne => absurd hl hne⟩, hl⟩
theorem right_wout (h : right n = true) (hl : n.lvl = 0) : right (woutD n key) = true ∧ (woutD n key).lvl = 0 := by
  obtain ⟨h1, h2, _⟩ := right_iff.1 h
  obtain ⟨h3, h4⟩ := h2 hl
  unfold woutD
  cases hh : has n.keys key with
  | true =>
    rw [if_pos rfl]
    have hb := has_lt h1 hh
    exact ⟨right_iff.2 ⟨rs_erase h1 _, fun _ => ⟨by rw [List.length_eraseIdx, List.length_eraseIdx, if_pos hb, if_pos (by omega), h3], h4⟩, fun hne => absurd hl hne⟩, hl⟩
  | false =>
    rw [if_neg (by decide)]
    exact ⟨h, hl⟩
theorem right_spL (h : right n = true) : right (spL n r) = true := by
  obtain ⟨h1, h2, h3⟩ := right_iff.1 h
  unfold spL
  split
  · exact h
  · rename_i hb
    split
    · rename_i hl
      obtain ⟨h4, h5⟩ := h2 hl
      exact right_iff.2 ⟨rs_take h1 _, fun _ => ⟨by simp only [List.length_take]; omega, h5⟩, fun hne => absurd hl hne⟩
    · rename_i hl
      obtain ⟨h4, h5, h6⟩ := h3 hl
      have hm : 2 ≤ spM n := by unfold spBad at hb; omega
      have hk : spM n = n.kids.length := by unfold spM; rw [if_neg hl]
      refine right_iff.2 ⟨rs_take h1 _, fun he => absurd he hl, fun _ => ⟨h4, h5, ?_⟩⟩
      simp only [List.length_take]
      unfold spH
      omega
theorem right_spR (h : right n = true) : right (spR n) = true := by
  obtain ⟨h1, h2, h3⟩ := right_iff.1 h
  unfold spR
  split
  · exact right_zero
  · rename_i hb
    split
    · rename_i hl
      obtain ⟨h4, h5⟩ := h2 hl
      exact right_iff.2 ⟨rs_drop h1 _, fun _ => ⟨by simp only [List.length_drop]; omega, h5⟩, fun hne => absurd hl hne⟩
    · rename_i hl
      obtain ⟨h4, h5, h6⟩ := h3 hl
      have hm : 2 ≤ spM n := by unfold spBad at hb; omega
      have hk : spM n = n.kids.length := by unfold spM; rw [if_neg hl]
      refine right_iff.2 ⟨rs_drop h1 _, fun he => absurd he hl, fun _ => ⟨h4, h5, ?_⟩⟩
      simp only [List.length_drop]
      unfold spH
      omega

/-! ### sizes -/
theorem txSm_sub {c : Nat} {l l' : List (List UInt8)} (h : TxSm c l) (hl : l'.length ≤ l.length) (hs : ∀ x ∈ l', x ∈ l) : TxSm c l' :=
  ⟨by have h1 := h.1; unfold Sm at *; omega, fun x hx => h.2 x (hs x hx)⟩
theorem with_sm {c : Nat} (h : NdSm (c + 24) n) (hk : Sm c 1 key.length) (hv : Sm c 1 val.length) : NdSm c (wth n key val) := by
  have hins : ∀ {l : List (List UInt8)} {i : Nat} {x : List UInt8}, TxSm (c + 24) l → Sm c 1 x.length → TxSm c (ins l i x) := fun {l i x} hl hx => by
    refine ⟨?_, fun y hy => ?_⟩
    · have h1 := hl.1
      have h2 : (ins l i x).length ≤ l.length + 1 := by unfold ins; simp; omega
      unfold Sm at *; omega
    · unfold ins at hy
      rcases List.mem_append.1 hy with hy | hy
      · exact (hl.2 y (List.mem_of_mem_take hy)).mono (by omega)
      · rcases List.mem_cons.1 hy with rfl | hy
        · exact hx
        · exact (hl.2 y (List.mem_of_mem_drop hy)).mono (by omega)
  have h0 : NdSm c n := h.mono (by omega)
  unfold wth
  split
  · refine ⟨h0.1, h0.2.1, ⟨?_, fun x hx => ?_⟩, h0.2.2.2⟩
    · have h1 := h0.2.2.1.1; unfold Sm at *; simpa using h1
    · rcases List.mem_or_eq_of_mem_set hx with hx | rfl
      · exact h0.2.2.1.2 x hx
      · exact hv
  · exact ⟨h0.1, hins h.2.1 hk, hins h.2.2.1 hv, h0.2.2.2⟩
theorem wout_sm {c : Nat} (h : NdSm c n) : NdSm c (woutD n key) := by
  unfold woutD
  split
  · exact ⟨h.1, txSm_sub h.2.1 (List.length_eraseIdx_le _ _) (fun x hx => List.mem_of_mem_eraseIdx hx), txSm_sub h.2.2.1 (List.length_eraseIdx_le _ _) (fun x hx => List.mem_of_mem_eraseIdx hx), h.2.2.2⟩
  · exact h
theorem spK_sm {c : Nat} (h : NdSm c n) (hc : c ≤ 200000000000000) : Sm c 1 (spK n).length := by
  have hg : ∀ (l : List (List UInt8)) (i : Nat), TxSm c l → Sm c 1 (l.getD i []).length := fun l i hl => by
    rw [List.getD_eq_getElem?_getD]
    cases hx : l[i]? with
    | none => unfold Sm; simp; exact hc
    | some x => exact hl.2 x (List.mem_of_getElem? hx)
  unfold spK
  split
  · unfold Sm; simp; exact hc
  · split <;> exact hg _ _ h.2.1
theorem spL_sm {c : Nat} (h : NdSm c n) (hc : c ≤ 200000000000000) : NdSm c (spL n r) := by
  have hk := spK_sm h hc
  have ht : ∀ {l : List (List UInt8)} (i : Nat), TxSm c l → TxSm c (l.take i) := fun i hl => txSm_sub hl (List.length_take_le' _ _) (fun x hx => List.mem_of_mem_take hx)
  unfold spL
  split
  · exact h
  · split
    · exact ⟨hk, ht _ h.2.1, ht _ h.2.2.1, h.2.2.2⟩
    · exact ⟨hk, ht _ h.2.1, h.2.2.1, by have h1 := h.2.2.2; unfold Sm at *; simp only [List.length_take]; omega⟩
theorem spR_sm {c : Nat} (h : NdSm c n) (hc : c ≤ 200000000000000) : NdSm c (spR n) := by
  have ht : ∀ {l : List (List UInt8)} (i : Nat), TxSm c l → TxSm c (l.drop i) := fun i hl => txSm_sub hl (by rw [List.length_drop]; omega) (fun x hx => List.mem_of_mem_drop hx)
  unfold spR
  split
  · have hz : Sm c 1 0 ∧ Sm c 24 0 ∧ Sm c 8 0 := by unfold Sm; omega
    exact ⟨hz.1, ⟨hz.2.1, fun x hx => by simp [Nd.zero] at hx⟩, ⟨hz.2.1, fun x hx => by simp [Nd.zero] at hx⟩, hz.2.2⟩
  · split
    · exact ⟨h.1, ht _ h.2.1, ht _ h.2.2.1, h.2.2.2⟩
    · exact ⟨h.1, ht _ h.2.1, h.2.2.1, by have h1 := h.2.2.2; unfold Sm at *; simp only [List.length_drop]; omega⟩
end
end Go.Proofs.YtbhohohgojcapaaGreat
