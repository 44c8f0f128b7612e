/- NodeStays' plain law: what may be stays what may be. -/
import Derived.Test.YtdmmhblmgbhgfaaMay
import Derived.Test.YtdmmhblmgbhgfaaOrder
import Derived.Test.YtdmmhblmgbhgfaaJoin
import Derived.Test.YtdmmhblmgbhgfaaSplitsOk
namespace Go.Proofs.Ytdmmhblmgbhgfaa
open Go.RowKit

structure May (n : Nd) (a0 a1 a2 : Int) : Prop where
  lvl : 0 ≤ n.lvl ∧ n.lvl ≤ 32
  right : 0 ≤ n.right ∧ n.right ≤ a0
  high : n.high.length = 0 ↔ n.right = 0
  high64 : n.high.length ≤ 64
  rise : Rise n.keys
  key : ∀ k ∈ n.keys, (1 ≤ k.length ∧ k.length ≤ 64) ∧ beyond n.high k = false
  leaf : n.lvl = 0 → n.vals.length = n.keys.length ∧ (n.keys.length : Int) ≤ a1 ∧ n.kids = [] ∧ ∀ v ∈ n.vals, v.length ≤ 256
  inner : n.lvl ≠ 0 → n.kids.Nodup ∧ (∀ k ∈ n.kids, 1 ≤ k ∧ k ≤ a0) ∧ n.vals = [] ∧ n.kids.length = n.keys.length + 1 ∧ (n.kids.length : Int) ≤ a2

theorem keyBad_iff (high x : List UInt8) : keyBad high x = false ↔ (1 ≤ x.length ∧ x.length ≤ 64) ∧ beyond high x = false := by
  unfold keyBad
  rw [Bool.or_eq_false_iff]
  simp only [Bool.not_eq_false', decide_eq_true_eq]
  constructor
  · rintro ⟨h1, h2⟩; exact ⟨by omega, h2⟩
  · rintro ⟨h1, h2⟩; exact ⟨by omega, h2⟩

theorem may_iff {n : Nd} {a0 a1 a2 a3 a4 : Int} (hc : confOk a0 a1 a2 a3 a4 = true) : mayE n a0 a1 a2 a3 a4 = 0 ↔ May n a0 a1 a2 := by
  unfold mayE
  rw [if_pos hc]
  have hh : headOk n a0 = true ↔ (0 ≤ n.lvl ∧ n.lvl ≤ 32) ∧ (0 ≤ n.right ∧ n.right ≤ a0) ∧ (n.high.length = 0 ↔ n.right = 0) ∧ n.high.length ≤ 64 := by
    unfold headOk
    simp only [Bool.and_eq_true, decide_eq_true_eq, beq_iff_eq]
    have e : (((n.high.length : Int) == 0) = (n.right == 0)) ↔ (n.high.length = 0 ↔ n.right = 0) := by
      rw [Bool.eq_iff_iff]; simp
    rw [e]
    constructor
    · rintro ⟨h1, h2, h3, h4⟩; exact ⟨h1, h2, h3, by omega⟩
    · rintro ⟨h1, h2, h3, h4⟩; exact ⟨h1, h2, h3, by omega⟩
  have hk : keysOk n = true ↔ Rise n.keys ∧ ∀ k ∈ n.keys, (1 ≤ k.length ∧ k.length ≤ 64) ∧ beyond n.high k = false := by
    unfold keysOk
    rw [Bool.and_eq_true, rises_iff, Bool.not_eq_true', List.any_eq_false]
    constructor
    · rintro ⟨h1, h2⟩
      exact ⟨h1, fun k hk => (keyBad_iff _ _).1 (by simpa using h2 k hk)⟩
    · rintro ⟨h1, h2⟩
      exact ⟨h1, fun k hk => by rw [(keyBad_iff _ _).2 (h2 k hk)]; simp⟩
  have hf : formOk n a0 a1 a2 = true ↔ (n.lvl = 0 → n.vals.length = n.keys.length ∧ (n.keys.length : Int) ≤ a1 ∧ n.kids = [] ∧ ∀ v ∈ n.vals, v.length ≤ 256) ∧ (n.lvl ≠ 0 → n.kids.Nodup ∧ (∀ k ∈ n.kids, 1 ≤ k ∧ k ≤ a0) ∧ n.vals = [] ∧ n.kids.length = n.keys.length + 1 ∧ (n.kids.length : Int) ≤ a2) := by
    unfold formOk
    by_cases hl : n.lvl = 0
    · rw [if_pos hl]
      unfold leafOk
      simp only [Bool.and_eq_true, decide_eq_true_eq, Bool.not_eq_true', List.any_eq_false, List.length_eq_zero_iff]
      constructor
      · rintro ⟨h1, h2, h3, h4⟩
        refine ⟨fun _ => ⟨h1, h2, h3, fun v hv => ?_⟩, fun h => absurd hl h⟩
        have := h4 v hv
        unfold valBad at this
        simp at this
        omega
      · rintro ⟨h1, _⟩
        obtain ⟨h1, h2, h3, h4⟩ := h1 hl
        refine ⟨h1, h2, h3, fun v hv => ?_⟩
        have := h4 v hv
        unfold valBad
        simp
        omega
    · rw [if_neg hl]
      unfold innerOk kidsFine
      simp only [Bool.and_eq_true, decide_eq_true_eq, List.all_eq_true, List.length_eq_zero_iff]
      constructor
      · rintro ⟨⟨h1, h2⟩, h3, h4, h5⟩
        exact ⟨fun h => absurd h hl, fun _ => ⟨h1, h2, h3, h4, h5⟩⟩
      · rintro ⟨_, h1⟩
        obtain ⟨h1, h2, h3, h4, h5⟩ := h1 hl
        exact ⟨⟨h1, h2⟩, h3, h4, h5⟩
  constructor
  · intro h
    by_cases hb : (headOk n a0 && (keysOk n && formOk n a0 a1 a2)) = true
    · simp only [Bool.and_eq_true] at hb
      obtain ⟨b1, b2, b3⟩ := hb
      obtain ⟨g1, g2, g3, g4⟩ := hh.1 b1
      obtain ⟨g5, g6⟩ := hk.1 b2
      obtain ⟨g7, g8⟩ := hf.1 b3
      exact ⟨g1, g2, g3, g4, g5, g6, g7, g8⟩
    · rw [if_neg hb] at h
      exact absurd h (by decide)
  · intro h
    rw [hh.2 ⟨h.lvl, h.right, h.high, h.high64⟩, hk.2 ⟨h.rise, h.key⟩, hf.2 ⟨h.leaf, h.inner⟩]
    rfl

theorem mem_insM {α : Type} {l : List α} {i : Nat} {x y : α} (h : y ∈ ins l i x) : y = x ∨ y ∈ l := by
  unfold ins at h
  rcases List.mem_append.1 h with h | h
  · exact .inr (List.mem_of_mem_take h)
  · rcases List.mem_cons.1 h with h | h
    · exact .inl h
    · exact .inr (List.mem_of_mem_drop h)

/-! ### order -/
theorem cmp_swap : ∀ (a b : List UInt8), cmp b a = -cmp a b
  | [], [] => rfl
  | [], _ :: _ => rfl
  | _ :: _, [] => rfl
  | x :: a, y :: b => by
    rw [cmp_cons, cmp_cons]
    by_cases h1 : x < y
    · rw [if_pos h1, if_neg (fun h => absurd (UInt8.lt_trans h1 h) (UInt8.lt_irrefl x)), if_pos h1]; rfl
    · by_cases h2 : y < x
      · rw [if_pos h2, if_neg h1, if_pos h2]
      · rw [if_neg h2, if_neg h1, if_neg h1, if_neg h2]
        exact cmp_swap a b
theorem rise_tail {x : List UInt8} {l : List (List UInt8)} (h : Rise (x :: l)) : Rise l := fun j a b ha hb => h (j + 1) a b (by simpa using ha) (by simpa using hb)
theorem below_iff {key : List UInt8} : ∀ {l : List (List UInt8)}, Rise l → ∀ (j : Nat) (x : List UInt8), l[j]? = some x → (cmp x key < 0 ↔ j < below l key)
  | [], _, j, x, hx => by simp at hx
  | y :: l, h, j, x, hx => by
    have hl : below (y :: l) key = below l key + if cmp y key < 0 then 1 else 0 := by unfold below; rw [List.countP_cons]; simp
    by_cases hy : cmp y key < 0
    · rw [hl, if_pos hy]
      cases j with
      | zero => simp at hx; subst hx; exact ⟨fun _ => by omega, fun _ => hy⟩
      | succ j =>
        have := below_iff (key := key) (rise_tail h) j x (by simpa using hx)
        rw [this]; omega
    · have hz : below l key = 0 := by
        unfold below
        rw [List.countP_eq_zero]
        intro z hz
        obtain ⟨i, hi⟩ := List.mem_iff_getElem?.1 hz
        have h1 := rise_lt' h (i := 0) (j := i + 1) (by omega) (a := y) (b := z) rfl (by simpa using hi)
        simp only [decide_eq_true_eq]
        intro h2
        exact hy (cmp_lt_trans _ _ _ h1 h2)
      rw [hl, if_neg hy, hz]
      constructor
      · intro h1
        exfalso
        cases j with
        | zero => simp at hx; subst hx; exact hy h1
        | succ j => exact hy (cmp_lt_trans _ _ _ (rise_lt' h (i := 0) (j := j + 1) (by omega) rfl hx) h1)
      · intro h1; omega
theorem rise_ins {l : List (List UInt8)} {key : List UInt8} (h : Rise l) (hh : has l key = false) : Rise (ins l (below l key) key) := by
  intro j a b ha hb
  have hle := below_le l key
  rw [ins_get _ _ _ hle] at ha hb
  have hne : ∀ x ∈ l, cmp x key ≠ 0 := fun x hx h0 => by
    have : has l key = true := by unfold has; exact List.any_eq_true.2 ⟨x, hx, by simpa using h0⟩
    rw [hh] at this; cases this
  by_cases h1 : j + 1 < below l key
  · rw [if_pos (by omega)] at ha
    rw [if_pos h1] at hb
    exact h j a b ha hb
  · by_cases h2 : j + 1 = below l key
    · rw [if_pos (by omega)] at ha
      rw [if_neg (by omega), if_pos h2] at hb
      cases hb
      exact (below_iff h j a ha).2 (by omega)
    · by_cases h3 : j = below l key
      · rw [if_neg (by omega), if_pos h3] at ha
        rw [if_neg (by omega), if_neg (by omega)] at hb
        cases ha
        have hb' : l[j]? = some b := by rw [← hb]; congr 1
        have h4 : ¬ cmp b key < 0 := fun hc => by have := (below_iff h j b hb').1 hc; omega
        have h5 := hne b (List.mem_of_getElem? hb')
        rw [cmp_swap b key]
        rcases cmp_cases b key with hc | hc | hc <;> omega
      · rw [if_neg (by omega), if_neg h3] at ha
        rw [if_neg (by omega), if_neg (by omega)] at hb
        exact h (j - 1) a b ha (by rw [← hb]; congr 1; omega)
theorem rise_take {l : List (List UInt8)} (h : Rise l) (k : Nat) : Rise (l.take k) := fun j a b ha hb => by
  rw [List.getElem?_take] at ha hb
  split at ha
  · split at hb
    · exact h j a b ha hb
    · cases hb
  · cases ha
theorem rise_drop {l : List (List UInt8)} (h : Rise l) (k : Nat) : Rise (l.drop k) := fun j a b ha hb => by
  rw [List.getElem?_drop] at ha hb
  exact h (k + j) a b ha (by rw [← hb]; congr 1)

/-! ### a leaf with a key more, an inner node with a child more -/
section
variable {n : Nd} {a0 a1 a2 : Int} {key val : List UInt8} {kid : Int}
theorem May.with_ (h : May n a0 a1 a2) (hl : n.lvl = 0) (hk : 1 ≤ key.length ∧ key.length ≤ 64) (hb : beyond n.high key = false) (hv : val.length ≤ 256) : May (wth n key val) a0 (a1 + 1) a2 ∧ (wth n key val).lvl = 0 := by
  obtain ⟨g1, g2, g3, g4⟩ := h.leaf hl
  unfold wth
  cases hh : has n.keys key with
  | true =>
    refine ⟨⟨h.lvl, h.right, h.high, h.high64, h.rise, h.key, fun _ => ⟨by simpa using g1, by show (n.keys.length : Int) ≤ _; omega, g3, fun v hv' => ?_⟩, fun hne => absurd hl hne⟩, hl⟩
    rcases List.mem_or_eq_of_mem_set hv' with h1 | h1
    · exact g4 v h1
    · subst h1; exact hv
  | false =>
    have hle := below_le n.keys key
    have hmin : min (below n.keys key) n.vals.length = below n.keys key := by rw [g1]; omega
    rw [if_neg (by simp), hmin]
    refine ⟨⟨h.lvl, h.right, h.high, h.high64, rise_ins h.rise hh, fun k hk' => ?_, fun _ => ⟨?_, ?_, g3, fun v hv' => ?_⟩, fun hne => absurd hl hne⟩, hl⟩
    · rcases mem_insM hk' with h1 | h1
      · subst h1; exact ⟨hk, hb⟩
      · exact h.key k h1
    · show (ins n.vals _ _).length = (ins n.keys _ _).length
      rw [ins_len _ _ _ hle, ins_len _ _ _ (by omega), g1]
    · show ((ins n.keys _ _).length : Int) ≤ _
      rw [ins_len _ _ _ hle]; omega
    · rcases mem_insM hv' with h1 | h1
      · subst h1; exact hv
      · exact g4 v h1
theorem nodup_ins {l : List Int} {i : Nat} {x : Int} (h : l.Nodup) (hx : x ∉ l) : (ins l i x).Nodup := by
  unfold ins
  rw [List.nodup_append]
  have h1 : (l.take i ++ l.drop i).Nodup := by rw [List.take_append_drop]; exact h
  rw [List.nodup_append] at h1
  refine ⟨h1.1, List.nodup_cons.2 ⟨fun hm => hx (List.mem_of_mem_drop hm), h1.2.1⟩, fun a ha b hb => ?_⟩
  rcases List.mem_cons.1 hb with hb | hb
  · subst hb; intro e; subst e; exact hx (List.mem_of_mem_take ha)
  · exact h1.2.2 a ha b hb
theorem May.join_ (h : May n a0 a1 a2) (hl : n.lvl ≠ 0) (hk : 1 ≤ key.length ∧ key.length ≤ 64) (hb : beyond n.high key = false) (hkid : kid ∉ n.kids) (hr : 1 ≤ kid ∧ kid ≤ a0) : May (jnd n key kid) a0 a1 (a2 + 1) ∧ (jnd n key kid).lvl ≠ 0 := by
  obtain ⟨g1, g2, g3, g4, g5⟩ := h.inner hl
  unfold jnd
  cases hh : has n.keys key with
  | true =>
    exact ⟨⟨h.lvl, h.right, h.high, h.high64, h.rise, h.key, fun he => absurd he hl, fun _ => ⟨g1, g2, g3, g4, by show (n.kids.length : Int) ≤ _; omega⟩⟩, hl⟩
  | false =>
    have hle := below_le n.keys key
    rw [if_neg (by simp)]
    have hm : min (below n.keys key + 1) n.kids.length ≤ n.kids.length := Nat.min_le_right _ _
    refine ⟨⟨h.lvl, h.right, h.high, h.high64, rise_ins h.rise hh, fun k hk' => ?_, fun he => absurd he hl, fun _ => ⟨nodup_ins g1 hkid, fun k hk' => ?_, g3, ?_, ?_⟩⟩, hl⟩
    · rcases mem_insM hk' with h1 | h1
      · subst h1; exact ⟨hk, hb⟩
      · exact h.key k h1
    · rcases mem_insM hk' with h1 | h1
      · subst h1; exact hr
      · exact g2 k h1
    · show (ins n.kids _ _).length = (ins n.keys _ _).length + 1
      rw [ins_len _ _ _ hm, ins_len _ _ _ hle]; omega
    · show ((ins n.kids _ _).length : Int) ≤ _
      rw [ins_len _ _ _ hm]; omega

/-! ### in two -/
theorem May.notOver (h : May n a0 (a1 + 1) (a2 + 1)) (ho : over n a1 a2 = false) : May n a0 a1 a2 := by
  unfold over at ho
  refine ⟨h.lvl, h.right, h.high, h.high64, h.rise, h.key, fun hl => ?_, fun hl => ?_⟩
  · rw [if_pos hl, decide_eq_false_iff_not] at ho
    obtain ⟨g1, g2, g3, g4⟩ := h.leaf hl
    exact ⟨g1, by omega, g3, g4⟩
  · rw [if_neg hl, decide_eq_false_iff_not] at ho
    obtain ⟨g1, g2, g3, g4, g5⟩ := h.inner hl
    exact ⟨g1, g2, g3, g4, by omega⟩
theorem notBeyond {high k : List UInt8} (h : cmp k high < 0) : beyond high k = false := by
  unfold beyond
  rw [decide_eq_false (show ¬ 0 ≤ cmp k high by omega)]; simp
theorem May.split (h : May n a0 (a1 + 1) (a2 + 1)) (ho : over n a1 a2 = true) (h0 : 1 ≤ a0) (h1 : 2 ≤ a1) (h2 : 3 ≤ a2) : May (spL n a0) a0 a1 a2 ∧ May (spR n) a0 a1 a2 := by
  unfold over at ho
  by_cases hl : n.lvl = 0
  · rw [if_pos hl, decide_eq_true_eq] at ho
    obtain ⟨g1, g2, g3, g4⟩ := h.leaf hl
    have hM : spM n = n.keys.length := by unfold spM; rw [if_pos hl]
    have hbad : ¬ spBad n := by
      unfold spBad
      rw [hM]
      rintro (hb | ⟨_, hb⟩ | ⟨hb, _⟩)
      · omega
      · omega
      · exact hb hl
    have hH : spH n = (n.keys.length + 1) / 2 := by unfold spH; rw [hM]
    have hlt : spH n < n.keys.length := by omega
    obtain ⟨kk, hkk⟩ : ∃ x, n.keys[spH n]? = some x := ⟨_, List.getElem?_eq_getElem hlt⟩
    have hK : spK n = kk := by unfold spK; rw [if_neg hbad, if_pos hl, List.getD_eq_getElem?_getD, hkk]; rfl
    have hkey := h.key kk (List.mem_of_getElem? hkk)
    unfold spL spR
    rw [if_neg hbad, if_neg hbad, if_pos hl, if_pos hl, hK]
    constructor
    · refine ⟨h.lvl, ⟨by show 0 ≤ a0; omega, Int.le_refl _⟩, ?_, hkey.1.2, rise_take h.rise _, fun k hk => ⟨(h.key k (List.mem_of_mem_take hk)).1, ?_⟩, fun _ => ⟨?_, ?_, g3, fun v hv => g4 v (List.mem_of_mem_take hv)⟩, fun hne => absurd hl hne⟩
      · show kk.length = 0 ↔ a0 = 0
        have := hkey.1.1
        constructor <;> intro <;> omega
      · obtain ⟨i, hi⟩ := List.mem_iff_getElem?.1 hk
        have hi' : n.keys[i]? = some k ∧ i < spH n := by
          rw [List.getElem?_take] at hi
          split at hi
          · exact ⟨hi, by assumption⟩
          · cases hi
        exact notBeyond (rise_lt' h.rise hi'.2 hi'.1 hkk)
      · show (n.vals.take _).length = (n.keys.take _).length
        rw [List.length_take, List.length_take, g1]
      · show ((n.keys.take _).length : Int) ≤ _
        rw [List.length_take]; omega
    · refine ⟨h.lvl, h.right, h.high, h.high64, rise_drop h.rise _, fun k hk => h.key k (List.mem_of_mem_drop hk), fun _ => ⟨?_, ?_, g3, fun v hv => g4 v (List.mem_of_mem_drop hv)⟩, fun hne => absurd hl hne⟩
      · show (n.vals.drop _).length = (n.keys.drop _).length
        rw [List.length_drop, List.length_drop, g1]
      · show ((n.keys.drop _).length : Int) ≤ _
        rw [List.length_drop]; omega
  · rw [if_neg hl, decide_eq_true_eq] at ho
    obtain ⟨g1, g2, g3, g4, g5⟩ := h.inner hl
    have hM : spM n = n.kids.length := by unfold spM; rw [if_neg hl]
    have hbad : ¬ spBad n := by
      unfold spBad
      rw [hM]
      rintro (hb | ⟨hb, _⟩ | ⟨_, hb⟩)
      · omega
      · exact hl hb
      · omega
    have hH : spH n = (n.kids.length + 1) / 2 := by unfold spH; rw [hM]
    have hlt : spH n - 1 < n.keys.length := by omega
    have hpos : 1 ≤ spH n := by omega
    obtain ⟨kk, hkk⟩ : ∃ x, n.keys[spH n - 1]? = some x := ⟨_, List.getElem?_eq_getElem hlt⟩
    have hK : spK n = kk := by unfold spK; rw [if_neg hbad, if_neg hl, List.getD_eq_getElem?_getD, hkk]; rfl
    have hkey := h.key kk (List.mem_of_getElem? hkk)
    unfold spL spR
    rw [if_neg hbad, if_neg hbad, if_neg hl, if_neg hl, hK]
    constructor
    · refine ⟨h.lvl, ⟨by show 0 ≤ a0; omega, Int.le_refl _⟩, ?_, hkey.1.2, rise_take h.rise _, fun k hk => ⟨(h.key k (List.mem_of_mem_take hk)).1, ?_⟩, fun he => absurd he hl, fun _ => ⟨g1.sublist (List.take_sublist _ _), fun k hk => g2 k (List.mem_of_mem_take hk), g3, ?_, ?_⟩⟩
      · show kk.length = 0 ↔ a0 = 0
        have := hkey.1.1
        constructor <;> intro <;> omega
      · obtain ⟨i, hi⟩ := List.mem_iff_getElem?.1 hk
        have hi' : n.keys[i]? = some k ∧ i < spH n - 1 := by
          rw [List.getElem?_take] at hi
          split at hi
          · exact ⟨hi, by assumption⟩
          · cases hi
        exact notBeyond (rise_lt' h.rise hi'.2 hi'.1 hkk)
      · show (n.kids.take _).length = (n.keys.take _).length + 1
        rw [List.length_take, List.length_take]; omega
      · show ((n.kids.take _).length : Int) ≤ _
        rw [List.length_take]; omega
    · refine ⟨h.lvl, h.right, h.high, h.high64, rise_drop h.rise _, fun k hk => h.key k (List.mem_of_mem_drop hk), fun he => absurd he hl, fun _ => ⟨g1.sublist (List.drop_sublist _ _), fun k hk => g2 k (List.mem_of_mem_drop hk), g3, ?_, ?_⟩⟩
      · show (n.kids.drop _).length = (n.keys.drop _).length + 1
        rw [List.length_drop, List.length_drop]; omega
      · show ((n.kids.drop _).length : Int) ≤ _
        rw [List.length_drop]; omega
/-- What may be is small. -/
theorem May.sm (h : May n a0 a1 a2) (h1 : a1 ≤ 65) (h2 : a2 ≤ 65) : NdSm 64 n := by
  have hk : n.keys.length ≤ 65 ∧ n.vals.length ≤ 65 ∧ n.kids.length ≤ 66 ∧ ∀ v ∈ n.vals, v.length ≤ 256 := by
    by_cases hl : n.lvl = 0
    · obtain ⟨g1, g2, g3, g4⟩ := h.leaf hl
      exact ⟨by omega, by omega, by rw [g3]; simp, g4⟩
    · obtain ⟨g1, g2, g3, g4, g5⟩ := h.inner hl
      exact ⟨by omega, by rw [g3]; simp, by omega, fun v hv => by rw [g3] at hv; simp at hv⟩
  refine ⟨by have := h.high64; unfold Sm; omega, ⟨by unfold Sm; omega, fun x hx => ?_⟩, ⟨by unfold Sm; omega, fun x hx => ?_⟩, by unfold Sm; omega⟩
  · have := (h.key x hx).1; unfold Sm; omega
  · have := hk.2.2.2 x hx; unfold Sm; omega
end
end Go.Proofs.Ytdmmhblmgbhgfaa
