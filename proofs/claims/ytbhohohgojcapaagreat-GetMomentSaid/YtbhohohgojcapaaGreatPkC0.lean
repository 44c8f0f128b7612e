import Derived.Test.YtbhohohgojcapaaGreatPkB4
import Derived.Test.YtbhohohgojcapaaGreatPkB5
import Derived.Test.YtbhohohgojcapaaGreatPkB7
import Derived.Test.YtbhohohgojcapaaGreatPkB9
import Derived.Test.YtbhohohgojcapaaGreatPkB3
namespace Go.Proofs.YtbhohohgojcapaaGreat
open Go.RowKit
theorem rs_swap : ∀ (a b : List UInt8), cmp b a = -cmp a b
 | [], [] => rfl
 | [], _ :: _ => rfl
 | _ :: _, [] => rfl
 | x :: a, y :: b => by
  rw [cmp_cons, cmp_cons]
  by_cases h1 : x < y
  ·rw [if_pos h1, if_neg (λ h => absurd (UInt8.lt_trans h1 h) (UInt8.lt_irrefl x)), if_pos h1]; rfl
  ·by_cases h2 : y < x
   ·rw [if_pos h2, if_neg h1, if_pos h2]
   ·rw [if_neg h2, if_neg h1, if_neg h1, if_neg h2]
    exact rs_swap a b
theorem rs_tail {x : List UInt8} {l : List (List UInt8)} (h : Rise (x :: l)) : Rise l := λ j a b ha hb => h (j + 1) a b (by simpa using ha) (by simpa using hb)
theorem rs_below_iff {key : List UInt8} : ∀ {l : List (List UInt8)}, Rise l -> ∀ (j : Nat) (x : List UInt8), l[j]? = some x -> (cmp x key < 0 ↔ j < below l key)
 | [], _, j, x, hx => by simp at hx
 | y :: l, h, j, x, hx => by
  have hl : below (y :: l) key = below l key + if cmp y key < 0 then 1 else 0 := by unfold below; rw [List.countP_cons]; simp
  by_cases hy : cmp y key < 0
  ·rw [hl, if_pos hy]
   cases j with
   | zero => simp at hx; subst hx; exact ⟨λ _ => by omega, λ _ => hy⟩
   | succ j =>
    have := rs_below_iff (key := key) (rs_tail h) j x (by simpa using hx)
    rw [this]; omega
  ·have hz : below l key = 0 := by
    unfold below
    rw [List.countP_eq_zero]
    intro z hz
    obtain ⟨i, hi⟩ := List.mem_iff_getElem?.1 hz
    have h1 := rise_lt' h (i := 0) (j := i + 1) (by omega) (a := y) (b := z) rfl (by simpa using hi)
    simp only [decide_eq_true_eq]
    intro h2
    exact hy (cmp_lt_trans _ _ _ h1 h2)
   rw [hl, if_neg hy, hz]
   constructor
   ·intro h1
    exfalso
    cases j with
    | zero => simp at hx; subst hx; exact hy h1
    | succ j => exact hy (cmp_lt_trans _ _ _ (rise_lt' h (i := 0) (j := j + 1) (by omega) rfl hx) h1)
   ·intro h1; omega
theorem rs_ins {l : List (List UInt8)} {key : List UInt8} (h : Rise l) (hh : has l key = false) : Rise (ins l (below l key) key) := by
 intro j a b ha hb
 have hle := below_le l key
 rw [ins_get _ _ _ hle] at ha hb
 have hne : ∀ x ∈ l, cmp x key ≠ 0 := λ x hx h0 => by
  have : has l key = true := by unfold has; exact List.any_eq_true.2 ⟨x, hx, by simpa using h0⟩
  rw [hh] at this; cases this
 by_cases h1 : j + 1 < below l key
 ·rw [if_pos (by omega)] at ha
  rw [if_pos h1] at hb
  exact h j a b ha hb
 ·by_cases h2 : j + 1 = below l key
  ·rw [if_pos (by omega)] at ha
   rw [if_neg (by omega), if_pos h2] at hb
   cases hb
   exact (rs_below_iff h j a ha).2 (by omega)
  ·by_cases h3 : j = below l key
   ·rw [if_neg (by omega), if_pos h3] at ha
    rw [if_neg (by omega), if_neg (by omega)] at hb
    cases ha
    have hb' : l[j]? = some b := by rw [<- hb]; congr 1
    have h4 : ¬ cmp b key < 0 := λ hc => by have := (rs_below_iff h j b hb').1 hc; omega
    have h5 := hne b (List.mem_of_getElem? hb')
    rw [rs_swap b key]
    rcases cmp_cases b key with hc | hc | hc <;> omega
   ·rw [if_neg (by omega), if_neg h3] at ha
    rw [if_neg (by omega), if_neg (by omega)] at hb
    exact h (j - 1) a b ha (by rw [<- hb]; congr 1; omega)
theorem rs_take {l : List (List UInt8)} (h : Rise l) (k : Nat) : Rise (l.take k) := λ j a b ha hb => by
 rw [List.getElem?_take] at ha hb
 split at ha
 ·split at hb
  ·exact h j a b ha hb
  ·cases hb
 ·cases ha
theorem rs_drop {l : List (List UInt8)} (h : Rise l) (k : Nat) : Rise (l.drop k) := λ j a b ha hb => by
 rw [List.getElem?_drop] at ha hb
 exact h (k + j) a b ha (by rw [<- hb]; congr 1)
/-! ### a leaf with a key more, an inner node with a child more -/
theorem rs_erase {l : List (List UInt8)} (h : Rise l) (i : Nat) : Rise (l.eraseIdx i) := λ j a b ha hb => by
 rw [List.getElem?_eraseIdx] at ha hb
 split at ha
 ·split at hb
  ·exact h j a b ha hb
  ·exact rise_lt' h (i := j) (j := j + 1 + 1) (by omega) ha hb
 ·rw [if_neg (by omega)] at hb
  exact h (j + 1) a b ha hb
theorem right_iff {n : Nd} : right n = true ↔ Rise n.keys /\ (n.lvl = 0 -> n.vals.length = n.keys.length /\ n.kids.length = 0) /\ (n.lvl ≠ 0 -> 0 < n.lvl /\ n.vals.length = 0 /\ n.kids.length = n.keys.length + 1) := by
 unfold right
 rw [<- rises_iff]
 by_cases h : n.lvl = 0
 ·rw [if_pos h]
  simp only [Bool.and_eq_true, decide_eq_true_eq]
  exact ⟨λ ⟨a, b, c⟩ => ⟨a, λ _ => ⟨b, c⟩, λ hh => absurd h hh⟩, λ ⟨a, b, _⟩ => ⟨a, b h⟩⟩
 ·rw [if_neg h]
  simp only [Bool.and_eq_true, decide_eq_true_eq]
  exact ⟨λ ⟨a, b, c, d⟩ => ⟨a, λ hh => absurd hh h, λ _ => ⟨b, c, d⟩⟩, λ ⟨a, _, b⟩ => ⟨a, b h⟩⟩
theorem right_zero : right Nd.zero = true := by decide
section
variable {n : Nd} {key val : List UInt8} {r : Int}
theorem has_lt {l : List (List UInt8)} (h : Rise l) (hh : has l key = true) : below l key < l.length := by
 unfold has at hh
 obtain ⟨x, hx, hc⟩ := List.any_eq_true.1 hh
 obtain ⟨j, hj⟩ := List.mem_iff_getElem?.1 hx
 have hl := (List.getElem?_eq_some_iff.1 hj).1
 have h0 : cmp x key = 0 := by simpa using hc
 have h1 := (rs_below_iff (key := key) h j x hj)
 have : ¬ j < below l key := λ hlt => by have := h1.2 hlt; omega
 omega
theorem right_with (h : right n = true) (hl : n.lvl = 0) : right (wth n key val) = true /\ (wth n key val).lvl = 0 := by
 obtain ⟨h1, h2, _⟩ := right_iff.1 h
 obtain ⟨h3, h4⟩ := h2 hl
 unfold wth
 cases hh : has n.keys key with
 | true =>
  rw [if_pos rfl]
  exact ⟨right_iff.2 ⟨h1, λ _ => ⟨by simpa using h3, h4⟩, λ hne => absurd hl hne⟩, hl⟩
 | false =>
  rw [if_neg (by decide)]
  have hb := below_le n.keys key
  exact ⟨right_iff.2 ⟨rs_ins h1 hh, λ _ => ⟨by rw [ins_len _ _ _ (by omega), ins_len _ _ _ hb, h3], h4⟩, λ hne => absurd hl hne⟩, hl⟩
theorem right_wout (h : right n = true) (hl : n.lvl = 0) : right (woutD n key) = true /\ (woutD n key).lvl = 0 := by
 obtain ⟨h1, h2, _⟩ := right_iff.1 h
 obtain ⟨h3, h4⟩ := h2 hl
 unfold woutD
 cases hh : has n.keys key with
 | true =>
  rw [if_pos rfl]
  have hb := has_lt h1 hh
  exact ⟨right_iff.2 ⟨rs_erase h1 _, λ _ => ⟨by rw [List.length_eraseIdx, List.length_eraseIdx, if_pos hb, if_pos (by omega), h3], h4⟩, λ hne => absurd hl hne⟩, hl⟩
 | false =>
  rw [if_neg (by decide)]
  exact ⟨h, hl⟩
theorem right_spL (h : right n = true) : right (spL n r) = true := by
 obtain ⟨h1, h2, h3⟩ := right_iff.1 h
 unfold spL
 split
 ·exact h
 ·rename_i hb
  split
  ·rename_i hl
   obtain ⟨h4, h5⟩ := h2 hl
   exact right_iff.2 ⟨rs_take h1 _, λ _ => ⟨by simp only [List.length_take]; omega, h5⟩, λ hne => absurd hl hne⟩
  ·rename_i hl
   obtain ⟨h4, h5, h6⟩ := h3 hl
   have hm : 2 <= spM n := by unfold spBad at hb; omega
   have hk : spM n = n.kids.length := by unfold spM; rw [if_neg hl]
   refine right_iff.2 ⟨rs_take h1 _, λ he => absurd he hl, λ _ => ⟨h4, h5, ?_⟩⟩
   simp only [List.length_take]
   unfold spH
   omega
theorem right_spR (h : right n = true) : right (spR n) = true := by
 obtain ⟨h1, h2, h3⟩ := right_iff.1 h
 unfold spR
 split
 ·exact right_zero
 ·rename_i hb
  split
  ·rename_i hl
   obtain ⟨h4, h5⟩ := h2 hl
   exact right_iff.2 ⟨rs_drop h1 _, λ _ => ⟨by simp only [List.length_drop]; omega, h5⟩, λ hne => absurd hl hne⟩
  ·rename_i hl
   obtain ⟨h4, h5, h6⟩ := h3 hl
   have hm : 2 <= spM n := by unfold spBad at hb; omega
   have hk : spM n = n.kids.length := by unfold spM; rw [if_neg hl]
   refine right_iff.2 ⟨rs_drop h1 _, λ he => absurd he hl, λ _ => ⟨h4, h5, ?_⟩⟩
   simp only [List.length_drop]
   unfold spH
   omega
/-! ### sizes -/
theorem txSm_sub {c : Nat} {l l' : List (List UInt8)} (h : TxSm c l) (hl : l'.length <= l.length) (hs : ∀ x ∈ l', x ∈ l) : TxSm c l' :=
 ⟨by have h1 := h.1; unfold Sm at *; omega, λ x hx => h.2 x (hs x hx)⟩
theorem with_sm {c : Nat} (h : NdSm (c + 24) n) (hk : Sm c 1 key.length) (hv : Sm c 1 val.length) : NdSm c (wth n key val) := by
 have hins : ∀ {l : List (List UInt8)} {i : Nat} {x : List UInt8}, TxSm (c + 24) l -> Sm c 1 x.length -> TxSm c (ins l i x) := λ {l i x} hl hx => by
  refine ⟨?_, λ y hy => ?_⟩
  ·have h1 := hl.1
   have h2 : (ins l i x).length <= l.length + 1 := by unfold ins; simp; omega
   unfold Sm at *; omega
  ·unfold ins at hy
   rcases List.mem_append.1 hy with hy | hy
   ·exact (hl.2 y (List.mem_of_mem_take hy)).mono (by omega)
   ·rcases List.mem_cons.1 hy with rfl | hy
    ·exact hx
    ·exact (hl.2 y (List.mem_of_mem_drop hy)).mono (by omega)
 have h0 : NdSm c n := h.mono (by omega)
 unfold wth
 split
 ·refine ⟨h0.1, h0.2.1, ⟨?_, λ x hx => ?_⟩, h0.2.2.2⟩
  ·have h1 := h0.2.2.1.1; unfold Sm at *; simpa using h1
  ·rcases List.mem_or_eq_of_mem_set hx with hx | rfl
   ·exact h0.2.2.1.2 x hx
   ·exact hv
 ·exact ⟨h0.1, hins h.2.1 hk, hins h.2.2.1 hv, h0.2.2.2⟩
theorem wout_sm {c : Nat} (h : NdSm c n) : NdSm c (woutD n key) := by
 unfold woutD
 split
 ·exact ⟨h.1, txSm_sub h.2.1 (List.length_eraseIdx_le _ _) (λ x hx => List.mem_of_mem_eraseIdx hx), txSm_sub h.2.2.1 (List.length_eraseIdx_le _ _) (λ x hx => List.mem_of_mem_eraseIdx hx), h.2.2.2⟩
 ·exact h
theorem spK_sm {c : Nat} (h : NdSm c n) (hc : c <= 200000000000000) : Sm c 1 (spK n).length := by
 have hg : ∀ (l : List (List UInt8)) (i : Nat), TxSm c l -> Sm c 1 (l.getD i []).length := λ l i hl => by
  rw [List.getD_eq_getElem?_getD]
  cases hx : l[i]? with
  | none => unfold Sm; simp; exact hc
  | some x => exact hl.2 x (List.mem_of_getElem? hx)
 unfold spK
 split
 ·unfold Sm; simp; exact hc
 ·split <;> exact hg _ _ h.2.1
theorem spL_sm {c : Nat} (h : NdSm c n) (hc : c <= 200000000000000) : NdSm c (spL n r) := by
 have hk := spK_sm h hc
 have ht : ∀ {l : List (List UInt8)} (i : Nat), TxSm c l -> TxSm c (l.take i) := λ i hl => txSm_sub hl (List.length_take_le' _ _) (λ x hx => List.mem_of_mem_take hx)
 unfold spL
 split
 ·exact h
 ·split
  ·exact ⟨hk, ht _ h.2.1, ht _ h.2.2.1, h.2.2.2⟩
  ·exact ⟨hk, ht _ h.2.1, h.2.2.1, by have h1 := h.2.2.2; unfold Sm at *; simp only [List.length_take]; omega⟩
theorem spR_sm {c : Nat} (h : NdSm c n) (hc : c <= 200000000000000) : NdSm c (spR n) := by
 have ht : ∀ {l : List (List UInt8)} (i : Nat), TxSm c l -> TxSm c (l.drop i) := λ i hl => txSm_sub hl (by rw [List.length_drop]; omega) (λ x hx => List.mem_of_mem_drop hx)
 unfold spR
 split
 ·have hz : Sm c 1 0 /\ Sm c 24 0 /\ Sm c 8 0 := by unfold Sm; omega
  exact ⟨hz.1, ⟨hz.2.1, λ x hx => by simp [Nd.zero] at hx⟩, ⟨hz.2.1, λ x hx => by simp [Nd.zero] at hx⟩, hz.2.2⟩
 ·split
  ·exact ⟨h.1, ht _ h.2.1, ht _ h.2.2.1, h.2.2.2⟩
  ·exact ⟨h.1, ht _ h.2.1, h.2.2.1, by have h1 := h.2.2.2; unfold Sm at *; simp only [List.length_drop]; omega⟩
end
end Go.Proofs.YtbhohohgojcapaaGreat

namespace Go.Proofs.YtbhohohgojcapaaGreat
open Go.RowKit
theorem put_len' (A : Ar) (ix : Int) (s : Sl) : (A.put ix s).sl.length = A.sl.length := by simp [Ar.put]
theorem len_lock (A : Ar) (ix : Int) (wd : Nat) : (opLock A ix wd).2.2.sl.length = A.sl.length := by
 unfold opLock; split
 ·rfl
 ·split
  ·exact put_len' _ _ _
  ·rfl
theorem len_unlock (A : Ar) (ix : Int) (c : Bool) : (opUnlock A ix c).2.sl.length = A.sl.length := by
 unfold opUnlock; split
 ·rfl
 ·split
  ·rfl
  ·exact put_len' _ _ _
theorem len_setHead (A : Ar) (ix : Int) (n : Nd) : (opSetHead A ix n).2.sl.length = A.sl.length := by
 unfold opSetHead; split
 ·rfl
 ·split
  ·rfl
  ·exact put_len' _ _ _
theorem len_setBody (A : Ar) (ix : Int) (n : Nd) : (opSetBody A ix n).2.sl.length = A.sl.length := by
 unfold opSetBody; split
 ·rfl
 ·split
  ·rfl
  ·exact put_len' _ _ _
theorem len_grow (A : Ar) (o ix : Int) : (opGrow A o ix).2.2.sl.length = A.sl.length := by
 unfold opGrow; split
 ·rfl
 ·split <;> rfl
theorem len_alloc (A : Ar) : A.sl.length <= (opAlloc A).2.2.sl.length := by
 unfold opAlloc; split
 ·exact Nat.le_refl _
 ·simp
theorem len_lay3 (A : Ar) (ix : Int) (n : Nd) : (opLay3 A ix n).sl.length = A.sl.length := by
 unfold opLay3; rw [len_unlock, len_setBody, len_setHead]
theorem len_lay (A : Ar) (ix : Int) (n : Nd) : A.sl.length <= (opLay A ix n).sl.length := by
 unfold opLay
 split
 ·split
  ·rw [len_lay3]; exact len_alloc A
  ·exact len_alloc A
 ·rw [len_lay3, len_lock]; exact Nat.le_refl _
theorem len_step (A : Ar) (o : OpM) : A.sl.length <= (step A o).sl.length := by
 unfold step
 split
 ·exact len_alloc A
 split
 ·exact Nat.le_refl _
 split
 ·exact Nat.le_of_eq (len_lock _ _ _).symm
 split
 ·exact Nat.le_of_eq (len_unlock _ _ _).symm
 split
 ·exact Nat.le_of_eq (len_setHead _ _ _).symm
 split
 ·exact Nat.le_of_eq (len_setBody _ _ _).symm
 split
 ·exact Nat.le_of_eq (len_grow _ _ _).symm
 split
 ·exact len_lay _ _ _
 ·exact Nat.le_of_eq (len_lock _ _ _).symm
section
variable {A : Ar} {ix : Int} {s : Sl} {n : Nd}
end
section
variable {A B : Ar} {ix : Int} {s : Sl}
theorem lock_own (hs : A.get ix = some s) : ∃ (took : Bool) (x1 : Nat) (A1 : Ar), opLock A ix s.word = (took, 0, A1) /\ A1.get ix = some ⟨x1, s.nd⟩ /\ x1 % 2 = 1 /\ ((s.word % 2 = 0 /\ took = true /\ x1 = s.word + 1 /\ A1 = A.put ix ⟨x1, s.nd⟩) \/ (s.word % 2 = 1 /\ took = false /\ x1 = s.word /\ A1 = A)) := by
 rw [opLock_some hs]
 by_cases he : s.word % 2 = 0
 ·refine ⟨true, s.word + 1, A.put ix ⟨s.word + 1, s.nd⟩, if_pos ⟨rfl, he⟩, put_get hs _, by omega, .inl ⟨he, rfl, rfl, rfl⟩⟩
 ·refine ⟨false, s.word, A, if_neg (λ h => he h.2), hs, by omega, .inr ⟨by omega, rfl, rfl, rfl⟩⟩
theorem unlock_held (hs : A.get ix = some s) (ho : s.word % 2 = 1) (c : Bool) : opUnlock A ix c = (0, A.put ix ⟨back s.word c, s.nd⟩) := by
 unfold opUnlock; rw [hs]; simp [ho]
end
end Go.Proofs.YtbhohohgojcapaaGreat

namespace Go.Proofs.YtbhohohgojcapaaGreat
open Go.RowKit
section
variable {w : World} {G : Nat -> Prop} {b p q : Nat} {A B : Ar} {ix : Int} {s : Sl}
theorem J.slotY (h : J w G b p q A B) (hg : B.get ix = some s) : ∃ i g o c : Nat, ∃ c0 c1 c2 c3 c4 c5, ∃ D : Nat -> Prop, ix = (i : Int) + 1 /\ i < B.sl.length /\ w.cell? ⟨q, 1, none⟩ = some (.slice (some ⟨g, o, none⟩) B.sl.length c) /\
  w.cell? ⟨g, o + i * 7 + 1, none⟩ = some c0 /\ w.cell? ⟨g, o + i * 7 + 2, none⟩ = some c1 /\ w.cell? ⟨g, o + i * 7 + 3, none⟩ = some c2 /\ w.cell? ⟨g, o + i * 7 + 4, none⟩ = some c3 /\ w.cell? ⟨g, o + i * 7 + 5, none⟩ = some c4 /\ w.cell? ⟨g, o + i * 7 + 6, none⟩ = some c5 /\ IsNd w D c0 c1 c2 c3 c4 c5 s.nd := by
 obtain ⟨hb, ⟨M, D, M', D', ⟨sl, ids, hX⟩, ⟨L, xs, hY⟩, h1, h2, h3⟩, hl, hnew, hsA, hsB⟩ := h
 obtain ⟨i, g, o, c, c0, c1, c2, c3, c4, c5, hid, hs, e3, hi, _, rfl, hm, hgb, hc0, hc1, hc2, hc3, hc4, hc5, hnd⟩ := hY.nd_ hg
 exact ⟨i, g, o, c, c0, c1, c2, c3, c4, c5, D', hid, hi, hY.blk.cell 1, hc0, hc1, hc2, hc3, hc4, hc5, hnd⟩
theorem setHead_held {n : Nd} (hs : A.get ix = some s) (ho : s.word % 2 = 1) : opSetHead A ix n = (0, A.put ix ⟨s.word, withHd s.nd n⟩) := by
 unfold opSetHead; rw [hs]; simp [ho]
theorem setBody_held {n : Nd} (hs : A.get ix = some s) (ho : s.word % 2 = 1) : opSetBody A ix n = (0, A.put ix ⟨s.word, withHd n s.nd⟩) := by
 unfold opSetBody; rw [hs]; simp [ho]
theorem get_put_ne {j : Int} {t : Sl} (h1 : 1 <= ix) (hj : j ≠ ix) : (A.put ix t).get j = A.get j := by
 unfold Ar.get Ar.put
 by_cases h : 1 <= j
 ·rw [if_pos h, if_pos h]
  show (A.sl.set _ _)[_]? = _
  rw [List.getElem?_set_ne (by omega)]
 ·rw [if_neg h, if_neg h]
end
end Go.Proofs.YtbhohohgojcapaaGreat
