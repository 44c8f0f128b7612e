/- What calls do to the number of slots, to the words, to a latch. -/
import Derived.Test.YtbhohohgojcapaaRaws
namespace Go.Proofs.Ytbhohohgojcapaa
open Go.RowKit

theorem put_len' (A : Ar) (ix : Int) (s : Sl) : (A.put ix s).sl.length = A.sl.length := by simp [Ar.put]
theorem len_lock (A : Ar) (ix : Int) (wd : Nat) : (opLock A ix wd).2.2.sl.length = A.sl.length := by
  unfold opLock; split
  · rfl
  · split
    · exact put_len' _ _ _
    · rfl
theorem len_unlock (A : Ar) (ix : Int) (c : Bool) : (opUnlock A ix c).2.sl.length = A.sl.length := by
  unfold opUnlock; split
  · rfl
  · split
    · rfl
    · exact put_len' _ _ _
theorem len_setHead (A : Ar) (ix : Int) (n : Nd) : (opSetHead A ix n).2.sl.length = A.sl.length := by
  unfold opSetHead; split
  · rfl
  · split
    · rfl
    · exact put_len' _ _ _
theorem len_setBody (A : Ar) (ix : Int) (n : Nd) : (opSetBody A ix n).2.sl.length = A.sl.length := by
  unfold opSetBody; split
  · rfl
  · split
    · rfl
    · exact put_len' _ _ _
theorem len_grow (A : Ar) (o ix : Int) : (opGrow A o ix).2.2.sl.length = A.sl.length := by
  unfold opGrow; split
  · rfl
  · split <;> rfl
theorem len_alloc (A : Ar) : A.sl.length ≤ (opAlloc A).2.2.sl.length := by
  unfold opAlloc; split
  · exact Nat.le_refl _
  · simp
theorem len_lay3 (A : Ar) (ix : Int) (n : Nd) : (opLay3 A ix n).sl.length = A.sl.length := by
  unfold opLay3; rw [len_unlock, len_setBody, len_setHead]
theorem len_lay (A : Ar) (ix : Int) (n : Nd) : A.sl.length ≤ (opLay A ix n).sl.length := by
  unfold opLay
  split
  · split
    · rw [len_lay3]; exact len_alloc A
    · exact len_alloc A
  · rw [len_lay3, len_lock]; exact Nat.le_refl _
/-- No call makes an arena shorter. -/
theorem len_step (A : Ar) (o : OpM) : A.sl.length ≤ (step A o).sl.length := by
  unfold step
  split
  · exact len_alloc A
  split
  · exact Nat.le_refl _
  split
  · exact Nat.le_of_eq (len_lock _ _ _).symm
  split
  · exact Nat.le_of_eq (len_unlock _ _ _).symm
  split
  · exact Nat.le_of_eq (len_setHead _ _ _).symm
  split
  · exact Nat.le_of_eq (len_setBody _ _ _).symm
  split
  · exact Nat.le_of_eq (len_grow _ _ _).symm
  split
  · exact len_lay _ _ _
  · exact Nat.le_of_eq (len_lock _ _ _).symm
theorem len_steps (A : Ar) (os : List OpM) : A.sl.length ≤ (steps A os).sl.length := by
  induction os generalizing A with
  | nil => exact Nat.le_refl _
  | cons o l ih => exact Nat.le_trans (len_step A o) (ih _)

/-- All words are numbers of 64 bits. -/
def W64 (A : Ar) : Prop := ∀ s ∈ A.sl, U64 s.word
section
variable {A : Ar} {ix : Int} {s : Sl} {n : Nd}
theorem w64_put (h : W64 A) (hs : U64 s.word) : W64 (A.put ix s) := fun t ht => by
  rcases List.mem_or_eq_of_mem_set ht with h1 | h1
  · exact h t h1
  · subst h1; exact hs
theorem w64_get (h : W64 A) (hg : A.get ix = some s) : U64 s.word := by
  obtain ⟨i, _, h2, _⟩ := get_some hg
  exact h s (List.mem_of_getElem? h2)
theorem w64_lock {wd : Nat} (h : W64 A) : W64 (opLock A ix wd).2.2 := by
  unfold opLock; split
  · exact h
  · rename_i s hg
    have := w64_get h hg
    split
    · refine w64_put h ?_; unfold U64 at *; simp; omega
    · exact h
theorem w64_unlock {c : Bool} (h : W64 A) : W64 (opUnlock A ix c).2 := by
  unfold opUnlock; split
  · exact h
  · rename_i s hg
    have := w64_get h hg
    split
    · exact h
    · exact w64_put h (back_u64 _ _ this)
theorem w64_setHead (h : W64 A) : W64 (opSetHead A ix n).2 := by
  unfold opSetHead; split
  · exact h
  · rename_i s hg
    have := w64_get h hg
    split
    · exact h
    · exact w64_put h this
theorem w64_setBody (h : W64 A) : W64 (opSetBody A ix n).2 := by
  unfold opSetBody; split
  · exact h
  · rename_i s hg
    have := w64_get h hg
    split
    · exact h
    · exact w64_put h this
theorem w64_grow {o : Int} (h : W64 A) : W64 (opGrow A o ix).2.2 := by
  unfold opGrow; split
  · exact h
  · split <;> exact h
theorem w64_alloc (h : W64 A) : W64 (opAlloc A).2.2 := by
  unfold opAlloc; split
  · exact h
  · intro s hs
    rcases List.mem_append.1 hs with hs | hs
    · exact h s hs
    · simp at hs; subst hs; unfold U64; decide
theorem w64_lay3 (h : W64 A) : W64 (opLay3 A ix n) := w64_unlock (w64_setBody (w64_setHead h))
theorem w64_lay (h : W64 A) : W64 (opLay A ix n) := by
  unfold opLay
  split
  · split
    · exact w64_lay3 (w64_alloc h)
    · exact w64_alloc h
  · exact w64_lay3 (w64_lock h)
theorem w64_step (h : W64 A) (o : OpM) : W64 (step A o) := by
  unfold step
  split
  · exact w64_alloc h
  split
  · exact h
  split
  · exact w64_lock h
  split
  · exact w64_unlock h
  split
  · exact w64_setHead h
  split
  · exact w64_setBody h
  split
  · exact w64_grow h
  split
  · exact w64_lay h
  · exact w64_lock h
theorem u64_steps (A : Ar) (os : List OpM) (h : W64 A) : W64 (steps A os) := by
  induction os generalizing A with
  | nil => exact h
  | cons o l ih => exact ih _ (w64_step h o)
end

section
variable {A B : Ar} {ix : Int} {s : Sl}
/-- Whatever Lock finds even it takes; behind it the word is odd. -/
theorem lock_own (hs : A.get ix = some s) : ∃ (took : Bool) (x1 : Nat) (A1 : Ar), opLock A ix s.word = (took, 0, A1) ∧ A1.get ix = some ⟨x1, s.nd⟩ ∧ x1 % 2 = 1 ∧ ((s.word % 2 = 0 ∧ took = true ∧ x1 = s.word + 1 ∧ A1 = A.put ix ⟨x1, s.nd⟩) ∨ (s.word % 2 = 1 ∧ took = false ∧ x1 = s.word ∧ A1 = A)) := by
  rw [opLock_some hs]
  by_cases he : s.word % 2 = 0
  · refine ⟨true, s.word + 1, A.put ix ⟨s.word + 1, s.nd⟩, if_pos ⟨rfl, he⟩, put_get hs _, by omega, .inl ⟨he, rfl, rfl, rfl⟩⟩
  · refine ⟨false, s.word, A, if_neg (fun h => he h.2), hs, by omega, .inr ⟨by omega, rfl, rfl, rfl⟩⟩
theorem lock_held (hs : A.get ix = some s) (ho : s.word % 2 = 1) (wd : Nat) : opLock A ix wd = (false, 0, A) := by
  rw [opLock_some hs, if_neg (fun h => by omega)]
theorem unlock_held (hs : A.get ix = some s) (ho : s.word % 2 = 1) (c : Bool) : opUnlock A ix c = (0, A.put ix ⟨back s.word c, s.nd⟩) := by
  unfold opUnlock; rw [hs]; simp [ho]
end
end Go.Proofs.Ytbhohohgojcapaa
