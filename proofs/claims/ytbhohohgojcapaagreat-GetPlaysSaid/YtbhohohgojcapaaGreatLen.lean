/- What calls do to the number of slots, to the words, to a latch. -/
import Derived.Test.YtbhohohgojcapaaGreatRaws
namespace Go.Proofs.YtbhohohgojcapaaGreat
open Go.RowKit

theorem put_len' (A : Ar) (ix : Int) (s : Sl) : (A.put ix s).sl.length = A.sl.length := by simp [Ar.put]
theorem len_lock (A : Ar) (ix : Int) (wd : Nat) : (opLock A ix wd).2.2.sl.length = A.sl.length := by
  unfold opLock; split
  · rfl
  · split
    · exact put_len' _ _ _
    · rfl
theorem len_unlock (A : Ar) (ix : Int) (c : Bool) : (opUnlock A ix c).2.sl.length = A.sl.length := by
  unfold opUnlock; split
  · rfl
  · split
    · rfl
    · exact put_len' _ _ _
theorem len_setHead (A : Ar) (ix : Int) (n : Nd) : (opSetHead A ix n).2.sl.length = A.sl.length := by
  unfold opSetHead; split
  · rfl
  · split
    · rfl
    · exact put_len' _ _ _
theorem len_setBody (A : Ar) (ix : Int) (n : Nd) : (opSetBody A ix n).2.sl.length = A.sl.length := by
  unfold opSetBody; split
  · rfl
  · split
    · rfl
    · exact put_len' _ _ _
theorem len_grow (A : Ar) (o ix : Int) : (opGrow A o ix).2.2.sl.length = A.sl.length := by
  unfold opGrow; split
  · rfl
  · split <;> rfl
theorem len_alloc (A : Ar) : A.sl.length ≤ (opAlloc A).2.2.sl.length := by
  unfold opAlloc; split
  · exact Nat.le_refl _
  · simp
theorem len_lay3 (A : Ar) (ix : Int) (n : Nd) : (opLay3 A ix n).sl.length = A.sl.length := by
  unfold opLay3; rw [len_unlock, len_setBody, len_setHead]
theorem len_lay (A : Ar) (ix : Int) (n : Nd) : A.sl.length ≤ (opLay A ix n).sl.length := by
  unfold opLay
  split
  · split
    · rw [len_lay3]; exact len_alloc A
    · exact len_alloc A
  · rw [len_lay3, len_lock]; exact Nat.le_refl _
/-- No call makes an arena shorter. -/
theorem len_step (A : Ar) (o : OpM) : A.sl.length ≤ (step A o).sl.length := by
  unfold step
  split
  · exact len_alloc A
  split
  · exact Nat.le_refl _
  split
  · exact Nat.le_of_eq (len_lock _ _ _).symm
  split
  · exact Nat.le_of_eq (len_unlock _ _ _).symm
  split
  · exact Nat.le_of_eq (len_setHead _ _ _).symm
  split
  · exact Nat.le_of_eq (len_setBody _ _ _).symm
  split
  · exact Nat.le_of_eq (len_grow _ _ _).symm
  split
  · exact len_lay _ _ _
  · exact Nat.le_of_eq (len_lock _ _ _).symm
section
variable {A : Ar} {ix : Int} {s : Sl} {n : Nd}
end

section
variable {A B : Ar} {ix : Int} {s : Sl}
/-- Whatever Lock finds even it takes; behind it the word is odd. -/
theorem lock_own (hs : A.get ix = some s) : ∃ (took : Bool) (x1 : Nat) (A1 : Ar), opLock A ix s.word = (took, 0, A1) ∧ A1.get ix = some ⟨x1, s.nd⟩ ∧ x1 % 2 = 1 ∧ ((s.word % 2 = 0 ∧ took = true ∧ x1 = s.word + 1 ∧ A1 = A.put ix ⟨x1, s.nd⟩) ∨ (s.word % 2 = 1 ∧ took = false ∧ x1 = s.word ∧ A1 = A)) := by
  rw [opLock_some hs]
  by_cases he : s.word % 2 = 0
  · refine ⟨true, s.word + 1, A.put ix ⟨s.word + 1, s.nd⟩, if_pos ⟨rfl, he⟩, put_get hs _, by omega, .inl ⟨he, rfl, rfl, rfl⟩⟩
  · refine ⟨false, s.word, A, if_neg (fun h => he h.2), hs, by omega, .inr ⟨by omega, rfl, rfl, rfl⟩⟩
theorem unlock_held (hs : A.get ix = some s) (ho : s.word % 2 = 1) (c : Bool) : opUnlock A ix c = (0, A.put ix ⟨back s.word c, s.nd⟩) := by
  unfold opUnlock; rw [hs]; simp [ho]
end
end Go.Proofs.YtbhohohgojcapaaGreat
