import Derived.Test.YtbhohohgojcapaaPkE2
namespace Go.Proofs.Ytbhohohgojcapaa
open Go.RowKit

/-- Right and kids are numbers of the machine. -/
def Wd (n : Nd) : Prop := K64 n.right ∧ ∀ k ∈ n.kids, K64 k
def Wide64 (A : Ar) : Prop := ∀ s ∈ A.sl, Wd s.nd
section
variable {A : Ar} {ix : Int}
theorem Wide64.kids (h : Wide64 A) : Kids64 A := fun s hs => (h s hs).2
theorem wdd_put {t : Sl} (h : Wide64 A) (ht : Wd t.nd) : Wide64 (A.put ix t) := fun s hs => by
  rcases List.mem_or_eq_of_mem_set hs with h1 | h1
  · exact h s h1
  · rw [h1]; exact ht
theorem wdd_get {t : Sl} (h : Wide64 A) (hg : A.get ix = some t) : Wd t.nd := by
  obtain ⟨_, _, h2, _⟩ := get_some hg
  exact h t (List.mem_of_getElem? h2)
theorem wdd_lock {wd : Nat} (h : Wide64 A) : Wide64 (opLock A ix wd).2.2 := by
  unfold opLock; split
  · exact h
  · rename_i s hg
    split
    · exact wdd_put h (show Wd s.nd from wdd_get h hg)
    · exact h
theorem wdd_unlock {c : Bool} (h : Wide64 A) : Wide64 (opUnlock A ix c).2 := by
  unfold opUnlock; split
  · exact h
  · rename_i s hg
    split
    · exact h
    · exact wdd_put h (show Wd s.nd from wdd_get h hg)
theorem wdd_setHead {n : Nd} (h : Wide64 A) (hn : Wd n) : Wide64 (opSetHead A ix n).2 := by
  unfold opSetHead; split
  · exact h
  · rename_i s hg
    split
    · exact h
    · exact wdd_put h ⟨hn.1, (wdd_get h hg).2⟩
theorem wdd_setBody {n : Nd} (h : Wide64 A) (hn : Wd n) : Wide64 (opSetBody A ix n).2 := by
  unfold opSetBody; split
  · exact h
  · rename_i s hg
    split
    · exact h
    · exact wdd_put h ⟨(wdd_get h hg).1, hn.2⟩
theorem wdd_grow {o : Int} (h : Wide64 A) : Wide64 (opGrow A o ix).2.2 := by
  unfold opGrow; split
  · exact h
  · split <;> exact h
theorem wd_zero : Wd Nd.zero := ⟨by unfold K64; decide, fun k hk => by simp [Nd.zero] at hk⟩
theorem wdd_alloc (h : Wide64 A) : Wide64 (opAlloc A).2.2 := by
  unfold opAlloc; split
  · exact h
  · intro s hs
    rcases List.mem_append.1 hs with hs | hs
    · exact h s hs
    · simp at hs; subst hs; exact wd_zero
theorem wdd_lay3 {n : Nd} (h : Wide64 A) (hn : Wd n) : Wide64 (opLay3 A ix n) := wdd_unlock (wdd_setBody (wdd_setHead h hn) hn)
theorem wdd_lay {n : Nd} (h : Wide64 A) (hn : Wd n) : Wide64 (opLay A ix n) := by
  unfold opLay
  split
  · split
    · exact wdd_lay3 (wdd_alloc h) hn
    · exact wdd_alloc h
  · exact wdd_lay3 (wdd_lock h) hn
theorem wdd_step (h : Wide64 A) (o : OpM) (hn : Wd o.nd) : Wide64 (step A o) := by
  unfold step
  split
  · exact wdd_alloc h
  split
  · exact h
  split
  · exact wdd_lock h
  split
  · exact wdd_unlock h
  split
  · exact wdd_setHead h hn
  split
  · exact wdd_setBody h hn
  split
  · exact wdd_grow h
  split
  · exact wdd_lay h hn
  · exact wdd_lock h
theorem wdd_steps : ∀ (os : List OpM) (A : Ar), Wide64 A → (∀ o ∈ os, Wd o.nd) → Wide64 (steps A os)
  | [], _, h, _ => h
  | o :: os, A, h, hn => wdd_steps os (step A o) (wdd_step h o (hn o (List.mem_cons_self ..))) (fun x hx => hn x (List.mem_cons_of_mem _ hx))
theorem wdd_ar0 (n : Nat) : Wide64 (ar0 n) := fun s hs => by
  have h : s = ⟨0, Nd.zero⟩ := (by simpa [ar0] using hs)
  rw [h]; exact wd_zero
/-- The root stays a slot that is there. -/
theorem root_step_ {P : OpM} (h : 1 ≤ A.root ∧ A.root ≤ A.sl.length) : 1 ≤ (step A P).root ∧ (step A P).root ≤ (step A P).sl.length := by
  have hl := len_step A P
  have hput : ∀ (B : Ar) (i : Int) (s : Sl), (B.put i s).root = B.root := fun _ _ _ => rfl
  have hlock : ∀ (B : Ar) (i : Int) (x : Nat), (opLock B i x).2.2.root = B.root := fun B i x => by unfold opLock; split; rfl; split <;> rfl
  have hunl : ∀ (B : Ar) (i : Int) (x : Bool), (opUnlock B i x).2.root = B.root := fun B i x => by unfold opUnlock; split; rfl; split <;> rfl
  have hsh : ∀ (B : Ar) (i : Int) (x : Nd), (opSetHead B i x).2.root = B.root := fun B i x => by unfold opSetHead; split; rfl; split <;> rfl
  have hsb : ∀ (B : Ar) (i : Int) (x : Nd), (opSetBody B i x).2.root = B.root := fun B i x => by unfold opSetBody; split; rfl; split <;> rfl
  have hal : (opAlloc A).2.2.root = A.root := by unfold opAlloc; split <;> rfl
  have h3 : ∀ (B : Ar) (i : Int) (x : Nd), (opLay3 B i x).root = B.root := fun B i x => by unfold opLay3; rw [hunl, hsb, hsh]
  have hk : (step A P).root = A.root ∨ ∃ i s, (step A P).root = i ∧ A.get i = some s := by
    unfold step
    split
    · exact .inl hal
    split
    · exact .inl rfl
    split
    · exact .inl (hlock _ _ _)
    split
    · exact .inl (hunl _ _ _)
    split
    · exact .inl (hsh _ _ _)
    split
    · exact .inl (hsb _ _ _)
    split
    · unfold opGrow
      split
      · exact .inl rfl
      · rename_i s hs
        split
        · exact .inr ⟨_, s, rfl, hs⟩
        · exact .inl rfl
    split
    · unfold opLay
      split
      · split
        · rw [h3]; exact .inl hal
        · exact .inl hal
      · rw [h3]; exact .inl (hlock _ _ _)
    · exact .inl (hlock _ _ _)
  rcases hk with e | ⟨i, s, e, hs⟩
  · rw [e]; omega
  · rw [e]; have := get_le hs; omega
theorem root_steps_ : ∀ (os : List OpM) (A : Ar), (1 ≤ A.root ∧ A.root ≤ A.sl.length) → 1 ≤ (steps A os).root ∧ (steps A os).root ≤ (steps A os).sl.length
  | [], _, h => h
  | o :: os, A, h => root_steps_ os (step A o) (root_step_ h)
theorem root_ar0 (n : Nat) : 1 ≤ (ar0 n).root ∧ (ar0 n).root ≤ (ar0 n).sl.length := by simp [ar0]
end
end Go.Proofs.Ytbhohohgojcapaa
