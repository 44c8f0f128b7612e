/- ArenaSeen's plain law: while every Unlock tells of a change, a slot whose word is even and as it was has the node that it had. And rows of nodes in memory. -/
import Derived.Test.YtbhohohgojcapaaSlot
import Derived.Test.YtbhohohgojcapaaTexts
namespace Go.Proofs.Ytbhohohgojcapaa
open Go.RowKit

/-- No word is more than m. -/
def WB (m : Nat) (A : Ar) : Prop := ∀ s ∈ A.sl, s.word ≤ m
/-- No word falls; what is even and as it was has the node that it had. -/
def Rel (A A' : Ar) : Prop := ∀ (j : Int) s, A.get j = some s → ∃ s', A'.get j = some s' ∧ s.word ≤ s'.word ∧ (s'.word = s.word → s.word % 2 = 0 → s'.nd = s.nd)

section
variable {A A' A'' : Ar} {ix : Int} {s t : Sl} {n : Nd} {m : Nat}
theorem Rel.refl (A : Ar) : Rel A A := fun _ s h => ⟨s, h, Nat.le_refl _, fun _ _ => rfl⟩
theorem Rel.trans (h : Rel A A') (k : Rel A' A'') : Rel A A'' := fun j s hs => by
  obtain ⟨s1, h1, h2, h3⟩ := h j s hs
  obtain ⟨s2, k1, k2, k3⟩ := k j s1 h1
  refine ⟨s2, k1, Nat.le_trans h2 k2, fun e he => ?_⟩
  have e1 : s1.word = s.word := by omega
  rw [k3 (by omega) (by omega), h3 e1 he]
theorem Rel.put (hs : A.get ix = some s) (h1 : s.word ≤ t.word) (h2 : t.word = s.word → s.word % 2 = 0 → t.nd = s.nd) : Rel A (A.put ix t) := fun j r hr => by
  by_cases hj : j = ix
  · subst hj
    rw [hs] at hr; cases hr
    exact ⟨t, put_get hs t, h1, h2⟩
  · exact ⟨r, by rw [get_put_ne (get_le hs).1 hj]; exact hr, Nat.le_refl _, fun _ _ => rfl⟩
theorem wb_put (h : WB m A) (ht : t.word ≤ m) : WB m (A.put ix t) := fun r hr => by
  rcases List.mem_or_eq_of_mem_set hr with h1 | h1
  · exact h r h1
  · subst h1; exact ht
theorem wb_get (h : WB m A) (hs : A.get ix = some s) : s.word ≤ m := by
  obtain ⟨i, _, h2, _⟩ := get_some hs
  exact h s (List.mem_of_getElem? h2)
theorem WB.mono {m' : Nat} (h : WB m A) (hm : m ≤ m') : WB m' A := fun s hs => Nat.le_trans (h s hs) hm
theorem wb_lock {wd : Nat} (h : WB m A) : WB (m + 1) (opLock A ix wd).2.2 := by
  unfold opLock; split
  · exact h.mono (by omega)
  · rename_i s hg
    have := wb_get h hg
    split
    · rename_i hc; exact wb_put (h.mono (by omega)) (by have := hc.1; simp; omega)
    · exact h.mono (by omega)
theorem back_le (x : Nat) (c : Bool) : back x c ≤ x + 1 := by
  unfold back
  cases c
  · simp; omega
  · simp; exact Nat.mod_le _ _
theorem wb_unlock {c : Bool} (h : WB m A) : WB (m + 1) (opUnlock A ix c).2 := by
  unfold opUnlock; split
  · exact h.mono (by omega)
  · rename_i s hg
    have := wb_get h hg
    split
    · exact h.mono (by omega)
    · exact wb_put (h.mono (by omega)) (by have := back_le s.word c; simp; omega)
theorem wb_setHead (h : WB m A) : WB m (opSetHead A ix n).2 := by
  unfold opSetHead; split
  · exact h
  · rename_i s hg
    split
    · exact h
    · exact wb_put h (show s.word ≤ m from wb_get h hg)
theorem wb_setBody (h : WB m A) : WB m (opSetBody A ix n).2 := by
  unfold opSetBody; split
  · exact h
  · rename_i s hg
    split
    · exact h
    · exact wb_put h (show s.word ≤ m from wb_get h hg)
theorem wb_grow {o : Int} (h : WB m A) : WB m (opGrow A o ix).2.2 := by
  unfold opGrow; split
  · exact h
  · split <;> exact h
theorem wb_alloc (h : WB m A) (hm : 1 ≤ m) : WB m (opAlloc A).2.2 := by
  unfold opAlloc; split
  · exact h
  · intro s hs
    rcases List.mem_append.1 hs with hs | hs
    · exact h s hs
    · simp at hs; subst hs; exact hm
theorem wb_lay3 (h : WB m A) : WB (m + 1) (opLay3 A ix n) := wb_unlock (wb_setBody (wb_setHead h))
theorem wb_lay (h : WB m A) (hm : 1 ≤ m) : WB (m + 2) (opLay A ix n) := by
  unfold opLay
  split
  · split
    · exact (wb_lay3 (wb_alloc h hm)).mono (by omega)
    · exact (wb_alloc h hm).mono (by omega)
  · exact wb_lay3 (wb_lock h)
theorem wb_step (h : WB m A) (hm : 1 ≤ m) (o : OpM) : WB (m + 2) (step A o) := by
  unfold step
  split
  · exact (wb_alloc h hm).mono (by omega)
  split
  · exact h.mono (by omega)
  split
  · exact (wb_lock h).mono (by omega)
  split
  · exact (wb_unlock h).mono (by omega)
  split
  · exact (wb_setHead h).mono (by omega)
  split
  · exact (wb_setBody h).mono (by omega)
  split
  · exact (wb_grow h).mono (by omega)
  split
  · exact wb_lay h hm
  · exact (wb_lock h).mono (by omega)
theorem wb_steps (os : List OpM) (h : WB m A) (hm : 1 ≤ m) : WB (m + 2 * os.length) (steps A os) := by
  induction os generalizing A m with
  | nil => exact h
  | cons o l ih =>
    have := ih (A := step A o) (m := m + 2) (wb_step h hm o) (by omega)
    exact this.mono (by simp; omega)

theorem rel_lock {wd : Nat} : Rel A (opLock A ix wd).2.2 := by
  unfold opLock; split
  · exact Rel.refl _
  · rename_i s hg
    split
    · rename_i hc
      exact Rel.put hg (by have := hc.1; simp; omega) (fun e => by have := hc.1; simp at e; omega)
    · exact Rel.refl _
theorem rel_unlock (h : WB m A) (hm : m + 1 < 18446744073709551616) : Rel A (opUnlock A ix true).2 := by
  unfold opUnlock; split
  · exact Rel.refl _
  · rename_i s hg
    have := wb_get h hg
    have e : back s.word true = s.word + 1 := by unfold back; simp; omega
    split
    · exact Rel.refl _
    · exact Rel.put hg (by rw [e]; simp) (fun e2 => by rw [e] at e2; simp at e2)
theorem rel_setHead : Rel A (opSetHead A ix n).2 := by
  unfold opSetHead; split
  · exact Rel.refl _
  · rename_i s hg
    split
    · exact Rel.refl _
    · rename_i hc; exact Rel.put hg (Nat.le_refl _) (fun _ he => absurd he hc)
theorem rel_setBody : Rel A (opSetBody A ix n).2 := by
  unfold opSetBody; split
  · exact Rel.refl _
  · rename_i s hg
    split
    · exact Rel.refl _
    · rename_i hc; exact Rel.put hg (Nat.le_refl _) (fun _ he => absurd he hc)
theorem rel_grow {o : Int} : Rel A (opGrow A o ix).2.2 := by
  unfold opGrow; split
  · exact Rel.refl _
  · split
    · exact Rel.refl _
    · exact Rel.refl _
theorem rel_alloc : Rel A (opAlloc A).2.2 := by
  unfold opAlloc; split
  · exact Rel.refl _
  · intro j s hs
    refine ⟨s, ?_, Nat.le_refl _, fun _ _ => rfl⟩
    obtain ⟨i, h1, h2, h3⟩ := get_some hs
    have hlt := (List.getElem?_eq_some_iff.1 h2).1
    unfold Ar.get
    rw [if_pos (by omega), h3]
    show (A.sl ++ _)[i]? = _
    rw [List.getElem?_append_left hlt]; exact h2
theorem rel_lay3 (h : WB m A) (hm : m + 1 < 18446744073709551616) : Rel A (opLay3 A ix n) :=
  (rel_setHead.trans rel_setBody).trans (rel_unlock (wb_setBody (wb_setHead h)) hm)
theorem rel_lay (h : WB m A) (h1 : 1 ≤ m) (hm : m + 2 < 18446744073709551616) : Rel A (opLay A ix n) := by
  unfold opLay
  split
  · split
    · exact rel_alloc.trans (rel_lay3 (wb_alloc h h1) (by omega))
    · exact rel_alloc
  · exact rel_lock.trans (rel_lay3 (wb_lock h) hm)
theorem rel_step (h : WB m A) (h1 : 1 ≤ m) (hm : m + 2 < 18446744073709551616) {o : OpM} (ho : o.ch = true) : Rel A (step A o) := by
  unfold step
  split
  · exact rel_alloc
  split
  · exact Rel.refl _
  split
  · exact rel_lock
  split
  · rw [ho]; exact rel_unlock h (by omega)
  split
  · exact rel_setHead
  split
  · exact rel_setBody
  split
  · exact rel_grow
  split
  · exact rel_lay h h1 hm
  · exact rel_lock
theorem rel_steps (os : List OpM) (h : WB m A) (h1 : 1 ≤ m) (hm : m + 2 * os.length < 18446744073709551616) (ho : ∀ o ∈ os, o.ch = true) : Rel A (steps A os) := by
  induction os generalizing A m with
  | nil => exact Rel.refl _
  | cons o l ih =>
    simp only [List.length_cons] at hm
    exact (rel_step h h1 (by omega) (ho o (List.mem_cons_self ..))).trans (ih (m := m + 2) (wb_step h h1 o) (by omega) (by omega) (fun x hx => ho x (List.mem_cons_of_mem _ hx)))
end

/-- The call, with a change told. -/
def tru (o : OpM) : OpM := { o with ch := true }

section
variable {w w' : World} {S : Nat → Prop} {o : OpM} {c0 c1 c2 c3 c4 c5 : Value}
theorem IsOp.node (h : IsOp w S #[.int .i64 o.kd, .int .i64 o.a, .int .i64 o.b, .int .u64 o.w, .bool o.ch, c0, c1, c2, c3, c4, c5] o) : IsNd w S c0 c1 c2 c3 c4 c5 o.nd := by
  obtain ⟨⟨d0, d1, d2, d3, d4, d5, e, hn⟩, _⟩ := h
  simp only [Array.mk.injEq, List.cons.injEq, true_and, and_true] at e
  obtain ⟨rfl, rfl, rfl, rfl, rfl, rfl⟩ := e
  exact hn
theorem IsOp.tru (h : IsOp w S #[.int .i64 o.kd, .int .i64 o.a, .int .i64 o.b, .int .u64 o.w, .bool o.ch, c0, c1, c2, c3, c4, c5] o) (k : Keeps Nob w w') : IsOp w' S #[.int .i64 o.kd, .int .i64 o.a, .int .i64 o.b, .int .u64 o.w, .bool true, c0, c1, c2, c3, c4, c5] (tru o) :=
  ⟨⟨c0, c1, c2, c3, c4, c5, rfl, h.node.keeps k (fun _ _ _ => id)⟩, h.kd, h.a, h.b, h.w, h.nd⟩
end

theorem Try.inf_node : (Try.prog.info? 37).map (fun i => (i.zero, i.size, i.bytes)) = some (some (.agg #[.int .i64 0, .slice none 0 0, .int .i64 0, .slice none 0 0, .slice none 0 0, .slice none 0 0]), 6, 112) := by kernel_rfl

/-- A row's cells are these nodes, their texts in blocks of S. -/
def NdsAt (w : World) (S : Nat → Prop) (xs : List Value) (l : List Nd) : Prop :=
  ∀ (j : Nat) n, l[j]? = some n → ∃ c0 c1 c2 c3 c4 c5, xs[j * 6]? = some c0 ∧ xs[j * 6 + 1]? = some c1 ∧ xs[j * 6 + 2]? = some c2 ∧ xs[j * 6 + 3]? = some c3 ∧ xs[j * 6 + 4]? = some c4 ∧ xs[j * 6 + 5]? = some c5 ∧ ONd w S c0 c1 c2 c3 c4 c5 n
section
variable {S T S' N : Nat → Prop} {w w' : World} {xs xs' : List Value} {l : List Nd} {v' : Value} {e : TypeId} {size m : Nat}
theorem NdsAt.keeps (h : NdsAt w S xs l) (k : Keeps N w w') (hd : ∀ b, b < w.heap.size → S b → ¬ N b) : NdsAt w' S xs l := fun j n hn => by
  obtain ⟨c0, c1, c2, c3, c4, c5, h0, h1, h2, h3, h4, h5, h6⟩ := h j n hn
  exact ⟨c0, c1, c2, c3, c4, c5, h0, h1, h2, h3, h4, h5, h6.keeps k hd⟩
theorem NdsAt.mono (h : NdsAt w S xs l) (hd : ∀ b, b < w.heap.size → S b → T b) : NdsAt w T xs l := fun j n hn => by
  obtain ⟨c0, c1, c2, c3, c4, c5, h0, h1, h2, h3, h4, h5, h6⟩ := h j n hn
  exact ⟨c0, c1, c2, c3, c4, c5, h0, h1, h2, h3, h4, h5, h6.mono hd⟩
theorem OTx.keepsOx {l} {v : Value} (h : OTx w S v l) (h' : Own w S' e size v' m xs') (h1 : 30 ≠ e) (h2 : 5 ≠ e) (k : Keeps (fun b => v'.ownBlock = some b) w w') : OTx w' S v l := by
  obtain ⟨vs, ho, hl, hv⟩ := h
  exact ⟨vs, Own.keepsO ho h' h1 k, hl, fun i u x hu hx => Own.keepsO (hv i u x hu hx) h' h2 k⟩
theorem Blk.keepsOx {g : Nat} {t : TypeId} {cs : Array Value} (h : Blk w g t cs) (h' : Own w S' e size v' m xs') (ht : t ≠ e) (k : Keeps (fun b => v'.ownBlock = some b) w w') : Blk w' g t cs :=
  h.keeps k (fun hg => by obtain ⟨cs', hb'⟩ := h'.ownBlk hg; exact Blk.ne_ h hb' ht rfl)
theorem ONd.keepsOx {c0 c1 c2 c3 c4 c5 : Value} {n : Nd} (h : ONd w S c0 c1 c2 c3 c4 c5 n) (h' : Own w S' e size v' m xs') (ha : Apart e) (k : Keeps (fun b => v'.ownBlock = some b) w w') : ONd w' S c0 c1 c2 c3 c4 c5 n :=
  ⟨⟨h.1.lvl, Own.keepsO h.1.high h' (Ne.symm ha.1) k, h.1.right⟩, h.2.keys.keepsOx h' (Ne.symm ha.2.1) (Ne.symm ha.1) k, h.2.vals.keepsOx h' (Ne.symm ha.2.1) (Ne.symm ha.1) k, Own.keepsO h.2.kids h' (Ne.symm ha.2.2) k⟩
theorem NdsAt.keepsOx (h : NdsAt w S xs l) (h' : Own w S' e size v' m xs') (ha : Apart e) (k : Keeps (fun b => v'.ownBlock = some b) w w') : NdsAt w' S xs l := fun j n hn => by
  obtain ⟨c0, c1, c2, c3, c4, c5, h0, h1, h2, h3, h4, h5, h6⟩ := h j n hn
  exact ⟨c0, c1, c2, c3, c4, c5, h0, h1, h2, h3, h4, h5, h6.keepsOx h' ha k⟩
theorem NdsAt.snoc {c0 c1 c2 c3 c4 c5 : Value} {n : Nd} (h : NdsAt w S xs l) (hx : xs.length = l.length * 6) (hn : ONd w S c0 c1 c2 c3 c4 c5 n) : NdsAt w S (xs ++ [c0, c1, c2, c3, c4, c5]) (l ++ [n]) := fun j m hm => by
  by_cases hj : j < l.length
  · rw [List.getElem?_append_left hj] at hm
    obtain ⟨d0, d1, d2, d3, d4, d5, h0, h1, h2, h3, h4, h5, h6⟩ := h j m hm
    refine ⟨d0, d1, d2, d3, d4, d5, ?_, ?_, ?_, ?_, ?_, ?_, h6⟩
    all_goals
      rw [List.getElem?_append_left (by omega)]
      assumption
  · rw [List.getElem?_append_right (by omega)] at hm
    cases hk : j - l.length with
    | zero =>
      rw [hk] at hm; simp at hm; subst hm
      have e : j = l.length := by omega
      subst e
      refine ⟨c0, c1, c2, c3, c4, c5, ?_, ?_, ?_, ?_, ?_, ?_, hn⟩
      all_goals
        rw [List.getElem?_append_right (by omega)]
        simp [hx]
    | succ k => rw [hk] at hm; simp at hm
end
end Go.Proofs.Ytbhohohgojcapaa
