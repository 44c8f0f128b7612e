import Derived.Test.YtbhohohgojcapaaGreatPkA0
import Derived.Test.YtbhohohgojcapaaGreatPkA5
set_option maxHeartbeats 64000000
namespace Go.Proofs.YtbhohohgojcapaaGreat
open Go.RowKit
def I64 (n : Int) : Prop := -9223372036854775808 <= n /\ n <= 9223372036854775807
def pk (c n : Int) : Int := (if c < 0 then -(c + 1) else c) % n
theorem pk_range (c n : Int) (hn : 0 < n) : 0 <= pk c n /\ pk c n < n := ⟨Int.emod_nonneg _ (by omega), Int.emod_lt_of_pos _ hn⟩
theorem ret_i {a b : Int} (h : a = b) : Ending.returned (.int .i64 a) = .returned (iV b) := by rw [h]; rfl
theorem pick_ {c n : Int} (w : World) (hc : I64 c) (hn : 1 <= n) : Calls Tryz.prog 75 #[iV c, iV n] w λ e w' => e = .returned (iV (pk c n)) /\ w = w' := by
 unfold I64 at hc
 obtain ⟨hc1, hc2⟩ := hc
 by_cases h : c < 0
 ·have e : pk c n = (-(c + 1)) % n := by unfold pk; rw [if_pos h]
  have E := Hd e; clear e
  unfold iV
  change Calls _ _ _ _ (λ e w' => e = .returned (iV (pk c n)) /\ w = w')
  go_enter Tryz.func75, Tryz.ntmps75
  go_wp2
  go_ret
  exact ⟨ret_i (by rw [E.out, <- Int.neg_tmod, Int.tmod_eq_emod_of_nonneg (by omega)]), rfl⟩
 ·have e : pk c n = c % n := by unfold pk; rw [if_neg h]
  have E := Hd e; clear e
  have h' : 0 <= c := by omega
  clear h
  unfold iV
  change Calls _ _ _ _ (λ e w' => e = .returned (iV (pk c n)) /\ w = w')
  go_enter Tryz.func75, Tryz.ntmps75
  go_wp2
  go_ret
  exact ⟨ret_i E.out.symm, rfl⟩
end Go.Proofs.YtbhohohgojcapaaGreat
namespace Go.Proofs.YtbhohohgojcapaaGreat
open Go.RowKit
structure J (w : World) (G : Nat -> Prop) (b p q : Nat) (A B : Ar) : Prop where
 blk : Blk w b 47 #[pV p, pV q]
 mem : ∃ M D M' D' : Nat -> Prop, ArX w M D p A /\ (∃ L xs, DocW w M' D' q L xs B) /\ (∀ x, M x -> G x /\ ¬ M' x /\ ¬ D' x /\ x ≠ b) /\ (∀ x, M' x -> G x /\ ¬ D x /\ x ≠ b) /\ (∀ x, D x \/ D' x -> G x)
 low : G b
 new : ∀ x, w.heap.size <= x -> G x
 smA : ∀ s ∈ A.sl, NdSm 0 s.nd
 smB : ∀ s ∈ B.sl, NdSm 0 s.nd
section
variable {A : Ar} {ix : Int} {n : Nd} {t : Sl}
theorem sm_zero : NdSm 0 Nd.zero := ⟨by simp [Sm, Nd.zero], ⟨by simp [Sm, Nd.zero], λ x hx => by simp [Nd.zero] at hx⟩, ⟨by simp [Sm, Nd.zero], λ x hx => by simp [Nd.zero] at hx⟩, by simp [Sm, Nd.zero]⟩
theorem sm_put (h : ∀ s ∈ A.sl, NdSm 0 s.nd) (ht : NdSm 0 t.nd) : ∀ s ∈ (A.put ix t).sl, NdSm 0 s.nd := λ s hs => by
 rcases List.mem_or_eq_of_mem_set hs with h1 | h1
 ·exact h s h1
 ·subst h1; exact ht
theorem sm_get (h : ∀ s ∈ A.sl, NdSm 0 s.nd) (hg : A.get ix = some t) : NdSm 0 t.nd := by
 obtain ⟨i, _, h2, _⟩ := get_some hg
 exact h t (List.mem_of_getElem? h2)
theorem sm_lock {wd : Nat} (h : ∀ s ∈ A.sl, NdSm 0 s.nd) : ∀ s ∈ (opLock A ix wd).2.2.sl, NdSm 0 s.nd := by
 unfold opLock
 split
 ·exact h
 ·rename_i s hg
  split
  ·exact sm_put h (show NdSm 0 s.nd from sm_get h hg)
  ·exact h
theorem sm_unlock {c : Bool} (h : ∀ s ∈ A.sl, NdSm 0 s.nd) : ∀ s ∈ (opUnlock A ix c).2.sl, NdSm 0 s.nd := by
 unfold opUnlock
 split
 ·exact h
 ·rename_i s hg
  split
  ·exact h
  ·exact sm_put h (show NdSm 0 s.nd from sm_get h hg)
theorem sm_setHead (h : ∀ s ∈ A.sl, NdSm 0 s.nd) (hn : NdSm 0 n) : ∀ s ∈ (opSetHead A ix n).2.sl, NdSm 0 s.nd := by
 unfold opSetHead
 split
 ·exact h
 ·rename_i s hg
  have := sm_get h hg
  split
  ·exact h
  ·exact sm_put h ⟨hn.1, this.2⟩
theorem sm_setBody (h : ∀ s ∈ A.sl, NdSm 0 s.nd) (hn : NdSm 0 n) : ∀ s ∈ (opSetBody A ix n).2.sl, NdSm 0 s.nd := by
 unfold opSetBody
 split
 ·exact h
 ·rename_i s hg
  have := sm_get h hg
  split
  ·exact h
  ·exact sm_put h ⟨this.1, hn.2⟩
theorem sm_grow {o : Int} (h : ∀ s ∈ A.sl, NdSm 0 s.nd) : ∀ s ∈ (opGrow A o ix).2.2.sl, NdSm 0 s.nd := by
 unfold opGrow
 split
 ·exact h
 ·split <;> exact h
theorem sm_alloc (h : ∀ s ∈ A.sl, NdSm 0 s.nd) : ∀ s ∈ (opAlloc A).2.2.sl, NdSm 0 s.nd := by
 unfold opAlloc
 split
 ·exact h
 ·intro s hs
  rcases List.mem_append.1 hs with hs | hs
  ·exact h s hs
  ·simp at hs; subst hs; exact sm_zero
end
section
variable {N M D M1 D1 M' D' : Nat -> Prop} {w w' : World} {G G' : Nat -> Prop} {b p q : Nat} {A B A' B' : Ar} {ix : Int} {slots L : Value} {ids : List Nat} {xs : List Value}
theorem ArW.monoM (h : ArW w M D p slots ids A) (hm : ∀ b, M b -> M' b) (ha : ∀ b, M' b -> ¬ D b) (hl : ∀ b, M' b -> b < w.heap.size) : ArW w M' D p slots ids A :=
 ⟨h.blk, h.row.mono (λ b _ hb => hm b hb), h.nodup, h.len, h.slot, hm _ h.mp, λ b hb => hm b (h.mids b hb), ha, hl, h.dlt, h.bound⟩
theorem J.keeps (h : J w G b p q A B) (k : Keeps N w w') (hn : ∀ x, x < w.heap.size -> G x -> ¬ N x) : J w' G b p q A B := by
 obtain ⟨hb, ⟨M, D, M', D', ⟨sl, ids, hX⟩, ⟨L, xs, hY⟩, h1, h2, h3⟩, hl, hnew, hsA, hsB⟩ := h
 exact ⟨hb.keeps k (hn b hb.lt hl), ⟨M, D, M', D', ⟨sl, ids, hX.keeps k (λ x hx hm => hn x hx (h1 x hm).1) (λ x hx hm => hn x hx (h3 x (.inl hm)))⟩, ⟨L, xs, hY.keeps k (λ x hx hm => hn x hx (h2 x hm).1) (λ x hx hm => hn x hx (h3 x (.inr hm)))⟩, h1, h2, h3⟩, hl, λ x hx => hnew x (Nat.le_trans k.size hx), hsA, hsB⟩
theorem J.nob (h : J w G b p q A B) (k : Keeps Nob w w') : J w' G b p q A B := h.keeps k (λ _ _ _ => id)
theorem J.enter (h : J w G b p q A B) (k : Keeps Nob w w') (hg : ∀ x, x < w.heap.size -> G x -> G' x) (hn : ∀ x, w'.heap.size <= x -> G' x) : J w' G' b p q A B := by
 have h' := h.nob k
 obtain ⟨hb, ⟨M, D, M', D', ⟨sl, ids, hX⟩, ⟨L, xs, hY⟩, h1, h2, h3⟩, hl, hnew, hsA, hsB⟩ := h
 have kk : ∀ {P : Nat -> Prop}, ∀ x, x < w.heap.size -> P x -> ¬ Nob x := λ _ _ _ => id
 exact ⟨h'.blk, ⟨M, D, M', D', ⟨sl, ids, hX.keeps k kk kk⟩, ⟨L, xs, hY.keeps k kk kk⟩, λ x hx => ⟨hg x (hX.mlt x hx) (h1 x hx).1, (h1 x hx).2⟩, λ x hx => ⟨hg x (hY.mlt x hx) (h2 x hx).1, (h2 x hx).2⟩, λ x hx => hg x (hx.elim (hX.dlt x) (hY.dlt x)) (h3 x hx)⟩, hg b hb.lt hl, hn, hsA, hsB⟩
theorem J.weaken (h : J w G b p q A B) (hg : ∀ x, G x -> G' x) : J w G' b p q A B := h.enter (Keeps.refl _ _) (λ x _ => hg x) (λ x hx => hg x (h.new x hx))
theorem J.stepX (hb : Blk w b 47 #[pV p, pV q]) (hX : ArW w M D p slots ids A) (hY : DocW w M' D' q L xs B) (h1 : ∀ x, M x -> G x /\ ¬ M' x /\ ¬ D' x /\ x ≠ b) (h2 : ∀ x, M' x -> G x /\ ¬ D x /\ x ≠ b) (h3 : ∀ x, D x \/ D' x -> G x) (hl : G b) (hnew : ∀ x, w.heap.size <= x -> G x)
  (hsB : ∀ s ∈ B.sl, NdSm 0 s.nd) (k : Keeps M w w') (hX' : ArX w' M1 D1 p A') (hM1 : ∀ x, M1 x -> M x \/ Fresh w w' x) (hD1 : ∀ x, D1 x -> D x \/ Fresh w w' x) (hsA : ∀ s ∈ A'.sl, NdSm 0 s.nd) : J w' G b p q A' B /\ Keeps G w w' := by
 have hbl := hb.lt
 refine ⟨⟨hb.keeps k (λ hm => (h1 b hm).2.2.2 rfl), ⟨M1, D1, M', D', hX', ⟨L, xs, hY.keeps k (λ x _ hm' hm => (h1 x hm).2.1 hm') (λ x _ hd hm => (h1 x hm).2.2.1 hd)⟩, λ x hx => ?_, λ x hx => ?_, λ x hx => ?_⟩, hl, λ x hx => hnew x (Nat.le_trans k.size hx), hsA, hsB⟩, k.mono (λ x _ hx => (h1 x hx).1)⟩
 ·rcases hM1 x hx with h | h
  ·exact h1 x h
  ·have := h.1
   exact ⟨hnew x h.1, λ h' => by have := hY.mlt x h'; omega, λ h' => by have := hY.dlt x h'; omega, by omega⟩
 ·obtain ⟨a1, a2, a3⟩ := h2 x hx
  refine ⟨a1, λ hd => ?_, a3⟩
  rcases hD1 x hd with h | h
  ·exact a2 h
  ·have := hY.mlt x hx; have := h.1; omega
 ·rcases hx with hx | hx
  ·rcases hD1 x hx with h | h
   ·exact h3 x (.inl h)
   ·exact hnew x h.1
  ·exact h3 x (.inr hx)
theorem J.stepY (hb : Blk w b 47 #[pV p, pV q]) (hX : ArW w M D p slots ids A) (hY : DocW w M' D' q L xs B) (h1 : ∀ x, M x -> G x /\ ¬ M' x /\ ¬ D' x /\ x ≠ b) (h2 : ∀ x, M' x -> G x /\ ¬ D x /\ x ≠ b) (h3 : ∀ x, D x \/ D' x -> G x) (hl : G b) (hnew : ∀ x, w.heap.size <= x -> G x)
  (hsA : ∀ s ∈ A.sl, NdSm 0 s.nd) (k : Keeps M' w w') (hY' : DocS w w' M1 D1 q B') (hM1 : ∀ x, M1 x -> M' x \/ Fresh w w' x) (hD1 : ∀ x, D1 x -> D' x \/ Fresh w w' x) (hsB : ∀ s ∈ B'.sl, NdSm 0 s.nd) : J w' G b p q A B' /\ Keeps G w w' := by
 have hbl := hb.lt
 refine ⟨⟨hb.keeps k (λ hm => (h2 b hm).2.2 rfl), ⟨M, D, M1, D1, ⟨slots, ids, hX.keeps k (λ x _ hm hm' => (h1 x hm).2.1 hm') (λ x _ hd hm => (h2 x hm).2.1 hd)⟩, hY', λ x hx => ?_, λ x hx => ?_, λ x hx => ?_⟩, hl, λ x hx => hnew x (Nat.le_trans k.size hx), hsA, hsB⟩, k.mono (λ x _ hx => (h2 x hx).1)⟩
 ·obtain ⟨a1, a2, a3, a4⟩ := h1 x hx
  refine ⟨a1, λ hm => ?_, λ hd => ?_, a4⟩
  ·rcases hM1 x hm with h | h
   ·exact a2 h
   ·have := hX.mlt x hx; have := h.1; omega
  ·rcases hD1 x hd with h | h
   ·exact a3 h
   ·have := hX.mlt x hx; have := h.1; omega
 ·rcases hM1 x hx with h | h
  ·exact h2 x h
  ·have := h.1
   exact ⟨hnew x h.1, λ h' => by have := hX.dlt x h'; omega, by omega⟩
 ·rcases hx with hx | hx
  ·exact h3 x (.inl hx)
  ·rcases hD1 x hx with h | h
   ·exact h3 x (.inr h)
   ·exact hnew x h.1
theorem wordX (h : ArW w M D p slots ids A) : Calls Tryz.prog 78 #[pV p, iV ix] w λ e w' => e = .returned (.tuple #[.int .u64 (opWord A ix), iV (opErr A ix)]) /\ w = w' := by
 cases hg : A.get ix with
 | none => rw [opWord_none hg, opErr_none hg]; exact word_out h (get_none hg)
 | some s => obtain ⟨i, b, h1, h2, _, h3⟩ := h.at_ hg; rw [opWord_some hg, opErr_some hg]; exact word_in h h1 h3 h2
theorem allocX (h : ArW w M D p slots ids A) : Calls Tryz.prog 76 #[pV p] w λ e w' => e = .returned (.tuple #[iV (opAlloc A).1, iV (opAlloc A).2.1]) /\ ArX w' (λ b => M b \/ Fresh w w' b) D p (opAlloc A).2.2 /\ Keeps M w w' := by
 unfold opAlloc
 by_cases hf : A.sl.length = A.nodes
 ·rw [if_pos hf]
  refine (alloc_full h hf).mono ?_
  rintro e w' ⟨rfl, m, rfl⟩
  refine ⟨rfl, ⟨_, _, (h.keeps (Keeps.drewN Nob w m) (λ _ _ _ => id) (λ _ _ _ => id)).monoM (λ b hb => .inl hb) ?_ ?_⟩, Keeps.drewN _ _ _⟩
  ·rintro b (hb | hb)
   ·exact h.apart b hb
   ·intro hd; have := h.dlt b hd; have := hb.1; omega
  ·rintro b (hb | hb)
   ·exact h.mlt b hb
   ·exact hb.2
 ·rw [if_neg hf]
  exact alloc_room h (by have := h.bound; omega)
theorem J.wordX (h : J w G b p q A B) : Calls Tryz.prog 78 #[pV p, iV ix] w λ e w' => e = .returned (.tuple #[.int .u64 (opWord A ix), iV (opErr A ix)]) /\ w = w' := by
 obtain ⟨hb, ⟨M, D, M', D', ⟨sl, ids, hX⟩, ⟨L, xs, hY⟩, h1, h2, h3⟩, hl, hnew, hsA, hsB⟩ := h
 exact Proofs.YtbhohohgojcapaaGreat.wordX hX
theorem J.wordR (h : J w G b p q A B) : Calls Tryz.prog 79 #[pV q, iV ix] w λ e w' => e = .returned (.tuple #[.int .u64 (opWord B ix), iV (opErr B ix)]) /\ w = w' := by
 obtain ⟨hb, ⟨M, D, M', D', ⟨sl, ids, hX⟩, ⟨L, xs, hY⟩, h1, h2, h3⟩, hl, hnew, hsA, hsB⟩ := h
 exact Proofs.YtbhohohgojcapaaGreat.wordR hY
theorem J.usedX (h : J w G b p q A B) : Calls Tryz.prog 59 #[pV p] w λ e w' => e = .returned (iV A.sl.length) /\ w = w' := by
 obtain ⟨hb, ⟨M, D, M', D', ⟨sl, ids, hX⟩, ⟨L, xs, hY⟩, h1, h2, h3⟩, hl, hnew, hsA, hsB⟩ := h
 exact used_ hX
theorem J.usedR (h : J w G b p q A B) : Calls Tryz.prog 16 #[pV q] w λ e w' => e = .returned (iV B.sl.length) /\ w = w' := by
 obtain ⟨hb, ⟨M, D, M', D', ⟨sl, ids, hX⟩, ⟨L, xs, hY⟩, h1, h2, h3⟩, hl, hnew, hsA, hsB⟩ := h
 exact Proofs.YtbhohohgojcapaaGreat.usedR hY
theorem J.leftX (h : J w G b p q A B) : Calls Tryz.prog 60 #[pV p] w λ e w' => e = .returned (iV (A.nodes - A.sl.length)) /\ J w' G b p q A B /\ Keeps Nob w w' := by
 have h' := h
 obtain ⟨hb, ⟨M, D, M', D', ⟨sl, ids, hX⟩, ⟨L, xs, hY⟩, h1, h2, h3⟩, hl, hnew, hsA, hsB⟩ := h
 refine (left_ hX).mono ?_
 rintro e w' ⟨rfl, m, rfl⟩
 exact ⟨rfl, h'.nob (Keeps.drewN _ _ _), Keeps.drewN _ _ _⟩
theorem J.leftR (h : J w G b p q A B) : Calls Tryz.prog 41 #[pV q] w λ e w' => e = .returned (iV (B.nodes - B.sl.length)) /\ J w' G b p q A B /\ Keeps Nob w w' := by
 have h' := h
 obtain ⟨hb, ⟨M, D, M', D', ⟨sl, ids, hX⟩, ⟨L, xs, hY⟩, h1, h2, h3⟩, hl, hnew, hsA, hsB⟩ := h
 refine (Proofs.YtbhohohgojcapaaGreat.leftR hY).mono ?_
 rintro e w' ⟨rfl, m, rfl⟩
 exact ⟨rfl, h'.nob (Keeps.drewN _ _ _), Keeps.drewN _ _ _⟩
theorem J.rootX (h : J w G b p q A B) : Calls Tryz.prog 61 #[pV p] w λ e w' => e = .returned (iV A.root) /\ w = w' := by
 obtain ⟨hb, ⟨M, D, M', D', ⟨sl, ids, hX⟩, ⟨L, xs, hY⟩, h1, h2, h3⟩, hl, hnew, hsA, hsB⟩ := h
 exact root_ hX
theorem J.rootR (h : J w G b p q A B) : Calls Tryz.prog 42 #[pV q] w λ e w' => e = .returned (iV B.root) /\ w = w' := by
 obtain ⟨hb, ⟨M, D, M', D', ⟨sl, ids, hX⟩, ⟨L, xs, hY⟩, h1, h2, h3⟩, hl, hnew, hsA, hsB⟩ := h
 exact Proofs.YtbhohohgojcapaaGreat.rootR hY
theorem J.heldX (h : J w G b p q A B) : Calls Tryz.prog 57 #[pV p] w λ e w' => ∃ v, e = .returned v /\ OIn w' (From w.heap.size) v (heldFrom 1 A.sl) /\ J w' G b p q A B /\ Keeps Nob w w' := by
 have h' := h
 obtain ⟨hb, ⟨M, D, M', D', ⟨sl, ids, hX⟩, ⟨L, xs, hY⟩, h1, h2, h3⟩, hl, hnew, hsA, hsB⟩ := h
 refine (held_ hX).mono ?_
 rintro e w' ⟨v, rfl, ho, k⟩
 exact ⟨v, rfl, ho, h'.nob k, k⟩
theorem J.heldR (h : J w G b p q A B) : Calls Tryz.prog 58 #[pV q] w λ e w' => ∃ v, e = .returned v /\ OIn w' (From w.heap.size) v (heldFrom 1 B.sl) /\ J w' G b p q A B /\ Keeps Nob w w' := by
 have h' := h
 obtain ⟨hb, ⟨M, D, M', D', ⟨sl, ids, hX⟩, ⟨L, xs, hY⟩, h1, h2, h3⟩, hl, hnew, hsA, hsB⟩ := h
 refine (heldsR hY).mono ?_
 rintro e w' ⟨v, rfl, ho, k⟩
 exact ⟨v, rfl, ho, h'.nob k, k⟩
theorem J.headX (h : J w G b p q A B) : Calls Tryz.prog 105 #[pV p, iV ix] w λ e w' => ∃ d0 d1 d2, e = .returned (.tuple #[.agg #[d0, d1, d2], iV (opErr A ix)]) /\ OHd w' (Fresh w w') d0 d1 d2 (opNd A ix) /\ J w' G b p q A B /\ Keeps Nob w w' := by
 have h' := h
 obtain ⟨hb, ⟨M, D, M', D', ⟨sl, ids, hX⟩, ⟨L, xs, hY⟩, h1, h2, h3⟩, hl, hnew, hsA, hsB⟩ := h
 refine (Proofs.YtbhohohgojcapaaGreat.headX hX hsA).mono ?_
 rintro e w' ⟨d0, d1, d2, rfl, ho, k⟩
 exact ⟨d0, d1, d2, rfl, ho, h'.nob k, k⟩
theorem J.bodyX (h : J w G b p q A B) : Calls Tryz.prog 106 #[pV p, iV ix] w λ e w' => ∃ d0 d1 d2, e = .returned (.tuple #[.agg #[d0, d1, d2], iV (opErr A ix)]) /\ OBd w' (Fresh w w') d0 d1 d2 (opNd A ix) /\ J w' G b p q A B /\ Keeps Nob w w' := by
 have h' := h
 obtain ⟨hb, ⟨M, D, M', D', ⟨sl, ids, hX⟩, ⟨L, xs, hY⟩, h1, h2, h3⟩, hl, hnew, hsA, hsB⟩ := h
 refine (Proofs.YtbhohohgojcapaaGreat.bodyX hX hsA).mono ?_
 rintro e w' ⟨d0, d1, d2, rfl, ho, k⟩
 exact ⟨d0, d1, d2, rfl, ho, h'.nob k, k⟩
theorem J.lockX {wd : Nat} (h : J w G b p q A B) (hu : U64 wd) : Calls Tryz.prog 31 #[pV p, iV ix, .int .u64 wd] w λ e w' => e = .returned (.tuple #[.bool (opLock A ix wd).1, iV (opLock A ix wd).2.1]) /\ J w' G b p q (opLock A ix wd).2.2 B /\ Keeps G w w' := by
 obtain ⟨hb, ⟨M, D, M', D', ⟨sl, ids, hX⟩, ⟨L, xs, hY⟩, h1, h2, h3⟩, hl, hnew, hsA, hsB⟩ := h
 refine (Proofs.YtbhohohgojcapaaGreat.lockX hX hu).mono ?_
 rintro e w' ⟨rfl, hs, k⟩
 exact ⟨rfl, J.stepX hb hX hY h1 h2 h3 hl hnew hsB k ⟨_, _, hs⟩ (λ x hx => .inl hx) (λ x hx => .inl hx) (sm_lock hsA)⟩
theorem J.unlockX {c : Bool} (h : J w G b p q A B)  : Calls Tryz.prog 33 #[pV p, iV ix, .bool c] w λ e w' => e = .returned (iV (opUnlock A ix c).1) /\ J w' G b p q (opUnlock A ix c).2 B /\ Keeps G w w' := by
 obtain ⟨hb, ⟨M, D, M', D', ⟨sl, ids, hX⟩, ⟨L, xs, hY⟩, h1, h2, h3⟩, hl, hnew, hsA, hsB⟩ := h
 refine (Proofs.YtbhohohgojcapaaGreat.unlockX hX).mono ?_
 rintro e w' ⟨rfl, hs, k⟩
 exact ⟨rfl, J.stepX hb hX hY h1 h2 h3 hl hnew hsB k ⟨_, _, hs⟩ (λ x hx => .inl hx) (λ x hx => .inl hx) (sm_unlock hsA)⟩
theorem J.growX {o : Int} (h : J w G b p q A B)  : Calls Tryz.prog 85 #[pV p, iV o, iV ix] w λ e w' => e = .returned (.tuple #[.bool (opGrow A o ix).1, iV (opGrow A o ix).2.1]) /\ J w' G b p q (opGrow A o ix).2.2 B /\ Keeps G w w' := by
 obtain ⟨hb, ⟨M, D, M', D', ⟨sl, ids, hX⟩, ⟨L, xs, hY⟩, h1, h2, h3⟩, hl, hnew, hsA, hsB⟩ := h
 refine (Proofs.YtbhohohgojcapaaGreat.growX hX).mono ?_
 rintro e w' ⟨rfl, hs, k⟩
 exact ⟨rfl, J.stepX hb hX hY h1 h2 h3 hl hnew hsB k ⟨_, _, hs⟩ (λ x hx => .inl hx) (λ x hx => .inl hx) (sm_grow hsA)⟩
theorem J.allocX  (h : J w G b p q A B)  : Calls Tryz.prog 76 #[pV p] w λ e w' => e = .returned (.tuple #[iV (opAlloc A).1, iV (opAlloc A).2.1]) /\ J w' G b p q (opAlloc A).2.2 B /\ Keeps G w w' := by
 obtain ⟨hb, ⟨M, D, M', D', ⟨sl, ids, hX⟩, ⟨L, xs, hY⟩, h1, h2, h3⟩, hl, hnew, hsA, hsB⟩ := h
 refine (Proofs.YtbhohohgojcapaaGreat.allocX hX).mono ?_
 rintro e w' ⟨rfl, hs, k⟩
 exact ⟨rfl, J.stepX hb hX hY h1 h2 h3 hl hnew hsB k hs (λ x hx => hx) (λ x hx => .inl hx) (sm_alloc hsA)⟩
theorem J.setHeadX {S : Nat -> Prop} {a0 a1 a2 : Value} {n : Nd} (h : J w G b p q A B) (hh : IsHd w S a0 a1 a2 n) (hn : NdSm 0 n) : Calls Tryz.prog 82 #[pV p, iV ix, .agg #[a0, a1, a2]] w λ e w' => e = .returned (iV (opSetHead A ix n).1) /\ J w' G b p q (opSetHead A ix n).2 B /\ Keeps G w w' := by
 obtain ⟨hb, ⟨M, D, M', D', ⟨sl, ids, hX⟩, ⟨L, xs, hY⟩, h1, h2, h3⟩, hl, hnew, hsA, hsB⟩ := h
 refine (Proofs.YtbhohohgojcapaaGreat.setHeadX hX hh hn).mono ?_
 rintro e w' ⟨rfl, hs, k⟩
 exact ⟨rfl, J.stepX hb hX hY h1 h2 h3 hl hnew hsB k ⟨_, _, hs⟩ (λ x hx => .inl hx) (λ x hx => hx) (sm_setHead hsA hn)⟩
theorem J.setBodyX {S : Nat -> Prop} {a0 a1 a2 : Value} {n : Nd} (h : J w G b p q A B) (hh : IsBd w S a0 a1 a2 n) (hn : NdSm 0 n) : Calls Tryz.prog 32 #[pV p, iV ix, .agg #[a0, a1, a2]] w λ e w' => e = .returned (iV (opSetBody A ix n).1) /\ J w' G b p q (opSetBody A ix n).2 B /\ Keeps G w w' := by
 obtain ⟨hb, ⟨M, D, M', D', ⟨sl, ids, hX⟩, ⟨L, xs, hY⟩, h1, h2, h3⟩, hl, hnew, hsA, hsB⟩ := h
 refine (Proofs.YtbhohohgojcapaaGreat.setBodyX hX hh hn).mono ?_
 rintro e w' ⟨rfl, hs, k⟩
 exact ⟨rfl, J.stepX hb hX hY h1 h2 h3 hl hnew hsB k ⟨_, _, hs⟩ (λ x hx => .inl hx) (λ x hx => hx) (sm_setBody hsA hn)⟩
theorem J.headR (h : J w G b p q A B) : Calls Tryz.prog 99 #[pV q, iV ix] w λ e w' => ∃ d0 d1 d2, e = .returned (.tuple #[.agg #[d0, d1, d2], iV (opErr B ix)]) /\ OHd w' (Fresh w w') d0 d1 d2 (opNd B ix) /\ J w' G b p q A B /\ Keeps Nob w w' := by
 have h' := h
 obtain ⟨hb, ⟨M, D, M', D', ⟨sl, ids, hX⟩, ⟨L, xs, hY⟩, h1, h2, h3⟩, hl, hnew, hsA, hsB⟩ := h
 refine (Proofs.YtbhohohgojcapaaGreat.headR hY hsB).mono ?_
 rintro e w' ⟨d0, d1, d2, rfl, ho, k⟩
 exact ⟨d0, d1, d2, rfl, ho, h'.nob k, k⟩
theorem J.bodyR (h : J w G b p q A B) : Calls Tryz.prog 100 #[pV q, iV ix] w λ e w' => ∃ d0 d1 d2, e = .returned (.tuple #[.agg #[d0, d1, d2], iV (opErr B ix)]) /\ OBd w' (Fresh w w') d0 d1 d2 (opNd B ix) /\ J w' G b p q A B /\ Keeps Nob w w' := by
 have h' := h
 obtain ⟨hb, ⟨M, D, M', D', ⟨sl, ids, hX⟩, ⟨L, xs, hY⟩, h1, h2, h3⟩, hl, hnew, hsA, hsB⟩ := h
 refine (Proofs.YtbhohohgojcapaaGreat.bodyR hY hsB).mono ?_
 rintro e w' ⟨d0, d1, d2, rfl, ho, k⟩
 exact ⟨d0, d1, d2, rfl, ho, h'.nob k, k⟩
theorem J.lockR {wd : Nat} (h : J w G b p q A B) (hu : U64 wd) : Calls Tryz.prog 122 #[pV q, iV ix, .int .u64 wd] w λ e w' => e = .returned (.tuple #[.bool (opLock B ix wd).1, iV (opLock B ix wd).2.1]) /\ J w' G b p q A (opLock B ix wd).2.2 /\ Keeps G w w' := by
 obtain ⟨hb, ⟨M, D, M', D', ⟨sl, ids, hX⟩, ⟨L, xs, hY⟩, h1, h2, h3⟩, hl, hnew, hsA, hsB⟩ := h
 refine (Proofs.YtbhohohgojcapaaGreat.lockR hY hu).mono ?_
 rintro e w' ⟨rfl, hs, k⟩
 exact ⟨rfl, J.stepY hb hX hY h1 h2 h3 hl hnew hsA k hs (λ x hx => .inl hx) (λ x hx => .inl hx) (sm_lock hsB)⟩
theorem J.unlockR {c : Bool} (h : J w G b p q A B)  : Calls Tryz.prog 81 #[pV q, iV ix, .bool c] w λ e w' => e = .returned (iV (opUnlock B ix c).1) /\ J w' G b p q A (opUnlock B ix c).2 /\ Keeps G w w' := by
 obtain ⟨hb, ⟨M, D, M', D', ⟨sl, ids, hX⟩, ⟨L, xs, hY⟩, h1, h2, h3⟩, hl, hnew, hsA, hsB⟩ := h
 refine (Proofs.YtbhohohgojcapaaGreat.unlockR hY).mono ?_
 rintro e w' ⟨rfl, hs, k⟩
 exact ⟨rfl, J.stepY hb hX hY h1 h2 h3 hl hnew hsA k hs (λ x hx => .inl hx) (λ x hx => .inl hx) (sm_unlock hsB)⟩
theorem J.growR {o : Int} (h : J w G b p q A B)  : Calls Tryz.prog 86 #[pV q, iV o, iV ix] w λ e w' => e = .returned (.tuple #[.bool (opGrow B o ix).1, iV (opGrow B o ix).2.1]) /\ J w' G b p q A (opGrow B o ix).2.2 /\ Keeps G w w' := by
 obtain ⟨hb, ⟨M, D, M', D', ⟨sl, ids, hX⟩, ⟨L, xs, hY⟩, h1, h2, h3⟩, hl, hnew, hsA, hsB⟩ := h
 refine (Proofs.YtbhohohgojcapaaGreat.growR hY).mono ?_
 rintro e w' ⟨rfl, hs, k⟩
 exact ⟨rfl, J.stepY hb hX hY h1 h2 h3 hl hnew hsA k hs (λ x hx => .inl hx) (λ x hx => .inl hx) (sm_grow hsB)⟩
theorem J.allocR  (h : J w G b p q A B)  : Calls Tryz.prog 77 #[pV q] w λ e w' => e = .returned (.tuple #[iV (opAlloc B).1, iV (opAlloc B).2.1]) /\ J w' G b p q A (opAlloc B).2.2 /\ Keeps G w w' := by
 obtain ⟨hb, ⟨M, D, M', D', ⟨sl, ids, hX⟩, ⟨L, xs, hY⟩, h1, h2, h3⟩, hl, hnew, hsA, hsB⟩ := h
 refine (Proofs.YtbhohohgojcapaaGreat.allocR hY).mono ?_
 rintro e w' ⟨rfl, hs, k⟩
 exact ⟨rfl, J.stepY hb hX hY h1 h2 h3 hl hnew hsA k hs (λ x hx => hx) (λ x hx => .inl hx) (sm_alloc hsB)⟩
theorem J.setHeadR {S : Nat -> Prop} {a0 a1 a2 : Value} {n : Nd} (h : J w G b p q A B) (hh : IsHd w S a0 a1 a2 n) (hn : NdSm 0 n) : Calls Tryz.prog 83 #[pV q, iV ix, .agg #[a0, a1, a2]] w λ e w' => e = .returned (iV (opSetHead B ix n).1) /\ J w' G b p q A (opSetHead B ix n).2 /\ Keeps G w w' := by
 obtain ⟨hb, ⟨M, D, M', D', ⟨sl, ids, hX⟩, ⟨L, xs, hY⟩, h1, h2, h3⟩, hl, hnew, hsA, hsB⟩ := h
 refine (Proofs.YtbhohohgojcapaaGreat.setHeadR hY hh hn).mono ?_
 rintro e w' ⟨rfl, hs, k⟩
 exact ⟨rfl, J.stepY hb hX hY h1 h2 h3 hl hnew hsA k hs (λ x hx => .inl hx) (λ x hx => hx) (sm_setHead hsB hn)⟩
theorem J.setBodyR {S : Nat -> Prop} {a0 a1 a2 : Value} {n : Nd} (h : J w G b p q A B) (hh : IsBd w S a0 a1 a2 n) (hn : NdSm 0 n) : Calls Tryz.prog 84 #[pV q, iV ix, .agg #[a0, a1, a2]] w λ e w' => e = .returned (iV (opSetBody B ix n).1) /\ J w' G b p q A (opSetBody B ix n).2 /\ Keeps G w w' := by
 obtain ⟨hb, ⟨M, D, M', D', ⟨sl, ids, hX⟩, ⟨L, xs, hY⟩, h1, h2, h3⟩, hl, hnew, hsA, hsB⟩ := h
 refine (Proofs.YtbhohohgojcapaaGreat.setBodyR hY hh hn).mono ?_
 rintro e w' ⟨rfl, hs, k⟩
 exact ⟨rfl, J.stepY hb hX hY h1 h2 h3 hl hnew hsA k hs (λ x hx => .inl hx) (λ x hx => hx) (sm_setBody hsB hn)⟩
end
end Go.Proofs.YtbhohohgojcapaaGreat
namespace Go.Proofs.YtbhohohgojcapaaGreat
open Go.RowKit
def opLay3 (A : Ar) (ix : Int) (n : Nd) : Ar := (opUnlock (opSetBody (opSetHead A ix n).2 ix n).2 ix true).2
def opLay (A : Ar) (ix : Int) (n : Nd) : Ar :=
 if (A.sl.length : Int) < ix then (if (opAlloc A).2.1 = 0 then opLay3 (opAlloc A).2.2 ix n else (opAlloc A).2.2)
 else opLay3 (opLock A ix (opWord A ix)).2.2 ix n
section
variable {w : World} {G : Nat -> Prop} {b p q : Nat} {A B : Ar} {ix : Int}
theorem idJ {c : Int} (h : J w G b p q A B) (hc : I64 c) (hl : B.sl.length <= 65536) : Calls Tryz.prog 74 #[pV b, iV c] w λ e w' => e = .returned (iV (pk c (B.sl.length + 2))) /\ w = w' := by
 have r1 : w.cell? ⟨b, 1, none⟩ = some (.pointer (some ⟨q, 0, none⟩)) := h.blk.cell 1
 have HU := Hd h.usedR
 have HP := Hd (pick_ (c := c) (n := (B.sl.length : Int) + 2) w hc (by omega))
 clear h hc
 unfold pV iV at *
 go_enter Tryz.func74, Tryz.ntmps74
 go_wp2_with (first
  | (go_at_call 16; refine HU.out.mono ?_; rintro e w' ⟨rfl, rfl⟩)
  | (go_at_call 75; refine HP.out.mono ?_; rintro e w' ⟨rfl, rfl⟩))
 go_ret
 exact ⟨rfl, rfl⟩
theorem lockJ {wd : Nat} (h : J w G b p q A A) (hu : U64 wd) : Calls Tryz.prog 80 #[pV b, iV ix, .int .u64 wd] w λ e w' => e = .returned (.bool true) /\ J w' G b p q (opLock A ix wd).2.2 (opLock A ix wd).2.2 /\ Keeps G w w' := by
 have r0 : w.cell? ⟨b, 0, none⟩ = some (.pointer (some ⟨p, 0, none⟩)) := h.blk.cell 0
 have H1 := Hd (h.lockX (ix := ix) hu)
 have H2 := λ w' (hj : J w' G b p q (opLock A ix wd).2.2 A) => Hd (hj.lockR (ix := ix) hu)
 clear h hu
 generalize opLock A ix wd = r at *
 obtain ⟨ok, er, A'⟩ := r
 unfold pV iV at *
 go_enter Tryz.func80, Tryz.ntmps80
 go_wp2_with (first
  | (go_at_call 31; refine H1.out.mono ?_; rintro e w1 ⟨rfl, hj, hk⟩; have r1 : w1.cell? ⟨b, 1, none⟩ = some (.pointer (some ⟨q, 0, none⟩)) := hj.blk.cell 1; have H3 := H2 w1 hj; have K1 := Hd hk; clear hj hk H1 H2)
  | (go_at_call 122; refine H3.out.mono ?_; rintro e w2 ⟨rfl, hj, hk⟩; have HJ := Hd hj; have K2 := Hd (K1.out.trans hk (λ _ _ h => h)); clear hj hk))
 go_ret
 exact ⟨by simp, HJ.out, K2.out⟩
end
end Go.Proofs.YtbhohohgojcapaaGreat
namespace Go.Proofs.YtbhohohgojcapaaGreat
open Go.RowKit
def ar0 (n : Nat) : Ar := ⟨n, [⟨0, Nd.zero⟩], 1⟩
section
variable {w : World}
set_option maxRecDepth 100000 in
theorem begunJ {n : Nat} (w : World) (h1 : 1 <= n) (h2 : n <= 65536) : Calls Tryz.prog 9 #[iV n] w λ e w' => ∃ b p q, e = .returned (.tuple #[pV b, .bool true]) /\ J w' (From w.heap.size) b p q (ar0 n) (ar0 n) /\ Keeps Nob w w' := by
 have HN := Hd (new_ok w h1 h2)
 have HM := λ wx => docNew_ok (n := n) wx h1 h2
 clear h1 h2
 unfold iV pV at *
 go_enter Tryz.func9, Tryz.ntmps9
 go_wp2_with fail
 refine HN.out.mono ?_
 rintro e w1 ⟨rfl, hX, k1⟩
 obtain ⟨P, hP⟩ : ∃ P, w.heap.size + 2 = P := ⟨_, rfl⟩
 rw [hP] at hX ⊢
 have HX := Hd hX
 have K1 := Hd k1
 clear hX k1 hP HN
 go_wp2_with fail
 refine (HM w1).mono ?_
 rintro e w2 ⟨rfl, hY, k2⟩
 obtain ⟨Q, hQ⟩ : ∃ Q, w1.heap.size + 1 = Q := ⟨_, rfl⟩
 rw [hQ] at hY ⊢
 have HY := Hd hY
 have K2 := Hd k2
 clear hY k2 hQ HM
 go_wp2
 refine post_at (λ w3 hw => ?_)
 have k3 : Keeps Nob w2 w3 := by rw [hw]; exact Keeps.alloc _ _ _
 have hb : Blk w3 w2.heap.size 47 #[.pointer (some ⟨P, 0, none⟩), .pointer (some ⟨Q, 0, none⟩)] := by rw [hw]; exact Blk.new _ _ _
 clear hw
 have s1 := K1.out.size
 have s2 := K2.out.size
 have s3 := k3.size
 have kk : ∀ {P : Nat -> Prop} {z : Nat}, ∀ x, x < z -> P x -> ¬ Nob x := λ _ _ _ => id
 have hJ : J w3 (From w.heap.size) w2.heap.size P Q (ar0 n) (ar0 n) := by
  obtain ⟨sl, ids, hX⟩ := HX.out
  obtain ⟨L, xs, hY⟩ := HY.out
  refine ⟨hb, ⟨_, Nob, _, Nob, ⟨sl, ids, (hX.keeps K2.out kk kk).keeps k3 kk kk⟩, ⟨L, xs, hY.keeps k3 kk kk⟩, λ x hx => ⟨hx.1, λ h => ?_, λ h => h, ?_⟩, λ x hx => ⟨?_, λ h => h, ?_⟩, λ x hx => hx.elim (λ h => h.elim) (λ h => h.elim)⟩, ?_, λ x hx => ?_, ?_, ?_⟩
  ·have := hx.2; have := h.1; omega
  ·have := hx.2; omega
  ·have := hx.1; show _ <= _; omega
  ·have := hx.2; omega
  ·show _ <= _; omega
  ·show _ <= _; omega
  ·intro s hs; simp [ar0] at hs; subst hs; exact sm_zero
  ·intro s hs; simp [ar0] at hs; subst hs; exact sm_zero
 have kf : Keeps Nob w w3 := (K1.out.trans K2.out (λ _ _ h => h)).trans k3 (λ _ _ h => h)
 clear hb k3 s1 s2 s3
 go_ret2
 exact ⟨_, _, _, rfl, hJ, kf⟩
end
end Go.Proofs.YtbhohohgojcapaaGreat
