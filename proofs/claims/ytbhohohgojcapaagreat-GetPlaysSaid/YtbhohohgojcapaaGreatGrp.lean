/- Groups of objects: one place of a family that holds a whole row of objects; an object that steps while the arenas are written. No condition. -/
import Derived.Test.YtbhohohgojcapaaGreatFams
namespace Go.Proofs.YtbhohohgojcapaaGreat
open Go.RowKit

/-- A row of objects as one. -/
def grpOb (l : List Ob) : Ob where
  P := fun w => Fam w Nob l
  F := fun x => ∃ (i : Nat) (o : Ob), l[i]? = some o ∧ o.F x
  W := fun x => ∃ (i : Nat) (o : Ob), l[i]? = some o ∧ o.W x
  fr := fun _ _ _ h k hd => h.keeps k (fun i o hi x hx hn => hd x (h.old i o hi x hx) ⟨i, o, hi, hx⟩ hn) (fun _ h => h.elim)

/-- What an object becomes: u' behind u, from w to w', apart from G'. -/
structure Turns (w w' : World) (G' : Nat → Prop) (u u' : Ob) : Prop where
  ok : u'.P w'
  F : ∀ x, u'.F x → u.F x ∨ Fresh w w' x
  off : ∀ x, u'.F x → ¬ G' x
  W : ∀ x, u'.W x → u.W x ∨ Fresh w w' x
  wf : ∀ x, u'.W x → u'.F x

section
variable {w0 w w' : World} {b p q : Nat} {A B A' B' : Ar} {l ls : List Ob} {o o' u u' : Ob} {i n : Nat} {N G G' : Nat → Prop}
/-- An object of a group. -/
theorem grp_turn (h : Fam w Nob ls) (hn : ls[n]? = some u) (k : Keeps (fun x => G x ∨ u.W x) w w') (hoff : ∀ (j : Nat) v, ls[j]? = some v → ∀ x, v.F x → ¬ G x) (hsub : ∀ x, G' x → G x) (t : Turns w w' G' u u') : Turns w w' G' (grpOb ls) (grpOb (ls.set n u')) := by
  have hcase : ∀ (j : Nat) v, (ls.set n u')[j]? = some v → (j = n ∧ v = u') ∨ (j ≠ n ∧ ls[j]? = some v) := fun j v hj => by
    rw [List.getElem?_set] at hj
    by_cases e : n = j
    · subst e
      rw [if_pos rfl] at hj
      split at hj
      · cases hj; exact .inl ⟨rfl, rfl⟩
      · cases hj
    · rw [if_neg e] at hj
      exact .inr ⟨fun h => e h.symm, hj⟩
  refine ⟨⟨fun j v hj => ?_, fun j v hj x hx => ?_, fun j v hj x hx => ?_, fun j v hj x hx => id, fun j j' v v' hj hj' hne x hx hx' => ?_⟩, ?_, ?_, ?_, ?_⟩
  · rcases hcase j v hj with ⟨rfl, rfl⟩ | ⟨hne, hj⟩
    · exact t.ok
    · refine v.fr _ _ _ (h.ok j v hj) k (fun x _ hx hN => ?_)
      rcases hN with hN | hN
      · exact hoff j v hj x hx hN
      · exact h.apart n j u v hn hj (fun e => hne e.symm) x hN hx
  · rcases hcase j v hj with ⟨rfl, rfl⟩ | ⟨hne, hj⟩
    · rcases t.F x hx with h1 | h1
      · exact Nat.lt_of_lt_of_le (h.old _ u hn x h1) k.size
      · exact h1.2
    · exact Nat.lt_of_lt_of_le (h.old j v hj x hx) k.size
  · rcases hcase j v hj with ⟨rfl, rfl⟩ | ⟨hne, hj⟩
    · exact t.wf x hx
    · exact h.wf j v hj x hx
  · rcases hcase j v hj with ⟨rfl, rfl⟩ | ⟨hn1, hj1⟩
    · rcases hcase j' v' hj' with ⟨rfl, rfl⟩ | ⟨hn2, hj2⟩
      · exact hne rfl
      · rcases t.W x hx with h1 | h1
        · exact h.apart _ j' u v' hn hj2 hne x h1 hx'
        · have := h.old j' v' hj2 x hx'; have := h1.1; omega
    · rcases hcase j' v' hj' with ⟨rfl, rfl⟩ | ⟨hn2, hj2⟩
      · rcases t.F x hx' with h1 | h1
        · exact h.apart j _ v u hj1 hn hne x hx h1
        · have := h.old j v hj1 x (h.wf j v hj1 x hx); have := h1.1; omega
      · exact h.apart j j' v v' hj1 hj2 hne x hx hx'
  · rintro x ⟨j, v, hj, hx⟩
    rcases hcase j v hj with ⟨rfl, rfl⟩ | ⟨hne, hj⟩
    · exact (t.F x hx).imp (fun h => ⟨_, u, hn, h⟩) id
    · exact .inl ⟨j, v, hj, hx⟩
  · rintro x ⟨j, v, hj, hx⟩
    rcases hcase j v hj with ⟨rfl, rfl⟩ | ⟨hne, hj⟩
    · exact t.off x hx
    · exact fun hg => hoff j v hj x hx (hsub x hg)
  · rintro x ⟨j, v, hj, hx⟩
    rcases hcase j v hj with ⟨rfl, rfl⟩ | ⟨hne, hj⟩
    · exact (t.W x hx).imp (fun h => ⟨_, u, hn, h⟩) id
    · exact .inl ⟨j, v, hj, hx⟩
  · rintro x ⟨j, v, hj, hx⟩
    rcases hcase j v hj with ⟨rfl, rfl⟩ | ⟨hne, hj'⟩
    · exact ⟨j, v, hj, t.wf x hx⟩
    · exact ⟨j, v, hj, h.wf j v hj' x hx⟩

/-- An object steps, and the arenas may be written. -/
theorem Su.turn (h : Su w0 w b p q A B l) (hi : l[i]? = some o) : ∃ G, J w G b p q A B ∧ (∀ x, o.F x → ¬ G x) ∧ (∀ x, G x → w0.heap.size ≤ x) ∧ (∀ x, o.F x → x < w.heap.size) ∧ (∀ x, o.W x → w0.heap.size ≤ x ∧ o.F x) ∧ o.P w ∧
    ∀ w' A' B' o' G', J w' G' b p q A' B' → (∀ x, G' x → G x) → Keeps (fun x => G x ∨ o.W x) w w' → Turns w w' G' o o' → Su w0 w' b p q A' B' (l.set i o') := by
  have hsz := h.size
  obtain ⟨G, hJ, hF, hg, hw, hk⟩ := h
  refine ⟨G, hJ, hF.off i o hi, hg, hF.old i o hi, fun x hx => ⟨hw i o hi x hx, hF.wf i o hi x hx⟩, hF.ok i o hi, fun w' A' B' o' G' hJ' hsub k t => ⟨G', hJ', ?_, fun x hx => hg x (hsub x hx), fun j v hj x hx => ?_, hk.trans k (fun x _ hx => hx.elim (hg x) (hw i o hi x))⟩⟩
  · have t0 := grp_turn (hF.sub (fun _ h => h.elim)) hi k hF.off hsub t
    have f0 : Fam w' Nob (l.set i o') := t0.ok
    exact ⟨f0.ok, f0.old, f0.wf, fun j v hj x hx => t0.off x ⟨j, v, hj, hx⟩, f0.apart⟩
  · rw [List.getElem?_set] at hj
    by_cases e : i = j
    · subst e
      rw [if_pos rfl] at hj
      split at hj
      · cases hj
        rcases t.W x hx with h1 | h1
        · exact hw _ o hi x h1
        · exact Nat.le_trans hsz h1.1
      · cases hj
    · rw [if_neg e] at hj
      exact hw j v hj x hx
/-- An object of a group steps, and the arenas may be written. -/
theorem Su.turnG (h : Su w0 w b p q A B l) (hi : l[i]? = some (grpOb ls)) (hn : ls[n]? = some u) : ∃ G, J w G b p q A B ∧ (∀ x, u.F x → ¬ G x) ∧ (∀ x, G x → w0.heap.size ≤ x) ∧ (∀ x, u.F x → x < w.heap.size) ∧ (∀ x, u.W x → w0.heap.size ≤ x ∧ u.F x) ∧ u.P w ∧
    ∀ w' A' B' u' G', J w' G' b p q A' B' → (∀ x, G' x → G x) → Keeps (fun x => G x ∨ u.W x) w w' → Turns w w' G' u u' → Su w0 w' b p q A' B' (l.set i (grpOb (ls.set n u'))) := by
  obtain ⟨G, hJ, hoff, hg, hold, hW, hP, back⟩ := h.turn hi
  have hf : Fam w Nob ls := hP
  refine ⟨G, hJ, fun x hx => hoff x ⟨n, u, hn, hx⟩, hg, fun x hx => hf.old n u hn x hx, fun x hx => ⟨(hW x ⟨n, u, hn, hx⟩).1, hf.wf n u hn x hx⟩, hf.ok n u hn, fun w' A' B' u' G' hJ' hsub k t => back w' A' B' _ G' hJ' hsub (k.mono (fun x _ hx => hx.imp id (fun h => ⟨n, u, hn, h⟩))) (grp_turn hf hn k (fun j v hj x hx => hoff x ⟨j, v, hj, hx⟩) hsub t)⟩
/-- An object that stands in a place moves to a group's end. -/
theorem Su.moveG {j : Nat} (h : Su w0 w b p q A B l) (hi : l[i]? = some (grpOb ls)) (hj : l[j]? = some o) (hne : i ≠ j) : Su w0 w b p q A B ((l.set i (grpOb (ls ++ [o]))).set j noOb) := by
  have hsz := h.size
  obtain ⟨G, hJ, hF, hg, hw, hk⟩ := h
  have hf : Fam w Nob ls := hF.ok i _ hi
  have hil : i < l.length := (List.getElem?_eq_some_iff.1 hi).1
  have hgrp : ∀ (m : Nat) v, (ls ++ [o])[m]? = some v → (m < ls.length ∧ ls[m]? = some v) ∨ (m = ls.length ∧ v = o) := fun m v hm => by
    by_cases e : m < ls.length
    · rw [List.getElem?_append_left e] at hm; exact .inl ⟨e, hm⟩
    · rw [List.getElem?_append_right (by omega)] at hm
      rcases hh : m - ls.length with _ | r
      · rw [hh] at hm; simp at hm; exact .inr ⟨by omega, hm.symm⟩
      · rw [hh] at hm; simp at hm
  have hlo : ∀ (m : Nat) v, ls[m]? = some v → (∀ x, v.W x → ¬ o.F x) ∧ ∀ x, o.W x → ¬ v.F x := fun m v hm =>
    ⟨fun x hx hx' => hF.apart i j _ o hi hj hne x ⟨m, v, hm, hx⟩ hx', fun x hx hx' => hF.apart j i o _ hj hi (Ne.symm hne) x hx ⟨m, v, hm, hx'⟩⟩
  have hnew : Fam w Nob (ls ++ [o]) := hf.snoc (hF.ok j o hj) (hF.old j o hj) (fun x _ => id) (hF.wf j o hj) (fun m v hm => ⟨(hlo m v hm).2, (hlo m v hm).1⟩)
  have hcase : ∀ (m : Nat) v, ((l.set i (grpOb (ls ++ [o]))).set j noOb)[m]? = some v → (m = j ∧ v = noOb) ∨ (m ≠ j ∧ m = i ∧ v = grpOb (ls ++ [o])) ∨ (m ≠ j ∧ m ≠ i ∧ l[m]? = some v) := fun m v hm => by
    rw [List.getElem?_set] at hm
    by_cases e : j = m
    · subst e
      rw [if_pos rfl] at hm
      split at hm
      · cases hm; exact .inl ⟨rfl, rfl⟩
      · cases hm
    · rw [if_neg e, List.getElem?_set] at hm
      by_cases e2 : i = m
      · subst e2
        rw [if_pos rfl, if_pos hil] at hm
        cases hm; exact .inr (.inl ⟨Ne.symm e, rfl, rfl⟩)
      · rw [if_neg e2] at hm
        exact .inr (.inr ⟨Ne.symm e, Ne.symm e2, hm⟩)
  have hgF : ∀ x, (grpOb (ls ++ [o])).F x → (grpOb ls).F x ∨ o.F x := by
    rintro x ⟨m, v, hm, hx⟩
    rcases hgrp m v hm with ⟨_, h1⟩ | ⟨_, rfl⟩
    · exact .inl ⟨m, v, h1, hx⟩
    · exact .inr hx
  have hgW : ∀ x, (grpOb (ls ++ [o])).W x → (grpOb ls).W x ∨ o.W x := by
    rintro x ⟨m, v, hm, hx⟩
    rcases hgrp m v hm with ⟨_, h1⟩ | ⟨_, rfl⟩
    · exact .inl ⟨m, v, h1, hx⟩
    · exact .inr hx
  refine ⟨G, hJ, ⟨fun m v hm => ?_, fun m v hm x hx => ?_, fun m v hm x hx => ?_, fun m v hm x hx => ?_, fun m m' v v' hm hm' hmm x hx hx' => ?_⟩, hg, fun m v hm x hx => ?_, hk⟩
  · rcases hcase m v hm with ⟨_, rfl⟩ | ⟨_, _, rfl⟩ | ⟨_, _, h1⟩
    · exact trivial
    · exact hnew
    · exact hF.ok m v h1
  · rcases hcase m v hm with ⟨_, rfl⟩ | ⟨_, _, rfl⟩ | ⟨_, _, h1⟩
    · exact hx.elim
    · exact (hgF x hx).elim (hF.old i _ hi x) (hF.old j o hj x)
    · exact hF.old m v h1 x hx
  · rcases hcase m v hm with ⟨_, rfl⟩ | ⟨_, _, rfl⟩ | ⟨_, _, h1⟩
    · exact hx.elim
    · obtain ⟨r, v, hr, hx⟩ := hx
      exact ⟨r, v, hr, hnew.wf r v hr x hx⟩
    · exact hF.wf m v h1 x hx
  · rcases hcase m v hm with ⟨_, rfl⟩ | ⟨_, _, rfl⟩ | ⟨_, _, h1⟩
    · exact hx.elim
    · exact (hgF x hx).elim (hF.off i _ hi x) (hF.off j o hj x)
    · exact hF.off m v h1 x hx
  · rcases hcase m v hm with ⟨_, rfl⟩ | ⟨g1, rfl, rfl⟩ | ⟨g1, g2, h1⟩
    · exact hx.elim
    · rcases hcase m' v' hm' with ⟨_, rfl⟩ | ⟨_, rfl, rfl⟩ | ⟨k1, k2, h2⟩
      · exact hx'.elim
      · exact hmm rfl
      · rcases hgW x hx with h3 | h3
        · exact hF.apart m m' _ v' hi h2 hmm x h3 hx'
        · exact hF.apart j m' o v' hj h2 (Ne.symm k1) x h3 hx'
    · rcases hcase m' v' hm' with ⟨_, rfl⟩ | ⟨_, rfl, rfl⟩ | ⟨k1, k2, h2⟩
      · exact hx'.elim
      · rcases hgF x hx' with h3 | h3
        · exact hF.apart m m' v _ h1 hi hmm x hx h3
        · exact hF.apart m j v o h1 hj g1 x hx h3
      · exact hF.apart m m' v v' h1 h2 hmm x hx hx'
  · rcases hcase m v hm with ⟨_, rfl⟩ | ⟨_, _, rfl⟩ | ⟨_, _, h1⟩
    · exact hx.elim
    · exact (hgW x hx).elim (hw i _ hi x) (hw j o hj x)
    · exact hw m v h1 x hx
end
end Go.Proofs.YtbhohohgojcapaaGreat
