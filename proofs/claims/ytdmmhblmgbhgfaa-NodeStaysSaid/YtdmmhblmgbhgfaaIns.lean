/- Rows of texts of one's own: a text put in, a text set, and what keeps them. -/
import Derived.Test.YtdmmhblmgbhgfaaInsert
import Derived.Test.YtdmmhblmgbhgfaaClone
namespace Go.Proofs.Ytdmmhblmgbhgfaa
open Go.RowKit

def ins {α : Type} (l : List α) (i : Nat) (x : α) : List α := l.take i ++ x :: l.drop i
theorem ins_get {α : Type} (l : List α) (i : Nat) (x : α) (hi : i ≤ l.length) (j : Nat) : (ins l i x)[j]? = if j < i then l[j]? else if j = i then some x else l[j - 1]? := by
  unfold ins
  have hl : (l.take i).length = i := by rw [List.length_take]; omega
  rw [List.getElem?_append, hl]
  by_cases h1 : j < i
  · rw [if_pos h1, if_pos h1, List.getElem?_take, if_pos h1]
  · rw [if_neg h1, if_neg h1]
    by_cases h2 : j = i
    · subst h2; rw [if_pos rfl, Nat.sub_self]; rfl
    · rw [if_neg h2]
      obtain ⟨m, rfl⟩ : ∃ m, j = i + 1 + m := ⟨j - i - 1, by omega⟩
      rw [show i + 1 + m - i = m + 1 by omega, List.getElem?_cons_succ, List.getElem?_drop]
      congr 1
      omega
theorem ins_len {α : Type} (l : List α) (i : Nat) (x : α) (hi : i ≤ l.length) : (ins l i x).length = l.length + 1 := by
  unfold ins
  rw [List.length_append, List.length_take, List.length_cons, List.length_drop]; omega

section
variable {S S' T M : Nat → Prop} {w w' : World} {v v' u : Value} {l l' : List (List UInt8)} {x : List UInt8} {i : Nat}

theorem OBy.one (h : OBy w S u x) : u.oneCell' = true := by
  obtain ⟨A, c, rfl⟩ := Own.form h; rfl
/-- Kept where the own block of a row of texts that lies elsewhere is written. -/
theorem OBy.keepsR (h : OBy w S u x) (h' : OTx w S' v' l') (k : Keeps (fun b => v'.ownBlock = some b) w w') : OBy w' S u x := by
  obtain ⟨vs, h1, _⟩ := h'; exact Own.keepsO h h1 (by decide) k
theorem OIn.keepsR {li : List Int} (h : OIn w S u li) (h' : OTx w S' v' l') (k : Keeps (fun b => v'.ownBlock = some b) w w') : OIn w' S u li := by
  obtain ⟨vs, h1, _⟩ := h'; exact Own.keepsO h h1 (by decide) k
theorem OTx.keepsR (h : OTx w S v l) (h' : OTx w S' v' l') (hp : Prt v v') (k : Keeps (fun b => v'.ownBlock = some b) w w') : OTx w' S v l := by
  obtain ⟨vs, h1, h2, h3⟩ := h
  have h4 := h1.self.keeps k (fun b _ hb hb' => hp b hb hb')
  refine ⟨vs, h4.mono fun b _ hb => (h1.blk hb).1, h2, fun i u x hu hx => (h3 i u x hu hx).keepsR h' k⟩

theorem otx_ins {vs : List Value} (h2 : vs.length = l.length) (h3 : ∀ (i : Nat) u x, vs[i]? = some u → l[i]? = some x → OBy w S u x) (hu : OBy w S u x) (hi : i ≤ l.length) (ho : Own w S 44 1 v' (l.length + 1) (vs.take i ++ u :: vs.drop i)) : OTx w S v' (ins l i x) := by
  refine ⟨ins vs i u, by rw [ins_len l i x hi]; exact ho, by rw [ins_len l i x hi, ins_len vs i u (by omega)]; omega, fun j a y ha hy => ?_⟩
  rw [ins_get vs i u (by omega)] at ha
  rw [ins_get l i x hi] at hy
  by_cases h1 : j < i
  · rw [if_pos h1] at ha hy; exact h3 j a y ha hy
  · rw [if_neg h1] at ha hy
    by_cases h4 : j = i
    · rw [if_pos h4] at ha hy; cases ha; cases hy; exact hu
    · rw [if_neg h4] at ha hy; exact h3 _ a y ha hy

/-- slices.Insert of one text. -/
theorem insTx {gy : Nat} (h : OTx w S v l) (hu : OBy w S u x) (hy : Blk w gy 44 #[u]) (hg : v.ownBlock ≠ some gy) (hs : Sm 24 24 l.length) (hi : i ≤ l.length) :
    Calls Try.prog 97 #[v, iV i, .slice (some ⟨gy, 0, none⟩) 1 1] w fun e w' => ∃ v', e = .returned v' ∧ OTx w' (fun b => S b ∨ Fresh w w' b) v' (ins l i x) ∧ Keeps (fun b => v.ownBlock = some b) w w' ∧
      (∀ b, v'.ownBlock = some b → v.ownBlock = some b ∨ Fresh w w' b) := by
  have hh := h
  obtain ⟨vs, h1, h2, h3⟩ := h
  refine (insT (ay := ⟨gy, 0, none⟩) (u := u) h1 hy (by rw [hy.cell]; rfl) (Nat.le_refl _) (by decide) (fun b hb e => hg (by rw [hb]; exact congrArg some e.symm)) (fun a ha => ?_) hu.one hs hi).mono ?_
  · obtain ⟨j, hj⟩ := List.getElem?_of_mem ha
    have hjl : j < l.length := by rw [← h2]; exact (List.getElem?_eq_some_iff.1 hj).1
    exact (h3 j a _ hj (List.getElem?_eq_getElem hjl)).one
  · rintro e w' ⟨v', rfl, ho, hk⟩
    refine ⟨v', rfl, otx_ins h2 (fun j a y ha hy => ((h3 j a y ha hy).keepsR hh hk).mono (fun _ _ h => .inl h)) ((hu.keepsR hh hk).mono (fun _ _ h => .inl h)) hi (ho.mono (fun b _ hb => ?_)), hk, fun b hb => (ho.blk hb).1⟩
    rcases hb with hb | hb
    · exact .inl (h1.blk hb).1
    · exact .inr hb

/-- A text of a row set anew. -/
theorem OTx.set_ {A : Option Addr} {c : Nat} (h : OTx w S (.slice A l.length c) l) (hi : i < l.length) (hu : OBy w S u x) : ∃ g o cs, A = some ⟨g, o, none⟩ ∧ Blk w g 44 cs ∧ (∃ a, w.cell? ⟨g, o + i, none⟩ = some a) ∧ OTx (w.setCell ⟨g, o + i, none⟩ u) S (.slice A l.length c) (l.set i x) := by
  obtain ⟨vs, h1, h2, h3⟩ := h
  obtain ⟨hn1, hn2, hat⟩ := h1.at_
  rcases hat with ⟨_, hc0⟩ | ⟨g, o, cur, rfl, hSg, hb, hoc, hcur⟩
  · omega
  have hk : Keeps (fun b => b = g) w (w.setCell ⟨g, o + i, none⟩ u) := Keeps.setCell w (M := fun b => b = g) rfl u
  refine ⟨g, o, cur, rfl, hb, ⟨vs[i]'(by omega), by rw [hb.cell]; exact hcur i _ (List.getElem?_eq_getElem _)⟩, vs.set i u, ?_, by simp [h2], fun j a y ha hy => ?_⟩
  · rw [List.length_set]
    refine ⟨by rw [List.length_set]; omega, _, _, rfl, hn1, hn2, .inr ⟨g, o, _, rfl, hSg, hb.set_ _ _, by rw [Array.size_setIfInBounds]; exact hoc, fun j a ha => ?_⟩⟩
    rw [List.getElem?_set] at ha
    rw [Array.getElem?_setIfInBounds]
    by_cases hij : i = j
    · subst hij
      rw [if_pos rfl] at ha ⊢
      rw [if_pos (by omega)] at ha
      rw [if_pos (by omega)]
      exact ha
    · rw [if_neg hij] at ha
      rw [if_neg (by omega)]
      exact hcur j a ha
  · have hne : (5 : TypeId) ≠ 44 := by decide
    rw [List.getElem?_set] at ha hy
    by_cases hij : i = j
    · subst hij
      rw [if_pos rfl, if_pos (by omega)] at ha hy
      cases ha; cases hy
      exact Own.keepsB hu hb hne hk
    · rw [if_neg hij] at ha hy
      exact Own.keepsB (h3 j a y ha hy) hb hne hk
end

end Go.Proofs.Ytdmmhblmgbhgfaa
