/- A row with one more, as such; rows beside a row of texts that is written; a leaf with a key more, as such. No condition. -/
import Derived.Test.YtbhohohgojcapaaGreatThen
import Derived.Test.YtbhohohgojcapaaGreatCopys
import Derived.Test.YtbhohohgojcapaaGreatFind
namespace Go.Proofs.YtbhohohgojcapaaGreat
open Go.RowKit

def ins {α : Type} (l : List α) (i : Nat) (x : α) : List α := l.take i ++ x :: l.drop i
theorem ins_get {α : Type} (l : List α) (i : Nat) (x : α) (hi : i ≤ l.length) (j : Nat) : (ins l i x)[j]? = if j < i then l[j]? else if j = i then some x else l[j - 1]? := by
  unfold ins
  have hl : (l.take i).length = i := by rw [List.length_take]; omega
  rw [List.getElem?_append, hl]
  by_cases h1 : j < i
  · rw [if_pos h1, if_pos h1, List.getElem?_take, if_pos h1]
  · rw [if_neg h1, if_neg h1]
    by_cases h2 : j = i
    · subst h2; rw [if_pos rfl, Nat.sub_self]; rfl
    · rw [if_neg h2]
      obtain ⟨m, rfl⟩ : ∃ m, j = i + 1 + m := ⟨j - i - 1, by omega⟩
      rw [show i + 1 + m - i = m + 1 by omega, List.getElem?_cons_succ, List.getElem?_drop]
      congr 1
      omega
theorem ins_len {α : Type} (l : List α) (i : Nat) (x : α) (hi : i ≤ l.length) : (ins l i x).length = l.length + 1 := by
  unfold ins
  rw [List.length_append, List.length_take, List.length_cons, List.length_drop]; omega

section
variable {S S' T M : Nat → Prop} {w w' : World} {v v' u : Value} {l l' : List (List UInt8)} {x : List UInt8} {i : Nat}

/-- Kept where the own block of a row of texts that lies elsewhere is written. -/
theorem OBy.keepsR (h : OBy w S u x) (h' : OTx w S' v' l') (k : Keeps (fun b => v'.ownBlock = some b) w w') : OBy w' S u x := by
  obtain ⟨vs, h1, _⟩ := h'; exact Own.keepsO h h1 (by decide) k
theorem OIn.keepsR {li : List Int} (h : OIn w S u li) (h' : OTx w S' v' l') (k : Keeps (fun b => v'.ownBlock = some b) w w') : OIn w' S u li := by
  obtain ⟨vs, h1, _⟩ := h'; exact Own.keepsO h h1 (by decide) k
theorem OTx.keepsR (h : OTx w S v l) (h' : OTx w S' v' l') (hp : Prt v v') (k : Keeps (fun b => v'.ownBlock = some b) w w') : OTx w' S v l := by
  obtain ⟨vs, h1, h2, h3⟩ := h
  have h4 := h1.self.keeps k (fun b _ hb hb' => hp b hb hb')
  refine ⟨vs, h4.mono fun b _ hb => (h1.blk hb).1, h2, fun i u x hu hx => (h3 i u x hu hx).keepsR h' k⟩

/-- A text of a row set anew. -/
theorem OTx.set_ {A : Option Addr} {c : Nat} (h : OTx w S (.slice A l.length c) l) (hi : i < l.length) (hu : OBy w S u x) : ∃ g o cs, A = some ⟨g, o, none⟩ ∧ Blk w g 23 cs ∧ (∃ a, w.cell? ⟨g, o + i, none⟩ = some a) ∧ OTx (w.setCell ⟨g, o + i, none⟩ u) S (.slice A l.length c) (l.set i x) := by
  obtain ⟨vs, h1, h2, h3⟩ := h
  obtain ⟨hn1, hn2, hat⟩ := h1.at_
  rcases hat with ⟨_, hc0⟩ | ⟨g, o, cur, rfl, hSg, hb, hoc, hcur⟩
  · omega
  have hk : Keeps (fun b => b = g) w (w.setCell ⟨g, o + i, none⟩ u) := Keeps.setCell w (M := fun b => b = g) rfl u
  refine ⟨g, o, cur, rfl, hb, ⟨vs[i]'(by omega), by rw [hb.cell]; exact hcur i _ (List.getElem?_eq_getElem _)⟩, vs.set i u, ?_, by simp [h2], fun j a y ha hy => ?_⟩
  · rw [List.length_set]
    refine ⟨by rw [List.length_set]; omega, _, _, rfl, hn1, hn2, .inr ⟨g, o, _, rfl, hSg, hb.set_ _ _, by rw [Array.size_setIfInBounds]; exact hoc, fun j a ha => ?_⟩⟩
    rw [List.getElem?_set] at ha
    rw [Array.getElem?_setIfInBounds]
    by_cases hij : i = j
    · subst hij
      rw [if_pos rfl] at ha ⊢
      rw [if_pos (by omega)] at ha
      rw [if_pos (by omega)]
      exact ha
    · rw [if_neg hij] at ha
      rw [if_neg (by omega)]
      exact hcur j a ha
  · have hne : (5 : TypeId) ≠ 23 := by decide
    rw [List.getElem?_set] at ha hy
    by_cases hij : i = j
    · subst hij
      rw [if_pos rfl, if_pos (by omega)] at ha hy
      cases ha; cases hy
      exact Own.keepsB hu hb hne hk
    · rw [if_neg hij] at ha hy
      exact Own.keepsB (h3 j a y ha hy) hb hne hk
end

theorem ONd.keepsB {S : Nat → Prop} {w w' : World} {a b c d e f : Value} {n : Nd} {g : Nat} {t : TypeId} {cs : Array Value} (h : ONd w S a b c d e f n) (hg : Blk w g t cs) (ht : Apart t) (k : Keeps (fun b => b = g) w w') : ONd w' S a b c d e f n :=
  ⟨⟨h.1.lvl, h.1.high.keepsB hg ht k, h.1.right⟩, h.2.keys.keepsB hg ht k, h.2.vals.keepsB hg ht k, h.2.kids.keepsB hg ht k⟩

/-- A block of other things is kept where the own block of a row of texts is written. -/
theorem Blk.keepsR {w w' : World} {g : Nat} {t : TypeId} {cs : Array Value} {S' : Nat → Prop} {v' : Value} {l'} (h : Blk w g t cs) (h' : OTx w S' v' l') (ht : t ≠ 23) (k : Keeps (fun b => v'.ownBlock = some b) w w') : Blk w' g t cs := by
  obtain ⟨vs, h1, _⟩ := h'
  refine h.keeps k (fun hb => ?_)
  obtain ⟨cs', hb'⟩ := h1.ownBlk hb
  exact Blk.ne_ h hb' ht rfl


/-- A leaf in which a key has a value. -/
def wth (n : Nd) (key val : List UInt8) : Nd := if has n.keys key then { n with vals := n.vals.set (below n.keys key) val } else { n with keys := ins n.keys (below n.keys key) key, vals := ins n.vals (min (below n.keys key) n.vals.length) val }
end Go.Proofs.YtbhohohgojcapaaGreat
