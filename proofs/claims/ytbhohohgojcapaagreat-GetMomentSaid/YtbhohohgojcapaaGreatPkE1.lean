import Derived.Test.YtbhohohgojcapaaGreatPkD9
import Derived.Test.YtbhohohgojcapaaGreatPkE0
import Derived.Test.YtbhohohgojcapaaGreatPkD2
namespace Go.Proofs.YtbhohohgojcapaaGreat
open Go.RowKit
structure Ld where
 F : Nat -> Prop
 Lv : Value
 Lw : Value
 c : Ch
def ldOb (D : Nat -> Prop) (d : Ld) : Ob := lvOb d.F D d.Lv d.Lw d.c
def ldCells (ls : List Ld) : List Value := ls.flatMap (λ d => [d.Lv, d.Lw])
theorem ldCells_snoc (ls : List Ld) (d : Ld) : ldCells (ls ++ [d]) = ldCells ls ++ [d.Lv, d.Lw] := by
 unfold ldCells; rw [List.flatMap_append]; rfl
theorem ldCells_at : ∀ {ls : List Ld} {i : Nat} {d : Ld}, ls[i]? = some d -> (ldCells ls)[i * 2]? = some d.Lv /\ (ldCells ls)[i * 2 + 1]? = some d.Lw
 | [], i, d, h => by simp at h
 | e :: ls, 0, d, h => by simp at h; subst h; exact ⟨rfl, rfl⟩
 | e :: ls, i + 1, d, h => by
  obtain ⟨h1, h2⟩ := ldCells_at (ls := ls) (i := i) (d := d) (by simpa using h)
  have e1 : (i + 1) * 2 = i * 2 + 2 := by omega
  rw [e1]
  exact ⟨h1, h2⟩
def LvsAt (w : World) (F D : Nat -> Prop) (v : Value) (ls : List Ch) : Prop :=
 ∃ lds : List Ld, lds.map (·.c) = ls /\ Own w F 105 2 v lds.length (ldCells lds) /\ ∀ d ∈ lds, (ldOb D d).P w /\ ∀ x, d.F x -> F x
section
variable {w w' : World} {l : List Ob} {i j n m size : Nat} {a b : Ob} {e : TypeId} {v v' : Value} {xs ys : List Value} {F M D : Nat -> Prop} {q : Nat} {L Lv Lw : Value} {zs : List Value} {A : Ar} {c : Ch}
theorem Fam.pick {G : Nat -> Prop} {l' : List Ob} (h : Fam w G l) (f : Nat -> Nat) (hf : ∀ (k : Nat) u, l'[k]? = some u -> l[f k]? = some u) (hi : ∀ k k', k < l'.length -> k' < l'.length -> f k = f k' -> k = k') : Fam w G l' :=
 ⟨λ k u hk => h.ok _ u (hf k u hk), λ k u hk => h.old _ u (hf k u hk), λ k u hk => h.wf _ u (hf k u hk), λ k u hk => h.off _ u (hf k u hk), λ k k' u u' hk hk' hne => h.apart _ _ u u' (hf k u hk) (hf k' u' hk') (λ e => hne (hi k k' (List.getElem?_eq_some_iff.1 hk).1 (List.getElem?_eq_some_iff.1 hk').1 e))⟩
theorem Fam.two {G : Nat -> Prop} (h : Fam w G l) (hi : l[i]? = some a) (hj : l[j]? = some b) (hij : i ≠ j) : Fam w G [a, b] := by
 have hcase : ∀ (k : Nat) u, [a, b][k]? = some u -> (k = 0 /\ u = a) \/ (k = 1 /\ u = b) := λ k u hk => by
  match k, hk with
  | 0, hk => simp at hk; exact .inl ⟨rfl, hk.symm⟩
  | 1, hk => simp at hk; exact .inr ⟨rfl, hk.symm⟩
  | k + 2, hk => simp at hk
 refine ⟨λ k u hk => ?_, λ k u hk => ?_, λ k u hk => ?_, λ k u hk => ?_, λ k k' u u' hk hk' hne => ?_⟩
 ·rcases hcase k u hk with ⟨_, rfl⟩ | ⟨_, rfl⟩
  ·exact h.ok i _ hi
  ·exact h.ok j _ hj
 ·rcases hcase k u hk with ⟨_, rfl⟩ | ⟨_, rfl⟩
  ·exact h.old i _ hi
  ·exact h.old j _ hj
 ·rcases hcase k u hk with ⟨_, rfl⟩ | ⟨_, rfl⟩
  ·exact h.wf i _ hi
  ·exact h.wf j _ hj
 ·rcases hcase k u hk with ⟨_, rfl⟩ | ⟨_, rfl⟩
  ·exact h.off i _ hi
  ·exact h.off j _ hj
 ·rcases hcase k u hk with ⟨rfl, rfl⟩ | ⟨rfl, rfl⟩
  ·rcases hcase k' u' hk' with ⟨rfl, rfl⟩ | ⟨rfl, rfl⟩
   ·exact absurd rfl hne
   ·exact h.apart i j _ _ hi hj hij
  ·rcases hcase k' u' hk' with ⟨rfl, rfl⟩ | ⟨rfl, rfl⟩
   ·exact h.apart j i _ _ hj hi (λ e => hij e.symm)
   ·exact absurd rfl hne
theorem Fam.chn (h : Fam w Nob l) (h0 : l[0]? = some (arOb M D q L zs A)) (h1 : l[1]? = some (rowOb e size v n xs)) (k : Keeps (λ b => v.ownBlock = some b) w w')
  (ho : Own w' (λ b => v.ownBlock = some b \/ Fresh w w' b) e size v' m ys) (hF : ∀ x, F x -> Fresh w w' x /\ v'.ownBlock ≠ some x) (hP : (lvOb F D Lv Lw c).P w') : Fam w' Nob (l.set 1 (rowOb e size v' m ys) ++ [lvOb F D Lv Lw c]) := by
 have hd : ∀ x, D x -> x < w.heap.size := λ x hx => h.old 0 _ h0 x (.inr hx)
 refine (h.app0 h1 k ho).snoc hP (λ x hx => ?_) (λ _ _ h => h) (λ x h => h.elim) (λ j u hj => ⟨λ x h => h.elim, λ x hx hf => ?_⟩)
 ·rcases hx with hx | hx
  ·exact (hF x hx).1.2
  ·exact Nat.lt_of_lt_of_le (hd x hx) k.size
 ·rw [List.getElem?_set] at hj
  by_cases e1 : 1 = j
  ·subst e1
   rw [if_pos rfl] at hj
   split at hj
   ·cases hj
    have hx' : v'.ownBlock = some x := hx
    rcases hf with hf | hf
    ·exact (hF x hf).2 hx'
    ·rcases (ho.blk hx').1 with h2 | h2
     ·exact h.apart 1 0 _ _ h1 h0 (by decide) x h2 (.inr hf)
     ·have := hd x hf; have := h2.1; omega
   ·cases hj
  ·rw [if_neg e1] at hj
   rcases hf with hf | hf
   ·have h2 := h.old j u hj x (h.wf j u hj x hx)
    have := (hF x hf).1.1; omega
   ·by_cases e0 : j = 0
    ·subst e0; rw [h0] at hj; cases hj; exact hx
    ·exact h.apart j 0 u _ hj h0 e0 x hx (.inr hf)
theorem Chn.nodes {chk : Nd -> Int} {a0 a1 a2 level first : Int} {low : List UInt8} (hmay : ∀ n, chk n = 0 -> May n a0 a1 a2) (h : Chn A chk level first low c) : ∀ x ∈ c, ∃ s, A.get x.1 = some s /\ s.nd.kids.length <= s.nd.keys.length + 1 := λ x hx => by
 obtain ⟨c', h', _⟩ := h.mem hx
 obtain ⟨s, r, _, hs, hl, hk, _⟩ := h'.at_
 refine ⟨s, hs, ?_⟩
 have hm := hmay _ hk
 by_cases h0 : s.nd.lvl = 0
 ·rw [(hm.leaf h0).2.2.1]; simp
 ·rw [(hm.inner h0).2.2.2.1]; exact Nat.le_refl _
end
section
variable {A : Ar} {c : Ch}
theorem Own.at2 {w : World} {S : Nat -> Prop} {e : TypeId} {size n c j : Nat} {A : Option Addr} {xs : List Value} {y : Value} (h : Own w S e size (.slice A n c) n xs) (hn : 0 < n) (hj : xs[j]? = some y) : ∃ g o, A = some ⟨g, o, none⟩ /\ w.cell? ⟨g, o + j, none⟩ = some y := by
 obtain ⟨_, _, hf⟩ := h.at_
 rcases hf with ⟨_, e⟩ | ⟨g', o', cur, e, _, hb, _, hx⟩
 ·omega
 ·exact ⟨g', o', e, by rw [hb.cell]; exact hx _ _ hj⟩
end
end Go.Proofs.YtbhohohgojcapaaGreat
