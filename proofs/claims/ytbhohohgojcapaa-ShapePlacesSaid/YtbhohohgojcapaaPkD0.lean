import Derived.Test.YtbhohohgojcapaaPkC8
import Derived.Test.YtbhohohgojcapaaPkC9
namespace Go.Proofs.Ytbhohohgojcapaa
open Go.RowKit

section
variable {w w' : World} {l : List Ob} {i j n m size : Nat} {a b : Ob} {e : TypeId} {v v' : Value} {xs ys : List Value} {F M D : Nat → Prop} {q : Nat} {L Lv Lw : Value} {zs : List Value} {A : Ar} {c : Ch}
/-- Objects in another order. -/
theorem Fam.pick {G : Nat → Prop} {l' : List Ob} (h : Fam w G l) (f : Nat → Nat) (hf : ∀ (k : Nat) u, l'[k]? = some u → l[f k]? = some u) (hi : ∀ k k', k < l'.length → k' < l'.length → f k = f k' → k = k') : Fam w G l' :=
  ⟨fun k u hk => h.ok _ u (hf k u hk), fun k u hk => h.old _ u (hf k u hk), fun k u hk => h.wf _ u (hf k u hk), fun k u hk => h.off _ u (hf k u hk), fun k k' u u' hk hk' hne => h.apart _ _ u u' (hf k u hk) (hf k' u' hk') (fun e => hne (hi k k' (List.getElem?_eq_some_iff.1 hk).1 (List.getElem?_eq_some_iff.1 hk').1 e))⟩
theorem Fam.two {G : Nat → Prop} (h : Fam w G l) (hi : l[i]? = some a) (hj : l[j]? = some b) (hij : i ≠ j) : Fam w G [a, b] := by
  have hcase : ∀ (k : Nat) u, [a, b][k]? = some u → (k = 0 ∧ u = a) ∨ (k = 1 ∧ u = b) := fun k u hk => by
    match k, hk with
    | 0, hk => simp at hk; exact .inl ⟨rfl, hk.symm⟩
    | 1, hk => simp at hk; exact .inr ⟨rfl, hk.symm⟩
    | k + 2, hk => simp at hk
  refine ⟨fun k u hk => ?_, fun k u hk => ?_, fun k u hk => ?_, fun k u hk => ?_, fun k k' u u' hk hk' hne => ?_⟩
  · rcases hcase k u hk with ⟨_, rfl⟩ | ⟨_, rfl⟩
    · exact h.ok i _ hi
    · exact h.ok j _ hj
  · rcases hcase k u hk with ⟨_, rfl⟩ | ⟨_, rfl⟩
    · exact h.old i _ hi
    · exact h.old j _ hj
  · rcases hcase k u hk with ⟨_, rfl⟩ | ⟨_, rfl⟩
    · exact h.wf i _ hi
    · exact h.wf j _ hj
  · rcases hcase k u hk with ⟨_, rfl⟩ | ⟨_, rfl⟩
    · exact h.off i _ hi
    · exact h.off j _ hj
  · rcases hcase k u hk with ⟨rfl, rfl⟩ | ⟨rfl, rfl⟩
    · rcases hcase k' u' hk' with ⟨rfl, rfl⟩ | ⟨rfl, rfl⟩
      · exact absurd rfl hne
      · exact h.apart i j _ _ hi hj hij
    · rcases hcase k' u' hk' with ⟨rfl, rfl⟩ | ⟨rfl, rfl⟩
      · exact h.apart j i _ _ hj hi (fun e => hij e.symm)
      · exact absurd rfl hne
/-- What the nodes of a chain are. -/
theorem Chn.nodes {chk : Nd → Int} {a0 a1 a2 level first : Int} {low : List UInt8} (hmay : ∀ n, chk n = 0 → May n a0 a1 a2) (h : Chn A chk level first low c) : ∀ x ∈ c, ∃ s, A.get x.1 = some s ∧ s.nd.kids.length ≤ s.nd.keys.length + 1 := fun x hx => by
  obtain ⟨c', h', _⟩ := h.mem hx
  obtain ⟨s, r, _, hs, hl, hk, _⟩ := h'.at_
  refine ⟨s, hs, ?_⟩
  have hm := hmay _ hk
  by_cases h0 : s.nd.lvl = 0
  · rw [(hm.leaf h0).2.2.1]; simp
  · rw [(hm.inner h0).2.2.2.1]; exact Nat.le_refl _
end
section
variable {A : Ar} {c : Ch}
/-- An unfrozen row's cells. -/
theorem Own.at2 {w : World} {S : Nat → Prop} {e : TypeId} {size n c j : Nat} {A : Option Addr} {xs : List Value} {y : Value} (h : Own w S e size (.slice A n c) n xs) (hn : 0 < n) (hj : xs[j]? = some y) : ∃ g o, A = some ⟨g, o, none⟩ ∧ w.cell? ⟨g, o + j, none⟩ = some y := by
  obtain ⟨_, _, hf⟩ := h.at_
  rcases hf with ⟨_, e⟩ | ⟨g', o', cur, e, _, hb, _, hx⟩
  · omega
  · exact ⟨g', o', e, by rw [hb.cell]; exact hx _ _ hj⟩
end
end Go.Proofs.Ytbhohohgojcapaa
