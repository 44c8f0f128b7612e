import Derived.Test.YtbhohohgojcapaaPkE2
namespace Go.Proofs.Ytbhohohgojcapaa
open Go.RowKit

section
variable {S T : Nat → Prop} {w : World} {a b : Value} {R : List Ent}
theorem enAt {w : World} {S : Nat → Prop} {A : Option Addr} {n c k : Nat} {l : List En} {x : En} (h : Own w S 98 2 (.slice A n c) n (enCells l)) (hn : l.length = n) (hx : l[k]? = some x) : ∃ g o, A = some ⟨g, o, none⟩ ∧ w.cell? ⟨g, o + k * 2, none⟩ = some x.kv ∧ w.cell? ⟨g, o + k * 2 + 1, none⟩ = some x.vv := by
  have hk : k < l.length := (List.getElem?_eq_some_iff.1 hx).1
  obtain ⟨q1, _, hf⟩ := h.at_
  rcases hf with ⟨_, hc⟩ | ⟨g, o, cur, rfl, _, hb, _, hc⟩
  · omega
  obtain ⟨h1, h2⟩ := enCells_at hx
  exact ⟨g, o, rfl, by rw [hb.cell]; exact hc _ _ h1, by rw [hb.cell]; exact hc _ _ h2⟩
end
end Go.Proofs.Ytbhohohgojcapaa
