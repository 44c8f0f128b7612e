import Derived.Test.YtbhohohgojcapaaPkA4
namespace Go.Proofs.Ytbhohohgojcapaa
open Go.RowKit

/-- The cells of slot i in a row. -/
def SlotIn (w : World) (D : Nat → Prop) (xs : List Value) (i : Nat) (s : Sl) : Prop :=
  ∃ c0 c1 c2 c3 c4 c5, xs[i * 7]? = some (.int .u64 s.word) ∧ xs[i * 7 + 1]? = some c0 ∧ xs[i * 7 + 2]? = some c1 ∧ xs[i * 7 + 3]? = some c2 ∧ xs[i * 7 + 4]? = some c3 ∧ xs[i * 7 + 5]? = some c4 ∧ xs[i * 7 + 6]? = some c5 ∧ IsNd w D c0 c1 c2 c3 c4 c5 s.nd ∧ U64 s.word
structure DocW (w : World) (M D : Nat → Prop) (q : Nat) (L : Value) (xs : List Value) (A : Ar) : Prop where
  blk : Blk w q 84 #[iV A.nodes, L, iV A.root]
  row : Own w M 81 7 L A.sl.length xs
  slot : ∀ (i : Nat) s, A.sl[i]? = some s → SlotIn w D xs i s
  mp : M q
  apart : ∀ b, M b → ¬ D b
  mlt : ∀ b, M b → b < w.heap.size
  dlt : ∀ b, D b → b < w.heap.size
  bound : A.sl.length ≤ A.nodes ∧ A.nodes ≤ 65536

section
variable {M D D' N : Nat → Prop} {w w' : World} {q i : Nat} {L : Value} {xs ys : List Value} {A : Ar} {s s' : Sl} {ix : Int}
theorem SlotIn.keeps (h : SlotIn w D xs i s) (k : Keeps N w w') (hd : ∀ b, b < w.heap.size → D b → ¬ N b) : SlotIn w' D xs i s := by
  obtain ⟨c0, c1, c2, c3, c4, c5, h0, h1, h2, h3, h4, h5, h6, h7, h8⟩ := h
  exact ⟨c0, c1, c2, c3, c4, c5, h0, h1, h2, h3, h4, h5, h6, h7.keeps k hd, h8⟩
theorem SlotIn.mono (h : SlotIn w D xs i s) (hd : ∀ b, b < w.heap.size → D b → D' b) : SlotIn w D' xs i s := by
  obtain ⟨c0, c1, c2, c3, c4, c5, h0, h1, h2, h3, h4, h5, h6, h7, h8⟩ := h
  exact ⟨c0, c1, c2, c3, c4, c5, h0, h1, h2, h3, h4, h5, h6, h7.mono hd, h8⟩
theorem SlotIn.other (h : SlotIn w D xs i s) (he : ∀ j, i * 7 ≤ j → j < i * 7 + 7 → ys[j]? = xs[j]?) : SlotIn w D ys i s := by
  obtain ⟨c0, c1, c2, c3, c4, c5, h0, h1, h2, h3, h4, h5, h6, h7, h8⟩ := h
  exact ⟨c0, c1, c2, c3, c4, c5, by rw [he _ (by omega) (by omega)]; exact h0, by rw [he _ (by omega) (by omega)]; exact h1, by rw [he _ (by omega) (by omega)]; exact h2, by rw [he _ (by omega) (by omega)]; exact h3, by rw [he _ (by omega) (by omega)]; exact h4, by rw [he _ (by omega) (by omega)]; exact h5, by rw [he _ (by omega) (by omega)]; exact h6, h7, h8⟩
theorem DocW.keeps (h : DocW w M D q L xs A) (k : Keeps N w w') (hm : ∀ b, b < w.heap.size → M b → ¬ N b) (hd : ∀ b, b < w.heap.size → D b → ¬ N b) : DocW w' M D q L xs A :=
  ⟨h.blk.keeps k (hm q h.blk.lt h.mp), h.row.keeps k hm, fun i s hs => (h.slot i s hs).keeps k hd, h.mp, h.apart, fun b hb => Nat.lt_of_lt_of_le (h.mlt b hb) k.size, fun b hb => Nat.lt_of_lt_of_le (h.dlt b hb) k.size, h.bound⟩
theorem DocW.monoD (h : DocW w M D q L xs A) (hd : ∀ b, D b → D' b) (ha : ∀ b, M b → ¬ D' b) (hl : ∀ b, D' b → b < w.heap.size) : DocW w M D' q L xs A :=
  ⟨h.blk, h.row, fun i s hs => (h.slot i s hs).mono (fun b _ hb => hd b hb), h.mp, ha, h.mlt, hl, h.bound⟩
theorem DocW.grown (h : DocW w M D q L xs A) (k : Keeps Nob w w') : DocW w' M (DF D w w') q L xs A :=
  (h.keeps k (fun _ _ _ => id) (fun _ _ _ => id)).monoD (fun _ hb => .inl hb) (fun b hm hd => by
    rcases hd with hd | hd
    · exact h.apart b hm hd
    · have := h.mlt b hm; have := hd.1; omega) (fun b hd => by
    rcases hd with hd | hd
    · exact Nat.lt_of_lt_of_le (h.dlt b hd) k.size
    · exact hd.2)
theorem DocW.form (h : DocW w M D q L xs A) (hp : 0 < A.sl.length) : ∃ g o c, L = .slice (some ⟨g, o, none⟩) A.sl.length c ∧ M g ∧ (∃ cur, Blk w g 81 cur) ∧ ∀ j x, xs[j]? = some x → w.cell? ⟨g, o + j, none⟩ = some x := by
  obtain ⟨hl, a, c, rfl, h1, h2, h3⟩ := h.row
  rcases h3 with ⟨rfl, rfl⟩ | ⟨g, o, cur, rfl, hm, hb, _, hc⟩
  · omega
  · exact ⟨g, o, c, rfl, hm, ⟨cur, hb⟩, fun j x hj => by rw [hb.cell]; exact hc j x hj⟩
theorem DocW.rowNe (h : DocW w M D q L xs A) {g : Nat} {cur : Array Value} (hb : Blk w g 81 cur) : q ≠ g := fun e => by subst e; exact Blk.ne_ h.blk hb (by decide) rfl
/-- One slot has been written. -/
theorem DocW.put (h : DocW w M D q L xs A) {g : Nat} {cur : Array Value} (hg : Blk w g 81 cur) (hm : M g) (hs : A.sl[i]? = some s) (k : Keeps (fun x => x = g) w w') (ho : Own w' M 81 7 L A.sl.length ys)
    (he : ∀ j, j < i * 7 ∨ i * 7 + 7 ≤ j → ys[j]? = xs[j]?) (hn : SlotIn w' D ys i s') : DocW w' M D q L ys { A with sl := A.sl.set i s' } := by
  refine ⟨h.blk.keeps k (h.rowNe hg), by simpa using ho, fun j t ht => ?_, h.mp, h.apart, fun x hx => Nat.lt_of_lt_of_le (h.mlt x hx) k.size, fun x hx => Nat.lt_of_lt_of_le (h.dlt x hx) k.size, by simp; exact h.bound⟩
  by_cases hij : j = i
  · subst hij
    have hlt : j < A.sl.length := (List.getElem?_eq_some_iff.1 hs).1
    simp [hlt] at ht
    subst ht
    exact hn
  · have ht' : A.sl[j]? = some t := by rw [List.getElem?_set] at ht; rwa [if_neg (Ne.symm hij)] at ht
    refine ((h.slot j t ht').keeps k (fun x _ hd e => by subst e; exact h.apart _ hm hd)).other (fun z h1 h2 => he z ?_)
    omega
/-- What a walk asks of a slot that is there. -/
theorem DocW.at_ (h : DocW w M D q L xs A) (hg : A.get ix = some s) : ∃ i g o c : Nat, ix = (i : Int) + 1 ∧ A.sl[i]? = some s ∧ (ix - 1).toNat = i ∧ i < A.sl.length ∧ A.sl.length ≤ 65536 ∧ L = .slice (some ⟨g, o, none⟩) A.sl.length c ∧ M g ∧ (∃ cur, Blk w g 81 cur) ∧ w.cell? ⟨g, o + i * 7, none⟩ = some (.int .u64 s.word) ∧ w.frozen? ⟨g, o + i * 7, none⟩ = false ∧ U64 s.word := by
  obtain ⟨i, h1, h2, h3⟩ := get_some hg
  have hlt : i < A.sl.length := (List.getElem?_eq_some_iff.1 h2).1
  obtain ⟨g, o, c, e, hm, ⟨cur, hb⟩, hc⟩ := h.form (by omega)
  obtain ⟨c0, c1, c2, c3, c4, c5, g0, _, _, _, _, _, _, _, g8⟩ := h.slot i s h2
  have := h.bound
  exact ⟨i, g, o, c, h1, h2, h3, hlt, by omega, e, hm, ⟨cur, hb⟩, hc _ _ g0, hb.frozen _, g8⟩
end
end Go.Proofs.Ytbhohohgojcapaa

namespace Go.Proofs.Ytbhohohgojcapaa
open Go.RowKit

section
variable {M D : Nat → Prop} {w : World} {q : Nat} {L : Value} {xs : List Value} {A : Ar} {ix : Int}

end
end Go.Proofs.Ytbhohohgojcapaa

namespace Go.Proofs.Ytbhohohgojcapaa
open Go.RowKit

section
variable {M D : Nat → Prop} {w : World} {q : Nat} {L : Value} {xs : List Value} {A : Ar} {ix : Int}

end
end Go.Proofs.Ytbhohohgojcapaa

namespace Go.Proofs.Ytbhohohgojcapaa
open Go.RowKit

section
variable {M D : Nat → Prop} {w : World} {q : Nat} {L : Value} {xs : List Value} {A : Ar} {ix : Int} {s : Sl}

end
end Go.Proofs.Ytbhohohgojcapaa

namespace Go.Proofs.Ytbhohohgojcapaa
open Go.RowKit

section
variable {M D : Nat → Prop} {w : World} {q : Nat} {L : Value} {xs : List Value} {A : Ar} {ix : Int} {s : Sl}

end
end Go.Proofs.Ytbhohohgojcapaa

namespace Go.Proofs.Ytbhohohgojcapaa
open Go.RowKit

section
variable {M D : Nat → Prop} {w : World} {q : Nat} {L : Value} {xs : List Value} {A : Ar} {ix : Int}

end
end Go.Proofs.Ytbhohohgojcapaa
