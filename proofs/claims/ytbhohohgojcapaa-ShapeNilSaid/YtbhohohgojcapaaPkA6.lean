import Derived.Test.YtbhohohgojcapaaPkA0
import Derived.Test.YtbhohohgojcapaaPkA5
namespace Go.Proofs.Ytbhohohgojcapaa
open Go.RowKit

/-- A number of 64 bits with a sign. -/
def I64 (n : Int) : Prop := -9223372036854775808 ≤ n ∧ n ≤ 9223372036854775807
def pk (c n : Int) : Int := (if c < 0 then -(c + 1) else c) % n
end Go.Proofs.Ytbhohohgojcapaa

namespace Go.Proofs.Ytbhohohgojcapaa
open Go.RowKit

structure J (w : World) (G : Nat → Prop) (b p q : Nat) (A B : Ar) : Prop where
  blk : Blk w b 48 #[pV p, pV q]
  mem : ∃ M D M' D' : Nat → Prop, ArX w M D p A ∧ (∃ L xs, DocW w M' D' q L xs B) ∧ (∀ x, M x → G x ∧ ¬ M' x ∧ ¬ D' x ∧ x ≠ b) ∧ (∀ x, M' x → G x ∧ ¬ D x ∧ x ≠ b) ∧ (∀ x, D x ∨ D' x → G x)
  low : G b
  new : ∀ x, w.heap.size ≤ x → G x
  smA : ∀ s ∈ A.sl, NdSm 0 s.nd
  smB : ∀ s ∈ B.sl, NdSm 0 s.nd

section
variable {A : Ar} {ix : Int} {n : Nd} {t : Sl}
theorem sm_zero : NdSm 0 Nd.zero := ⟨by simp [Sm, Nd.zero], ⟨by simp [Sm, Nd.zero], fun x hx => by simp [Nd.zero] at hx⟩, ⟨by simp [Sm, Nd.zero], fun x hx => by simp [Nd.zero] at hx⟩, by simp [Sm, Nd.zero]⟩
end

section
variable {N M D M1 D1 M' D' : Nat → Prop} {w w' : World} {G G' : Nat → Prop} {b p q : Nat} {A B A' B' : Ar} {ix : Int} {slots L : Value} {ids : List Nat} {xs : List Value}

theorem J.keeps (h : J w G b p q A B) (k : Keeps N w w') (hn : ∀ x, x < w.heap.size → G x → ¬ N x) : J w' G b p q A B := by
  obtain ⟨hb, ⟨M, D, M', D', ⟨sl, ids, hX⟩, ⟨L, xs, hY⟩, h1, h2, h3⟩, hl, hnew, hsA, hsB⟩ := h
  exact ⟨hb.keeps k (hn b hb.lt hl), ⟨M, D, M', D', ⟨sl, ids, hX.keeps k (fun x hx hm => hn x hx (h1 x hm).1) (fun x hx hm => hn x hx (h3 x (.inl hm)))⟩, ⟨L, xs, hY.keeps k (fun x hx hm => hn x hx (h2 x hm).1) (fun x hx hm => hn x hx (h3 x (.inr hm)))⟩, h1, h2, h3⟩, hl, fun x hx => hnew x (Nat.le_trans k.size hx), hsA, hsB⟩
theorem J.nob (h : J w G b p q A B) (k : Keeps Nob w w') : J w' G b p q A B := h.keeps k (fun _ _ _ => id)
/-- Another say of what the pair may write: it is kept by what lies below the world's end. -/
theorem J.enter (h : J w G b p q A B) (k : Keeps Nob w w') (hg : ∀ x, x < w.heap.size → G x → G' x) (hn : ∀ x, w'.heap.size ≤ x → G' x) : J w' G' b p q A B := by
  have h' := h.nob k
  obtain ⟨hb, ⟨M, D, M', D', ⟨sl, ids, hX⟩, ⟨L, xs, hY⟩, h1, h2, h3⟩, hl, hnew, hsA, hsB⟩ := h
  have kk : ∀ {P : Nat → Prop}, ∀ x, x < w.heap.size → P x → ¬ Nob x := fun _ _ _ => id
  exact ⟨h'.blk, ⟨M, D, M', D', ⟨sl, ids, hX.keeps k kk kk⟩, ⟨L, xs, hY.keeps k kk kk⟩, fun x hx => ⟨hg x (hX.mlt x hx) (h1 x hx).1, (h1 x hx).2⟩, fun x hx => ⟨hg x (hY.mlt x hx) (h2 x hx).1, (h2 x hx).2⟩, fun x hx => hg x (hx.elim (hX.dlt x) (hY.dlt x)) (h3 x hx)⟩, hg b hb.lt hl, hn, hsA, hsB⟩
theorem J.headX (h : J w G b p q A B) : Calls Try.prog 17 #[pV p, iV ix] w fun e w' => ∃ d0 d1 d2, e = .returned (.tuple #[.agg #[d0, d1, d2], iV (opErr A ix)]) ∧ OHd w' (Fresh w w') d0 d1 d2 (opNd A ix) ∧ J w' G b p q A B ∧ Keeps Nob w w' := by
  have h' := h
  obtain ⟨hb, ⟨M, D, M', D', ⟨sl, ids, hX⟩, ⟨L, xs, hY⟩, h1, h2, h3⟩, hl, hnew, hsA, hsB⟩ := h
  refine (Proofs.Ytbhohohgojcapaa.headX hX hsA).mono ?_
  rintro e w' ⟨d0, d1, d2, rfl, ho, k⟩
  exact ⟨d0, d1, d2, rfl, ho, h'.nob k, k⟩

theorem J.bodyX (h : J w G b p q A B) : Calls Try.prog 18 #[pV p, iV ix] w fun e w' => ∃ d0 d1 d2, e = .returned (.tuple #[.agg #[d0, d1, d2], iV (opErr A ix)]) ∧ OBd w' (Fresh w w') d0 d1 d2 (opNd A ix) ∧ J w' G b p q A B ∧ Keeps Nob w w' := by
  have h' := h
  obtain ⟨hb, ⟨M, D, M', D', ⟨sl, ids, hX⟩, ⟨L, xs, hY⟩, h1, h2, h3⟩, hl, hnew, hsA, hsB⟩ := h
  refine (Proofs.Ytbhohohgojcapaa.bodyX hX hsA).mono ?_
  rintro e w' ⟨d0, d1, d2, rfl, ho, k⟩
  exact ⟨d0, d1, d2, rfl, ho, h'.nob k, k⟩

end
end Go.Proofs.Ytbhohohgojcapaa

namespace Go.Proofs.Ytbhohohgojcapaa
open Go.RowKit

/-- A node laid into a slot whose latch is held, and the latch given back. -/
def opLay3 (A : Ar) (ix : Int) (n : Nd) : Ar := (opUnlock (opSetBody (opSetHead A ix n).2 ix n).2 ix true).2
/-- A node laid into a slot, which may be the next one. -/
def opLay (A : Ar) (ix : Int) (n : Nd) : Ar :=
  if (A.sl.length : Int) < ix then (if (opAlloc A).2.1 = 0 then opLay3 (opAlloc A).2.2 ix n else (opAlloc A).2.2)
  else opLay3 (opLock A ix (opWord A ix)).2.2 ix n

section
variable {w : World} {G : Nat → Prop} {b p q : Nat} {A B : Ar} {ix : Int}

end
end Go.Proofs.Ytbhohohgojcapaa

namespace Go.Proofs.Ytbhohohgojcapaa
open Go.RowKit

/-- An arena as it begins. -/
def ar0 (n : Nat) : Ar := ⟨n, [⟨0, Nd.zero⟩], 1⟩

section
variable {w : World}
end
end Go.Proofs.Ytbhohohgojcapaa
