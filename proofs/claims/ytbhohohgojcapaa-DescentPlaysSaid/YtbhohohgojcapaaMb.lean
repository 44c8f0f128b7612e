/- A machine beside the pair of arenas: what a step keeps. -/
import Derived.Test.YtbhohohgojcapaaTold
namespace Go.Proofs.Ytbhohohgojcapaa
open Go.RowKit

/-- All but what came since. -/
def Shr (G : Nat → Prop) (w w' : World) : Nat → Prop := fun x => G x ∧ ¬ Fresh w w' x

/-- A machine at block m, apart from the arenas' blocks G; its texts in S. -/
structure Mb (w : World) (G : Nat → Prop) (t : TypeId) (m a : Nat) (nv : Nx → Value) (S : Nat → Prop) (M : Mc) : Prop where
  mw : MW w t m a nv S M
  off : ¬ G m
  self : ¬ S m
  text : ∀ x, S x → ¬ G x
abbrev MbX (w : World) (G : Nat → Prop) (m p : Nat) (S : Nat → Prop) (M : Mc) : Prop := Mb w G 108 m p (nvX m) S M
abbrev MbR (w : World) (G : Nat → Prop) (m q : Nat) (S : Nat → Prop) (M : Mc) : Prop := Mb w G 133 m q nvR S M

section
variable {w w' : World} {G G' S N : Nat → Prop} {b p q m a : Nat} {A B : Ar} {M : Mc} {t : TypeId} {nv : Nx → Value}
theorem Mb.keeps (h : Mb w G t m a nv S M) (k : Keeps N w w') (hm : ¬ N m) (hs : ∀ x, x < w.heap.size → S x → ¬ N x) (hg : ∀ x, G' x → G x) : Mb w' G' t m a nv S M :=
  ⟨h.mw.keeps k hm hs, fun x => h.off (hg _ x), h.self, fun x hx hg' => h.text x hx (hg _ hg')⟩
theorem shr_sub : ∀ x, Shr G w w' x → G x := fun _ h => h.1
theorem J.shr (h : J w G b p q A B) (k : Keeps N w w') (hN : ∀ x, x < w.heap.size → G x → ¬ N x) : J w' (Shr G w w') b p q A B :=
  h.enterN k hN (fun x hx hg => ⟨hg, fun hf => by have := hf.1; omega⟩) (fun x hx => ⟨h.new x (Nat.le_trans k.size hx), fun hf => by have := hf.2; omega⟩)

/-- A step of the program's machine, the arenas beside it. -/
theorem stepXB (hJ : J w G b p q A B) (h : MbX w G m p S M) (hlow : M.low) : Calls Try.prog 15 #[pV m] w fun e w' => e = .returned (.bool (decide ((stepM A M).nx = .done))) ∧ J w' (Shr G w w') b p q A B ∧ (∃ S', MbX w' (Shr G w w') m p S' (stepM A M) ∧ ∀ x, S' x → S x ∨ Fresh w w' x) ∧ Keeps (fun x => x = m) w w' := by
  refine (stepX_ hJ h.off h.mw h.self hlow).mono ?_
  rintro e w' ⟨rfl, ⟨S', hX, hsub⟩, hk⟩
  refine ⟨rfl, hJ.shr hk (fun x _ hg e => h.off (e ▸ hg)), ⟨S', ⟨hX, fun hg => h.off hg.1, fun hs => ?_, fun x hs hg => ?_⟩, hsub⟩, hk⟩
  · rcases hsub _ hs with h1 | h1
    · exact h.self h1
    · have := h1.1; have := h.mw.next.2.2; omega
  · rcases hsub _ hs with h1 | h1
    · exact h.text _ h1 hg.1
    · exact hg.2 h1
/-- A step of the document's machine. -/
theorem stepRB (hJ : J w G b p q A B) (h : MbR w G m q S M) (hlow : M.low) : Calls Try.prog 22 #[pV m] w fun e w' => e = .returned (.bool (decide ((stepM B M).nx = .done))) ∧ J w' (Shr G w w') b p q A B ∧ (∃ S', MbR w' (Shr G w w') m q S' (stepM B M) ∧ ∀ x, S' x → S x ∨ Fresh w w' x) ∧ Keeps (fun x => x = m) w w' := by
  refine (stepR_ hJ h.off h.mw h.self hlow).mono ?_
  rintro e w' ⟨rfl, ⟨S', hX, hsub⟩, hk⟩
  refine ⟨rfl, hJ.shr hk (fun x _ hg e => h.off (e ▸ hg)), ⟨S', ⟨hX, fun hg => h.off hg.1, fun hs => ?_, fun x hs hg => ?_⟩, hsub⟩, hk⟩
  · rcases hsub _ hs with h1 | h1
    · exact h.self h1
    · have := h1.1; have := h.mw.next.2.2; omega
  · rcases hsub _ hs with h1 | h1
    · exact h.text _ h1 hg.1
    · exact hg.2 h1
/-- A new machine of the program. -/
theorem newXB {v : Value} {key : List UInt8} {level : Int} (hJ : J w G b p q A B) (hv : Byts w S v key) (hz : Sm 0 1 key.length) : Calls Try.prog 12 #[pV p, v, iV level] w fun e w' => ∃ m, e = .returned (pV m) ∧ Fresh w w' m ∧ J w' (Shr G w w') b p q A B ∧ MbX w' (Shr G w w') m p (fun x => Fresh w w' x ∧ x ≠ m) (Mc.new key level) ∧ Keeps Nob w w' := by
  refine (newX hv hz).mono ?_
  rintro e w' ⟨m, rfl, hf, hX, hk⟩
  exact ⟨m, rfl, hf, hJ.shr hk (fun _ _ _ => id), ⟨hX, fun hg => hg.2 hf, fun h => h.2 rfl, fun x hx hg => hg.2 hx.1⟩, hk⟩
theorem newRB {v : Value} {key : List UInt8} {level : Int} (hJ : J w G b p q A B) (hv : Byts w S v key) (hz : Sm 0 1 key.length) : Calls Try.prog 21 #[pV q, v, iV level] w fun e w' => ∃ m, e = .returned (pV m) ∧ Fresh w w' m ∧ J w' (Shr G w w') b p q A B ∧ MbR w' (Shr G w w') m q (fun x => Fresh w w' x ∧ x ≠ m) (Mc.new key level) ∧ Keeps Nob w w' := by
  refine (newR hv hz).mono ?_
  rintro e w' ⟨m, rfl, hf, hX, hk⟩
  exact ⟨m, rfl, hf, hJ.shr hk (fun _ _ _ => id), ⟨hX, fun hg => hg.2 hf, fun h => h.2 rfl, fun x hx hg => hg.2 hx.1⟩, hk⟩
end
end Go.Proofs.Ytbhohohgojcapaa
