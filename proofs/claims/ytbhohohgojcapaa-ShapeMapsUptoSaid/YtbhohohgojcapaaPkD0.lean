import Derived.Test.YtbhohohgojcapaaPkC1
import Derived.Test.YtbhohohgojcapaaPkA8
import Derived.Test.YtbhohohgojcapaaPkB7
namespace Go.Proofs.Ytbhohohgojcapaa
open Go.RowKit

structure May (n : Nd) (a0 a1 a2 : Int) : Prop where
  lvl : 0 ≤ n.lvl ∧ n.lvl ≤ 32
  right : 0 ≤ n.right ∧ n.right ≤ a0
  high : n.high.length = 0 ↔ n.right = 0
  high64 : n.high.length ≤ 64
  rise : Rise n.keys
  key : ∀ k ∈ n.keys, (1 ≤ k.length ∧ k.length ≤ 64) ∧ beyond n.high k = false
  leaf : n.lvl = 0 → n.vals.length = n.keys.length ∧ (n.keys.length : Int) ≤ a1 ∧ n.kids = [] ∧ ∀ v ∈ n.vals, v.length ≤ 256
  inner : n.lvl ≠ 0 → n.kids.Nodup ∧ (∀ k ∈ n.kids, 1 ≤ k ∧ k ≤ a0) ∧ n.vals = [] ∧ n.kids.length = n.keys.length + 1 ∧ (n.kids.length : Int) ≤ a2

theorem keyBad_iff (high x : List UInt8) : keyBad high x = false ↔ (1 ≤ x.length ∧ x.length ≤ 64) ∧ beyond high x = false := by
  unfold keyBad
  rw [Bool.or_eq_false_iff]
  simp only [Bool.not_eq_false', decide_eq_true_eq]
  constructor
  · rintro ⟨h1, h2⟩; exact ⟨by omega, h2⟩
  · rintro ⟨h1, h2⟩; exact ⟨by omega, h2⟩

theorem may_iff {n : Nd} {a0 a1 a2 a3 a4 : Int} (hc : confOk a0 a1 a2 a3 a4 = true) : mayE n a0 a1 a2 a3 a4 = 0 ↔ May n a0 a1 a2 := by
  unfold mayE
  rw [if_pos hc]
  have hh : headOk n a0 = true ↔ (0 ≤ n.lvl ∧ n.lvl ≤ 32) ∧ (0 ≤ n.right ∧ n.right ≤ a0) ∧ (n.high.length = 0 ↔ n.right = 0) ∧ n.high.length ≤ 64 := by
    unfold headOk
    simp only [Bool.and_eq_true, decide_eq_true_eq, beq_iff_eq]
    have e : (((n.high.length : Int) == 0) = (n.right == 0)) ↔ (n.high.length = 0 ↔ n.right = 0) := by
      rw [Bool.eq_iff_iff]; simp
    rw [e]
    constructor
    · rintro ⟨h1, h2, h3, h4⟩; exact ⟨h1, h2, h3, by omega⟩
    · rintro ⟨h1, h2, h3, h4⟩; exact ⟨h1, h2, h3, by omega⟩
  have hk : keysOk n = true ↔ Rise n.keys ∧ ∀ k ∈ n.keys, (1 ≤ k.length ∧ k.length ≤ 64) ∧ beyond n.high k = false := by
    unfold keysOk
    rw [Bool.and_eq_true, rises_iff, Bool.not_eq_true', List.any_eq_false]
    constructor
    · rintro ⟨h1, h2⟩
      exact ⟨h1, fun k hk => (keyBad_iff _ _).1 (by simpa using h2 k hk)⟩
    · rintro ⟨h1, h2⟩
      exact ⟨h1, fun k hk => by rw [(keyBad_iff _ _).2 (h2 k hk)]; simp⟩
  have hf : formOk n a0 a1 a2 = true ↔ (n.lvl = 0 → n.vals.length = n.keys.length ∧ (n.keys.length : Int) ≤ a1 ∧ n.kids = [] ∧ ∀ v ∈ n.vals, v.length ≤ 256) ∧ (n.lvl ≠ 0 → n.kids.Nodup ∧ (∀ k ∈ n.kids, 1 ≤ k ∧ k ≤ a0) ∧ n.vals = [] ∧ n.kids.length = n.keys.length + 1 ∧ (n.kids.length : Int) ≤ a2) := by
    unfold formOk
    by_cases hl : n.lvl = 0
    · rw [if_pos hl]
      unfold leafOk
      simp only [Bool.and_eq_true, decide_eq_true_eq, Bool.not_eq_true', List.any_eq_false, List.length_eq_zero_iff]
      constructor
      · rintro ⟨h1, h2, h3, h4⟩
        refine ⟨fun _ => ⟨h1, h2, h3, fun v hv => ?_⟩, fun h => absurd hl h⟩
        have := h4 v hv
        unfold valBad at this
        simp at this
        omega
      · rintro ⟨h1, _⟩
        obtain ⟨h1, h2, h3, h4⟩ := h1 hl
        refine ⟨h1, h2, h3, fun v hv => ?_⟩
        have := h4 v hv
        unfold valBad
        simp
        omega
    · rw [if_neg hl]
      unfold innerOk kidsFine
      simp only [Bool.and_eq_true, decide_eq_true_eq, List.all_eq_true, List.length_eq_zero_iff]
      constructor
      · rintro ⟨⟨h1, h2⟩, h3, h4, h5⟩
        exact ⟨fun h => absurd h hl, fun _ => ⟨h1, h2, h3, h4, h5⟩⟩
      · rintro ⟨_, h1⟩
        obtain ⟨h1, h2, h3, h4, h5⟩ := h1 hl
        exact ⟨⟨h1, h2⟩, h3, h4, h5⟩
  constructor
  · intro h
    by_cases hb : (headOk n a0 && (keysOk n && formOk n a0 a1 a2)) = true
    · simp only [Bool.and_eq_true] at hb
      obtain ⟨b1, b2, b3⟩ := hb
      obtain ⟨g1, g2, g3, g4⟩ := hh.1 b1
      obtain ⟨g5, g6⟩ := hk.1 b2
      obtain ⟨g7, g8⟩ := hf.1 b3
      exact ⟨g1, g2, g3, g4, g5, g6, g7, g8⟩
    · rw [if_neg hb] at h
      exact absurd h (by decide)
  · intro h
    rw [hh.2 ⟨h.lvl, h.right, h.high, h.high64⟩, hk.2 ⟨h.rise, h.key⟩, hf.2 ⟨h.leaf, h.inner⟩]
    rfl
end Go.Proofs.Ytbhohohgojcapaa

namespace Go.Proofs.Ytbhohohgojcapaa
open Go.RowKit

/-- How many keys are below; is it there? -/
def below (l : List (List UInt8)) (k : List UInt8) : Nat := l.countP (fun x => decide (cmp x k < 0))
end Go.Proofs.Ytbhohohgojcapaa

namespace Go.Proofs.Ytbhohohgojcapaa
open Go.RowKit

end Go.Proofs.Ytbhohohgojcapaa
