/- One slot: read of the document's arena; set while its latch is held. -/
import Derived.Test.YtbhohohgojcapaaGreatLen
namespace Go.Proofs.YtbhohohgojcapaaGreat
open Go.RowKit

section
variable {w : World} {G : Nat → Prop} {b p q : Nat} {A B : Ar} {ix : Int} {s : Sl}
/-- A slot of the document's arena, read as it stands there. -/
theorem J.slotY (h : J w G b p q A B) (hg : B.get ix = some s) : ∃ i g o c : Nat, ∃ c0 c1 c2 c3 c4 c5, ∃ D : Nat → Prop, ix = (i : Int) + 1 ∧ i < B.sl.length ∧ w.cell? ⟨q, 1, none⟩ = some (.slice (some ⟨g, o, none⟩) B.sl.length c) ∧
    w.cell? ⟨g, o + i * 7 + 1, none⟩ = some c0 ∧ w.cell? ⟨g, o + i * 7 + 2, none⟩ = some c1 ∧ w.cell? ⟨g, o + i * 7 + 3, none⟩ = some c2 ∧ w.cell? ⟨g, o + i * 7 + 4, none⟩ = some c3 ∧ w.cell? ⟨g, o + i * 7 + 5, none⟩ = some c4 ∧ w.cell? ⟨g, o + i * 7 + 6, none⟩ = some c5 ∧ IsNd w D c0 c1 c2 c3 c4 c5 s.nd := by
  obtain ⟨hb, ⟨M, D, M', D', ⟨sl, ids, hX⟩, ⟨L, xs, hY⟩, h1, h2, h3⟩, hl, hnew, hsA, hsB⟩ := h
  obtain ⟨i, g, o, c, c0, c1, c2, c3, c4, c5, hid, hs, e3, hi, _, rfl, hm, hgb, hc0, hc1, hc2, hc3, hc4, hc5, hnd⟩ := hY.nd_ hg
  exact ⟨i, g, o, c, c0, c1, c2, c3, c4, c5, D', hid, hi, hY.blk.cell 1, hc0, hc1, hc2, hc3, hc4, hc5, hnd⟩
theorem setHead_held {n : Nd} (hs : A.get ix = some s) (ho : s.word % 2 = 1) : opSetHead A ix n = (0, A.put ix ⟨s.word, withHd s.nd n⟩) := by
  unfold opSetHead; rw [hs]; simp [ho]
theorem setBody_held {n : Nd} (hs : A.get ix = some s) (ho : s.word % 2 = 1) : opSetBody A ix n = (0, A.put ix ⟨s.word, withHd n s.nd⟩) := by
  unfold opSetBody; rw [hs]; simp [ho]
end
end Go.Proofs.YtbhohohgojcapaaGreat
