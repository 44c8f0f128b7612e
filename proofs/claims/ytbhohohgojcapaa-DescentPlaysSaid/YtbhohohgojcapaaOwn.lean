/- Texts, numbers and nodes in memory of one's own: slices that may be written, their reading, their sizes. -/
import Derived.Test.YtbhohohgojcapaaAr
import Derived.Test.YtbhohohgojcapaaFacts
namespace Go.Proofs.Ytbhohohgojcapaa
open Go.RowKit

/-- n elements of so many bytes, and k bytes more, are no more than an append bears. -/
def Sm (k bytes n : Nat) : Prop := n * bytes + k ≤ 140737488355328
theorem Sm.mono {k k' b n : Nat} (h : Sm k b n) (hk : k' ≤ k) : Sm k' b n := by unfold Sm at *; omega
def TxSm (k : Nat) (l : List (List UInt8)) : Prop := Sm k 24 l.length ∧ ∀ x, x ∈ l → Sm k 1 x.length
def NdSm (k : Nat) (n : Nd) : Prop := Sm k 1 n.high.length ∧ TxSm k n.keys ∧ TxSm k n.vals ∧ Sm k 8 n.kids.length
theorem TxSm.mono {k k' : Nat} {l} (h : TxSm k l) (hk : k' ≤ k) : TxSm k' l := ⟨h.1.mono hk, fun x hx => (h.2 x hx).mono hk⟩
theorem NdSm.mono {k k' : Nat} {n} (h : NdSm k n) (hk : k' ≤ k) : NdSm k' n := ⟨h.1.mono hk, h.2.1.mono hk, h.2.2.1.mono hk, h.2.2.2.mono hk⟩

/-- Blocks that are new in w', seen from w. -/
def Fresh (w w' : World) : Nat → Prop := fun b => w.heap.size ≤ b ∧ b < w'.heap.size

def OBy (w : World) (S : Nat → Prop) (v : Value) (l : List UInt8) : Prop := Own w S 5 1 v l.length (l.map bV)
def OIn (w : World) (S : Nat → Prop) (v : Value) (l : List Int) : Prop := Own w S 3 1 v l.length (l.map iV)
def OTx (w : World) (S : Nat → Prop) (v : Value) (l : List (List UInt8)) : Prop :=
  ∃ vs, Own w S 30 1 v l.length vs ∧ vs.length = l.length ∧ ∀ (i : Nat) u x, vs[i]? = some u → l[i]? = some x → OBy w S u x
structure OHd (w : World) (S : Nat → Prop) (c0 c1 c2 : Value) (n : Nd) : Prop where
  lvl : c0 = iV n.lvl
  high : OBy w S c1 n.high
  right : c2 = iV n.right
structure OBd (w : World) (S : Nat → Prop) (c3 c4 c5 : Value) (n : Nd) : Prop where
  keys : OTx w S c3 n.keys
  vals : OTx w S c4 n.vals
  kids : OIn w S c5 n.kids
def ONd (w : World) (S : Nat → Prop) (c0 c1 c2 c3 c4 c5 : Value) (n : Nd) : Prop := OHd w S c0 c1 c2 n ∧ OBd w S c3 c4 c5 n

section
variable {S T M : Nat → Prop} {w w' : World} {v : Value}
theorem OBy.r {l} (h : OBy w S v l) : Byts w S v l := Own.r h
theorem OIn.r {l} (h : OIn w S v l) : Ints w S v l := Own.r h
theorem OTx.r {l} (h : OTx w S v l) : Txts w S v l := by
  obtain ⟨vs, h1, h2, h3⟩ := h
  exact ⟨vs, h1.r, h2, fun i u x hu hx => (h3 i u x hu hx).r⟩
theorem OHd.r {a b c n} (h : OHd w S a b c n) : IsHd w S a b c n := ⟨h.1, h.2.r, h.3⟩
theorem OBd.r {a b c n} (h : OBd w S a b c n) : IsBd w S a b c n := ⟨h.1.r, h.2.r, h.3.r⟩
theorem ONd.r {a b c d e f n} (h : ONd w S a b c d e f n) : IsNd w S a b c d e f n := ⟨h.1.r, h.2.r⟩
theorem OBy.keeps {l} (h : OBy w S v l) (k : Keeps M w w') (hd : ∀ b, b < w.heap.size → S b → ¬ M b) : OBy w' S v l := Own.keeps h k hd
theorem OBy.mono {l} (h : OBy w S v l) (hs : ∀ b, b < w.heap.size → S b → T b) : OBy w T v l := Own.mono h hs
theorem OIn.keeps {l} (h : OIn w S v l) (k : Keeps M w w') (hd : ∀ b, b < w.heap.size → S b → ¬ M b) : OIn w' S v l := Own.keeps h k hd
theorem OIn.mono {l} (h : OIn w S v l) (hs : ∀ b, b < w.heap.size → S b → T b) : OIn w T v l := Own.mono h hs
theorem OTx.keeps {l} (h : OTx w S v l) (k : Keeps M w w') (hd : ∀ b, b < w.heap.size → S b → ¬ M b) : OTx w' S v l := by
  obtain ⟨vs, h1, h2, h3⟩ := h
  exact ⟨vs, h1.keeps k hd, h2, fun i u x hu hx => (h3 i u x hu hx).keeps k hd⟩
theorem OTx.mono {l} (h : OTx w S v l) (hs : ∀ b, b < w.heap.size → S b → T b) : OTx w T v l := by
  obtain ⟨vs, h1, h2, h3⟩ := h
  exact ⟨vs, h1.mono hs, h2, fun i u x hu hx => (h3 i u x hu hx).mono hs⟩
theorem OHd.keeps {a b c n} (h : OHd w S a b c n) (k : Keeps M w w') (hd : ∀ b, b < w.heap.size → S b → ¬ M b) : OHd w' S a b c n := ⟨h.1, h.2.keeps k hd, h.3⟩
theorem OHd.mono {a b c n} (h : OHd w S a b c n) (hs : ∀ b, b < w.heap.size → S b → T b) : OHd w T a b c n := ⟨h.1, h.2.mono hs, h.3⟩
theorem OBd.keeps {a b c n} (h : OBd w S a b c n) (k : Keeps M w w') (hd : ∀ b, b < w.heap.size → S b → ¬ M b) : OBd w' S a b c n := ⟨h.1.keeps k hd, h.2.keeps k hd, h.3.keeps k hd⟩
theorem OBd.mono {a b c n} (h : OBd w S a b c n) (hs : ∀ b, b < w.heap.size → S b → T b) : OBd w T a b c n := ⟨h.1.mono hs, h.2.mono hs, h.3.mono hs⟩
theorem ONd.keeps {a b c d e f n} (h : ONd w S a b c d e f n) (k : Keeps M w w') (hd : ∀ b, b < w.heap.size → S b → ¬ M b) : ONd w' S a b c d e f n := ⟨h.1.keeps k hd, h.2.keeps k hd⟩
theorem ONd.mono {a b c d e f n} (h : ONd w S a b c d e f n) (hs : ∀ b, b < w.heap.size → S b → T b) : ONd w T a b c d e f n := ⟨h.1.mono hs, h.2.mono hs⟩

/-- What is no text, no number and no row of texts may be written. -/
def Apart (t : TypeId) : Prop := t ≠ 5 ∧ t ≠ 30 ∧ t ≠ 3
theorem OBy.keepsB {l} {g : Nat} {t : TypeId} {cs : Array Value} (h : OBy w S v l) (hg : Blk w g t cs) (ht : Apart t) (k : Keeps (fun b => b = g) w w') : OBy w' S v l := Own.keepsB h hg (Ne.symm ht.1) k
theorem OIn.keepsB {l} {g : Nat} {t : TypeId} {cs : Array Value} (h : OIn w S v l) (hg : Blk w g t cs) (ht : Apart t) (k : Keeps (fun b => b = g) w w') : OIn w' S v l := Own.keepsB h hg (Ne.symm ht.2.2) k
theorem OTx.keepsB {l} {g : Nat} {t : TypeId} {cs : Array Value} (h : OTx w S v l) (hg : Blk w g t cs) (ht : Apart t) (k : Keeps (fun b => b = g) w w') : OTx w' S v l := by
  obtain ⟨vs, h1, h2, h3⟩ := h
  exact ⟨vs, Own.keepsB h1 hg (Ne.symm ht.2.1) k, h2, fun i u x hu hx => (h3 i u x hu hx).keepsB hg ht k⟩
theorem OBy.nil (w : World) (S : Nat → Prop) : OBy w S (.slice none 0 0) [] := Own.nil _ _ _ _
theorem OIn.nil (w : World) (S : Nat → Prop) : OIn w S (.slice none 0 0) [] := Own.nil _ _ _ _
theorem OTx.nil (w : World) (S : Nat → Prop) : OTx w S (.slice none 0 0) [] := ⟨[], Own.nil _ _ _ _, rfl, fun i u x h => by simp at h⟩
theorem ONd.zero (w : World) (S : Nat → Prop) : ONd w S (iV 0) (.slice none 0 0) (iV 0) (.slice none 0 0) (.slice none 0 0) (.slice none 0 0) Nd.zero :=
  ⟨⟨rfl, OBy.nil _ _, rfl⟩, OTx.nil _ _, OTx.nil _ _, OIn.nil _ _⟩

theorem OTx.form {l} (h : OTx w S v l) : ∃ A c, v = .slice A l.length c := by
  obtain ⟨vs, h1, _, _⟩ := h; exact Own.form h1
theorem SlR.form {xs} (h : SlR w S v xs) : ∃ A c, v = .slice A xs.length c ∧ xs.length ≤ c ∧ c ≤ maxLen := by
  obtain ⟨A, c, e, h1, h2, _⟩ := h; exact ⟨A, c, e, h1, h2⟩
theorem Byts.form {l} (h : Byts w S v l) : ∃ A c, v = .slice A l.length c ∧ l.length ≤ c ∧ c ≤ maxLen := by
  have := SlR.form h; rwa [List.length_map] at this
theorem Ints.form {l} (h : Ints w S v l) : ∃ A c, v = .slice A l.length c ∧ l.length ≤ c ∧ c ≤ maxLen := by
  have := SlR.form h; rwa [List.length_map] at this
theorem Txts.form {l} (h : Txts w S v l) : ∃ A c, v = .slice A l.length c ∧ l.length ≤ c ∧ c ≤ maxLen := by
  obtain ⟨vs, h1, h2, _⟩ := h; have := SlR.form h1; rwa [h2] at this
/-- The address and the cells of a slice that has an element. -/
theorem SlR.cells {A n c xs} (h : SlR w S (.slice A n c) xs) {i : Nat} (hi : i < xs.length) : ∃ ad, A = some ad ∧ S ad.block ∧ ∀ (i : Nat) x, xs[i]? = some x → w.cell? (ad.add i) = some x := by
  obtain ⟨A', c', e, _, _, h⟩ := h
  injection e with e1 e2 e3
  subst e1
  exact h (by intro e; subst e; simp at hi)
theorem Byts.cells {A n c l} (h : Byts w S (.slice A n c) l) {i : Nat} (hi : i < l.length) : ∃ ad, A = some ad ∧ S ad.block ∧ ∀ (i : Nat) x, l[i]? = some x → w.cell? (ad.add i) = some (bV x) := by
  obtain ⟨ad, e, hs, hc⟩ := SlR.cells h (i := i) (by simpa using hi)
  exact ⟨ad, e, hs, fun i x hx => hc i _ (by rw [List.getElem?_map, hx]; rfl)⟩
theorem Ints.cells {A n c l} (h : Ints w S (.slice A n c) l) {i : Nat} (hi : i < l.length) : ∃ ad, A = some ad ∧ S ad.block ∧ ∀ (i : Nat) x, l[i]? = some x → w.cell? (ad.add i) = some (iV x) := by
  obtain ⟨ad, e, hs, hc⟩ := SlR.cells h (i := i) (by simpa using hi)
  exact ⟨ad, e, hs, fun i x hx => hc i _ (by rw [List.getElem?_map, hx]; rfl)⟩
theorem Txts.cells {A n c l} (h : Txts w S (.slice A n c) l) {i : Nat} (hi : i < l.length) : ∃ ad, A = some ad ∧ S ad.block ∧ ∀ (i : Nat) x, l[i]? = some x → ∃ u, w.cell? (ad.add i) = some u ∧ Byts w S u x := by
  obtain ⟨vs, h1, h2, h3⟩ := h
  obtain ⟨ad, e, hs, hc⟩ := SlR.cells h1 (i := i) (by rw [h2]; exact hi)
  refine ⟨ad, e, hs, fun i x hx => ?_⟩
  have hlt : i < vs.length := by rw [h2]; exact (List.getElem?_eq_some_iff.1 hx).1
  exact ⟨vs[i], hc i _ (List.getElem?_eq_getElem hlt), h3 i _ x (List.getElem?_eq_getElem hlt) hx⟩
end

end Go.Proofs.Ytbhohohgojcapaa
