/- Rows of which only the form is known, and what writes in them leave. -/
import Derived.Test.YtbhohohgojcapaaOwn
namespace Go.Proofs.Ytbhohohgojcapaa
open Go.RowKit

theorem bV_inc (b : UInt8) : Value.int .u8 (((b.toNat : Int) + 1) % 256) = bV (b + 1) := by
  unfold bV
  rw [UInt8.toNat_add]
  congr 1

/-- n bytes, n numbers, n texts: whichever. -/
def ShB (w : World) (S : Nat → Prop) (v : Value) (n : Nat) : Prop := ∃ l : List UInt8, l.length = n ∧ OBy w S v l
def ShI (w : World) (S : Nat → Prop) (v : Value) (n : Nat) : Prop := ∃ l : List Int, l.length = n ∧ OIn w S v l
def ShT (w : World) (S : Nat → Prop) (v : Value) (n : Nat) : Prop := ∃ vs : List Value, vs.length = n ∧ Own w S 30 1 v n vs ∧ ∀ u ∈ vs, ∃ m, ShB w S u m

section
variable {S T M : Nat → Prop} {w w' : World} {v u : Value} {n g i : Nat} {cs : Array Value} {e : TypeId}

theorem mem_set_or {α : Type} {l : List α} {k : Nat} {a x : α} (h : x ∈ l.set k a) : x = a ∨ x ∈ l := by
  rcases List.mem_or_eq_of_mem_set h with h | h
  · exact .inr h
  · exact .inl h

/-- A write into whatever block: the row's cells stay of the kind P, if what is written is. -/
theorem Own.write {xs : List Value} {P : Value → Prop} (h : Own w S e 1 v n xs) (hx : ∀ x ∈ xs, P x) (hu : P u) : ∃ xs' : List Value, xs'.length = xs.length ∧ (∀ x ∈ xs', P x) ∧ Own (w.setCell ⟨g, i, none⟩ u) S e 1 v n xs' := by
  obtain ⟨hl, A, c, rfl, h1, h2, h⟩ := h
  rcases h with ⟨rfl, rfl⟩ | ⟨g0, o, cur, rfl, hs, hb, ho, hc⟩
  · exact ⟨xs, rfl, hx, hl, _, _, rfl, h1, h2, .inl ⟨rfl, rfl⟩⟩
  · by_cases hg : g0 = g
    · subst hg
      refine ⟨if o ≤ i then xs.set (i - o) u else xs, by split <;> simp, fun x hm => ?_, by split <;> simp [hl], _, _, rfl, h1, h2, .inr ⟨g0, o, _, rfl, hs, hb.set_ i u, by rw [Array.size_setIfInBounds]; exact ho, fun j x hj => ?_⟩⟩
      · split at hm
        · rcases mem_set_or hm with rfl | hm
          · exact hu
          · exact hx x hm
        · exact hx x hm
      · rw [Array.getElem?_setIfInBounds]
        by_cases hij : i = o + j
        · rw [if_pos (by omega), List.getElem?_set, if_pos (by omega)] at hj
          rw [if_pos hij]
          split at hj
          · rw [if_pos (by omega)]; exact hj
          · cases hj
        · rw [if_neg hij]
          split at hj
          · rw [List.getElem?_set, if_neg (by omega)] at hj; exact hc j x hj
          · exact hc j x hj
    · exact ⟨xs, rfl, hx, hl, _, _, rfl, h1, h2, .inr ⟨g0, o, cur, rfl, hs, hb.far hg u, ho, hc⟩⟩

theorem list_bV : ∀ (xs : List Value), (∀ x ∈ xs, ∃ b, x = bV b) → ∃ l : List UInt8, xs = l.map bV
  | [], _ => ⟨[], rfl⟩
  | x :: xs, h => by
    obtain ⟨b, rfl⟩ := h x (List.mem_cons_self ..)
    obtain ⟨l, rfl⟩ := list_bV xs (fun y hy => h y (List.mem_cons_of_mem _ hy))
    exact ⟨b :: l, rfl⟩
theorem list_iV : ∀ (xs : List Value), (∀ x ∈ xs, ∃ b, x = iV b) → ∃ l : List Int, xs = l.map iV
  | [], _ => ⟨[], rfl⟩
  | x :: xs, h => by
    obtain ⟨b, rfl⟩ := h x (List.mem_cons_self ..)
    obtain ⟨l, rfl⟩ := list_iV xs (fun y hy => h y (List.mem_cons_of_mem _ hy))
    exact ⟨b :: l, rfl⟩

theorem OBy.sh {l} (h : OBy w S v l) : ShB w S v l.length := ⟨l, rfl, h⟩
theorem OIn.sh {l} (h : OIn w S v l) : ShI w S v l.length := ⟨l, rfl, h⟩
theorem OTx.sh {l} (h : OTx w S v l) : ShT w S v l.length := by
  obtain ⟨vs, h1, h2, h3⟩ := h
  refine ⟨vs, h2, h1, fun u hu => ?_⟩
  obtain ⟨i, hi⟩ := List.getElem?_of_mem hu
  have : i < l.length := by rw [← h2]; exact (List.getElem?_eq_some_iff.1 hi).1
  exact ⟨_, (h3 i u _ hi (List.getElem?_eq_getElem this)).sh⟩
theorem ShB.nil (w : World) (S : Nat → Prop) : ShB w S (.slice none 0 0) 0 := ⟨[], rfl, OBy.nil _ _⟩
theorem ShB.keeps (h : ShB w S v n) (k : Keeps M w w') (hd : ∀ b, b < w.heap.size → S b → ¬ M b) : ShB w' S v n := by
  obtain ⟨l, e, h⟩ := h; exact ⟨l, e, h.keeps k hd⟩
theorem ShI.keeps (h : ShI w S v n) (k : Keeps M w w') (hd : ∀ b, b < w.heap.size → S b → ¬ M b) : ShI w' S v n := by
  obtain ⟨l, e, h⟩ := h; exact ⟨l, e, h.keeps k hd⟩
theorem ShT.keeps (h : ShT w S v n) (k : Keeps M w w') (hd : ∀ b, b < w.heap.size → S b → ¬ M b) : ShT w' S v n := by
  obtain ⟨l, e, h, h2⟩ := h; exact ⟨l, e, h.keeps k hd, fun u hu => by obtain ⟨m, hm⟩ := h2 u hu; exact ⟨m, hm.keeps k hd⟩⟩
theorem ShB.mono (h : ShB w S v n) (hd : ∀ b, b < w.heap.size → S b → T b) : ShB w T v n := by
  obtain ⟨l, e, h⟩ := h; exact ⟨l, e, h.mono hd⟩
theorem ShB.form (h : ShB w S v n) : ∃ A c, v = .slice A n c ∧ n ≤ c ∧ c ≤ maxLen := by
  obtain ⟨l, rfl, h⟩ := h; exact h.r.form
theorem ShI.form (h : ShI w S v n) : ∃ A c, v = .slice A n c ∧ n ≤ c ∧ c ≤ maxLen := by
  obtain ⟨l, rfl, h⟩ := h; exact h.r.form
theorem ShT.form (h : ShT w S v n) : ∃ A c, v = .slice A n c ∧ n ≤ c ∧ c ≤ maxLen := by
  obtain ⟨vs, rfl, h, _⟩ := h; exact h.r.form

theorem Own.get {A : Option Addr} {c : Nat} {xs : List Value} (h : Own w S e 1 (.slice A n c) n xs) (hi : i < n) : ∃ g o cs x, A = some ⟨g, o, none⟩ ∧ S g ∧ Blk w g e cs ∧ w.cell? ⟨g, o + i, none⟩ = some x ∧ x ∈ xs := by
  obtain ⟨h1, h2, h3⟩ := h.at_
  obtain ⟨hl, _⟩ := h
  rcases h3 with ⟨_, hc⟩ | ⟨g, o, cur, rfl, hs, hb, ho, hc⟩
  · omega
  · have hlt : i < xs.length := by omega
    exact ⟨g, o, cur, xs[i], rfl, hs, hb, by rw [hb.cell]; exact hc i _ (List.getElem?_eq_getElem hlt), List.getElem_mem hlt⟩
theorem ShB.get {A : Option Addr} {c : Nat} (h : ShB w S (.slice A n c) n) (hi : i < n) : ∃ g o cs b, A = some ⟨g, o, none⟩ ∧ S g ∧ Blk w g 5 cs ∧ w.cell? ⟨g, o + i, none⟩ = some (bV b) := by
  obtain ⟨l, rfl, h⟩ := h
  obtain ⟨g, o, cs, x, e, hs, hb, hc, hm⟩ := Own.get h hi
  obtain ⟨b, _, rfl⟩ := List.mem_map.1 hm
  exact ⟨g, o, cs, b, e, hs, hb, hc⟩
theorem ShI.get {A : Option Addr} {c : Nat} (h : ShI w S (.slice A n c) n) (hi : i < n) : ∃ g o cs b, A = some ⟨g, o, none⟩ ∧ S g ∧ Blk w g 3 cs ∧ w.cell? ⟨g, o + i, none⟩ = some (iV b) := by
  obtain ⟨l, rfl, h⟩ := h
  obtain ⟨g, o, cs, x, e, hs, hb, hc, hm⟩ := Own.get h hi
  obtain ⟨b, _, rfl⟩ := List.mem_map.1 hm
  exact ⟨g, o, cs, b, e, hs, hb, hc⟩
theorem ShT.get {A : Option Addr} {c : Nat} (h : ShT w S (.slice A n c) n) (hi : i < n) : ∃ g o cs A' m c', A = some ⟨g, o, none⟩ ∧ S g ∧ Blk w g 30 cs ∧ w.cell? ⟨g, o + i, none⟩ = some (.slice A' m c') ∧ ShB w S (.slice A' m c') m ∧ m ≤ maxLen := by
  obtain ⟨vs, rfl, h, h2⟩ := h
  obtain ⟨g, o, cs, x, e, hs, hb, hc, hm⟩ := Own.get h hi
  obtain ⟨m, hm⟩ := h2 x hm
  obtain ⟨A', c', rfl, hmc, hcm⟩ := hm.form
  exact ⟨g, o, cs, A', m, c', e, hs, hb, hc, hm, by omega⟩

theorem ShB.byte (h : ShB w S v n) (b : UInt8) : ShB (w.setCell ⟨g, i, none⟩ (bV b)) S v n := by
  obtain ⟨l, rfl, h⟩ := h
  obtain ⟨xs', h1, h2, h3⟩ := Own.write (P := fun x => ∃ b, x = bV b) (g := g) (i := i) h (fun x hx => by obtain ⟨b, _, rfl⟩ := List.mem_map.1 hx; exact ⟨b, rfl⟩) ⟨b, rfl⟩
  obtain ⟨l', rfl⟩ := list_bV xs' h2
  rw [List.length_map, List.length_map] at h1
  exact ⟨l', h1, by unfold OBy; rw [h1]; exact h3⟩
theorem ShI.int (h : ShI w S v n) (b : Int) : ShI (w.setCell ⟨g, i, none⟩ (iV b)) S v n := by
  obtain ⟨l, rfl, h⟩ := h
  obtain ⟨xs', h1, h2, h3⟩ := Own.write (P := fun x => ∃ b, x = iV b) (g := g) (i := i) h (fun x hx => by obtain ⟨b, _, rfl⟩ := List.mem_map.1 hx; exact ⟨b, rfl⟩) ⟨b, rfl⟩
  obtain ⟨l', rfl⟩ := list_iV xs' h2
  rw [List.length_map, List.length_map] at h1
  exact ⟨l', h1, by unfold OIn; rw [h1]; exact h3⟩
theorem ShB.far (h : ShB w S v n) (hb : Blk w g e cs) (hne : e ≠ 5) (u : Value) : ShB (w.setCell ⟨g, i, none⟩ u) S v n := by
  obtain ⟨l, rfl, h⟩ := h
  exact ⟨l, rfl, Own.keepsB h hb (Ne.symm hne) (Keeps.setCell w (M := fun b => b = g) rfl u)⟩
theorem ShI.far (h : ShI w S v n) (hb : Blk w g e cs) (hne : e ≠ 3) (u : Value) : ShI (w.setCell ⟨g, i, none⟩ u) S v n := by
  obtain ⟨l, rfl, h⟩ := h
  exact ⟨l, rfl, Own.keepsB h hb (Ne.symm hne) (Keeps.setCell w (M := fun b => b = g) rfl u)⟩
theorem ShT.byte (h : ShT w S v n) (hb : Blk w g 5 cs) (b : UInt8) : ShT (w.setCell ⟨g, i, none⟩ (bV b)) S v n := by
  obtain ⟨vs, hl, h, h2⟩ := h
  exact ⟨vs, hl, Own.keepsB h hb (by decide) (Keeps.setCell w (M := fun b => b = g) rfl _), fun u hu => by obtain ⟨m, hm⟩ := h2 u hu; exact ⟨m, hm.byte b⟩⟩
theorem ShT.int (h : ShT w S v n) (hb : Blk w g 3 cs) (u : Value) : ShT (w.setCell ⟨g, i, none⟩ u) S v n := by
  obtain ⟨vs, hl, h, h2⟩ := h
  exact ⟨vs, hl, Own.keepsB h hb (by decide) (Keeps.setCell w (M := fun b => b = g) rfl _), fun x hx => by obtain ⟨m, hm⟩ := h2 x hx; exact ⟨m, hm.far hb (by decide) u⟩⟩
theorem ShT.nil_ (h : ShT w S v n) (hb : Blk w g 30 cs) : ShT (w.setCell ⟨g, i, none⟩ (.slice none 0 0)) S v n := by
  obtain ⟨vs, hl, h, h2⟩ := h
  obtain ⟨xs', h1, h3, h4⟩ := Own.write (P := fun x => ∃ m, ShB w S x m) (g := g) (i := i) (u := .slice none 0 0) h h2 ⟨0, ShB.nil _ _⟩
  exact ⟨xs', by omega, h4, fun x hx => by obtain ⟨m, hm⟩ := h3 x hx; exact ⟨m, hm.far hb (by decide) _⟩⟩

/-- A node's rows, of whatever content. -/
structure Spo (S : Nat → Prop) (w0 : World) (c1 c3 c4 c5 : Value) (n1 n3 n4 n5 : Nat) (w : World) : Prop where
  high : ShB w S c1 n1
  keys : ShT w S c3 n3
  vals : ShT w S c4 n4
  kids : ShI w S c5 n5
  kept : Keeps S w0 w
section
variable {w0 : World} {c1 c3 c4 c5 : Value} {n1 n3 n4 n5 : Nat}
theorem Spo.of {c0 c2} {n : Nd} (h : ONd w S c0 c1 c2 c3 c4 c5 n) : Spo S w c1 c3 c4 c5 n.high.length n.keys.length n.vals.length n.kids.length w :=
  ⟨h.1.high.sh, h.2.keys.sh, h.2.vals.sh, h.2.kids.sh, Keeps.refl _ _⟩
theorem Spo.alloc (h : Spo S w0 c1 c3 c4 c5 n1 n3 n4 n5 w) (o : Obj) : Spo S w0 c1 c3 c4 c5 n1 n3 n4 n5 (w.alloc o) :=
  ⟨h.1.keeps (Keeps.alloc Nob _ _) (fun _ _ _ => id), h.2.keeps (Keeps.alloc Nob _ _) (fun _ _ _ => id), h.3.keeps (Keeps.alloc Nob _ _) (fun _ _ _ => id), h.4.keeps (Keeps.alloc Nob _ _) (fun _ _ _ => id), h.5.alloc' _⟩
theorem Spo.byte (h : Spo S w0 c1 c3 c4 c5 n1 n3 n4 n5 w) (hs : S g) (hb : Blk w g 5 cs) (b : UInt8) : Spo S w0 c1 c3 c4 c5 n1 n3 n4 n5 (w.setCell ⟨g, i, none⟩ (bV b)) :=
  ⟨h.1.byte b, h.2.byte hb b, h.3.byte hb b, h.4.far hb (by decide) _, h.5.setCell' (fun _ => hs) _⟩
theorem Spo.nil_ (h : Spo S w0 c1 c3 c4 c5 n1 n3 n4 n5 w) (hs : S g) (hb : Blk w g 30 cs) : Spo S w0 c1 c3 c4 c5 n1 n3 n4 n5 (w.setCell ⟨g, i, none⟩ (.slice none 0 0)) :=
  ⟨h.1.far hb (by decide) _, h.2.nil_ hb, h.3.nil_ hb, h.4.far hb (by decide) _, h.5.setCell' (fun _ => hs) _⟩
theorem Spo.int (h : Spo S w0 c1 c3 c4 c5 n1 n3 n4 n5 w) (hs : S g) (hb : Blk w g 3 cs) (b : Int) : Spo S w0 c1 c3 c4 c5 n1 n3 n4 n5 (w.setCell ⟨g, i, none⟩ (iV b)) :=
  ⟨h.1.far hb (by decide) _, h.2.int hb _, h.3.int hb _, h.4.int b, h.5.setCell' (fun _ => hs) _⟩
end
end
end Go.Proofs.Ytbhohohgojcapaa
