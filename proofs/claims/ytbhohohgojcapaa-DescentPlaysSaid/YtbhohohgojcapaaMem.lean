/- Words for memory that the walks of this seat share: a block known whole, a world that keeps all but some blocks, a slice that reads as a list, a slice whose cells the call may write; appending to such a slice. No condition. -/
import Derived.WalkKit
import Derived.WalkSpells
import Derived.WalkLawsBesides
import Derived.Lib.Hide
import Derived.Deep.AppendSrc
import Derived.Deep.Upon
import Derived.Deep.Draws
namespace Go.Proofs.Ytbhohohgojcapaa
open Go.RowKit

/-- Block g is just these cells, none frozen. -/
def Blk (w : World) (g : Nat) (t : TypeId) (cs : Array Value) : Prop := w.heap[g]? = some (.cells cs t (0, 0))

/-- w' is w, but for the blocks in M and for new blocks. -/
structure Keeps (M : Nat → Prop) (w w' : World) : Prop where
  os : w'.os = w.os
  tape : w'.tape = w.tape
  output : w'.output = w.output
  size : w.heap.size ≤ w'.heap.size
  block : ∀ k, k < w.heap.size → ¬ M k → w'.heap[k]? = w.heap[k]?

/-- No block. -/
def Nob : Nat → Prop := fun _ => False
/-- The blocks from n on. -/
def From (n : Nat) : Nat → Prop := fun b => n ≤ b

section
variable {M M' : Nat → Prop} {w w' w'' : World} {g : Nat} {t : TypeId} {cs : Array Value}

theorem Keeps.refl (M : Nat → Prop) (w : World) : Keeps M w w := ⟨rfl, rfl, rfl, Nat.le_refl _, fun _ _ _ => rfl⟩
theorem Keeps.trans (h : Keeps M w w') (k : Keeps M' w' w'') (hm : ∀ b, b < w.heap.size → M' b → M b) : Keeps M w w'' :=
  ⟨k.os.trans h.os, k.tape.trans h.tape, k.output.trans h.output, Nat.le_trans h.size k.size, fun b hb hn => (k.block b (Nat.lt_of_lt_of_le hb h.size) (fun x => hn (hm b hb x))).trans (h.block b hb hn)⟩
theorem Keeps.mono (h : Keeps M w w') (hm : ∀ b, b < w.heap.size → M b → M' b) : Keeps M' w w' := ⟨h.os, h.tape, h.output, h.size, fun b hb hn => h.block b hb (fun x => hn (hm b hb x))⟩
theorem Keeps.alloc (M : Nat → Prop) (w : World) (o : Obj) : Keeps M w (w.alloc o) := ⟨rfl, rfl, rfl, by simp, fun k hk _ => Below.heap_alloc _ _ _ hk⟩
theorem Keeps.drew (M : Nat → Prop) (w : World) : Keeps M w w.drew := ⟨rfl, rfl, rfl, Nat.le_refl _, fun _ _ _ => rfl⟩
theorem Keeps.drewN (M : Nat → Prop) (w : World) (n : Nat) : Keeps M w (w.drewN n) := ⟨rfl, rfl, rfl, Nat.le_refl _, fun _ _ _ => rfl⟩
theorem Keeps.setCell (w : World) {p : Addr} (hp : M p.block) (u : Value) : Keeps M w (w.setCell p u) :=
  ⟨rfl, rfl, rfl, by simp, fun k _ hn => Below.heap_setCell _ _ _ _ (fun e => hn (by rw [e]; exact hp))⟩
theorem Keeps.alloc' (h : Keeps M w w') (o : Obj) : Keeps M w (w'.alloc o) := h.trans (Keeps.alloc Nob _ o) (fun _ _ h => h.elim)
theorem Keeps.drew' (h : Keeps M w w') : Keeps M w w'.drew := h.trans (Keeps.drew Nob _) (fun _ _ h => h.elim)
theorem Keeps.drewN' (h : Keeps M w w') (n : Nat) : Keeps M w (w'.drewN n) := h.trans (Keeps.drewN Nob _ n) (fun _ _ h => h.elim)
theorem Keeps.setCell' (h : Keeps M w w') {p : Addr} (hp : p.block < w.heap.size → M p.block) (u : Value) : Keeps M w (w'.setCell p u) :=
  h.trans (M' := fun b => b = p.block) (Keeps.setCell _ (M := fun b => b = p.block) rfl u) (fun b hb e => by subst e; exact hp hb)
theorem Keeps.grown {row : Option Nat} (h : w.grownBy w' row) (hr : ∀ k, row = some k → M k) : Keeps M w w' :=
  ⟨h.os, h.tape, h.output, h.size, fun k hk hn => h.block k hk (fun e => hn (hr k e.symm))⟩
theorem Keeps.below {B : Nat} (h : Keeps M w w') (hB : B ≤ w.heap.size) (hm : ∀ k, k < B → ¬ M k) : Below B w w' :=
  ⟨h.os, h.tape, h.output, h.size, fun k hk => h.block k (Nat.lt_of_lt_of_le hk hB) (hm k hk)⟩
theorem Keeps.ofBelow {B : Nat} (h : Below B w w') : Keeps (From B) w w' := ⟨h.os, h.tape, h.output, h.size, fun k _ hn => h.block k (Nat.lt_of_not_le hn)⟩
theorem Keeps.cell (h : Keeps M w w') {p : Addr} {v : Value} (hc : w.cell? p = some v) (hn : ¬ M p.block) : w'.cell? p = some v :=
  (World.cell?_of_block (w := w) (h.block p.block (World.block_lt_of_cell? _ _ hc) hn)).trans hc

theorem Blk.lt (h : Blk w g t cs) : g < w.heap.size := by
  rcases Nat.lt_or_ge g w.heap.size with hlt | hge
  · exact hlt
  · unfold Blk at h; rw [Array.getElem?_eq_none hge] at h; cases h
theorem Blk.cell (h : Blk w g t cs) (i : Nat) : w.cell? ⟨g, i, none⟩ = cs[i]? := cell_of_row w g i cs t (0, 0) h
theorem Blk.frozen (h : Blk w g t cs) (i : Nat) : w.frozen? ⟨g, i, none⟩ = false := by unfold Blk at h; simp [World.frozen?, h]
theorem Blk.new (w : World) (t : TypeId) (cs : Array Value) : Blk (w.alloc (.cells cs t)) w.heap.size t cs := heap_alloc_new w _
theorem Blk.new' {w : World} {n : Nat} (hn : n = w.heap.size) (t : TypeId) (cs : Array Value) : Blk (w.alloc (.cells cs t)) n t cs := by subst hn; exact Blk.new w t cs
theorem Blk.keeps (h : Blk w g t cs) (k : Keeps M w w') (hn : ¬ M g) : Blk w' g t cs := (k.block g h.lt hn).trans h
theorem Blk.alloc (h : Blk w g t cs) (o : Obj) : Blk (w.alloc o) g t cs := h.keeps (Keeps.alloc Nob w o) id
theorem Blk.drew (h : Blk w g t cs) : Blk w.drew g t cs := h
theorem Blk.drewN (h : Blk w g t cs) (n : Nat) : Blk (w.drewN n) g t cs := h
theorem Blk.set_ (h : Blk w g t cs) (i : Nat) (u : Value) : Blk (w.setCell ⟨g, i, none⟩ u) g t (cs.setIfInBounds i u) := by
  unfold Blk at h ⊢
  simp [World.setCell, Array.getElem?_modify, h]
theorem Blk.far (h : Blk w g t cs) {p : Addr} (hp : g ≠ p.block) (u : Value) : Blk (w.setCell p u) g t cs := (Below.heap_setCell w p u g hp).trans h
theorem Blk.ne_ {g' : Nat} {t' : TypeId} {cs' : Array Value} (h : Blk w g t cs) (h' : Blk w g' t' cs') (hne : t ≠ t') : g ≠ g' := by
  rintro rfl
  unfold Blk at h h'
  rw [h] at h'
  injection h' with h'
  injection h' with _ ht
  exact hne ht
theorem Blk.inj {t' : TypeId} {cs' : Array Value} (h : Blk w g t cs) (h' : Blk w g t' cs') : t = t' ∧ cs = cs' := by
  unfold Blk at h h'
  rw [h] at h'
  injection h' with h'
  injection h' with h1 h2
  exact ⟨h2, h1⟩
end

/-- The slice v reads as the cells xs (one a element), which lie in blocks of S. -/
def SlR (w : World) (S : Nat → Prop) (v : Value) (xs : List Value) : Prop :=
  ∃ A c, v = .slice A xs.length c ∧ xs.length ≤ c ∧ c ≤ maxLen ∧ (xs ≠ [] → ∃ ad, A = some ad ∧ S ad.block ∧ ∀ i x, xs[i]? = some x → w.cell? (ad.add i) = some x)

theorem blk_add (a : Addr) (n : Nat) : (a.add n).block = a.block := by unfold Addr.add; split <;> rfl
theorem add_add_ (a : Addr) (i j : Nat) : (a.add i).add j = a.add (i + j) := by
  unfold Addr.add
  by_cases hi : i = 0 <;> by_cases hj : j = 0 <;> simp [hi, hj, Nat.add_assoc]
theorem add_lit (b o n : Nat) : (⟨b, o, none⟩ : Addr).add n = ⟨b, o + n, none⟩ := by unfold Addr.add; split <;> simp_all

section
variable {S T M : Nat → Prop} {w w' : World} {v : Value} {xs ys : List Value}

theorem SlR.keeps (h : SlR w S v xs) (k : Keeps M w w') (hd : ∀ b, b < w.heap.size → S b → ¬ M b) : SlR w' S v xs := by
  obtain ⟨A, c, rfl, h1, h2, h⟩ := h
  refine ⟨A, c, rfl, h1, h2, fun hl => ?_⟩
  obtain ⟨ad, rfl, hs, hc⟩ := h hl
  refine ⟨ad, rfl, hs, fun i x hi => k.cell (hc i x hi) ?_⟩
  have := World.block_lt_of_cell? _ _ (hc i x hi)
  rw [blk_add] at this ⊢
  exact hd _ this hs
theorem SlR.mono (h : SlR w S v xs) (hs : ∀ b, b < w.heap.size → S b → T b) : SlR w T v xs := by
  obtain ⟨A, c, rfl, h1, h2, h⟩ := h
  refine ⟨A, c, rfl, h1, h2, fun hl => ?_⟩
  obtain ⟨ad, rfl, h3, hc⟩ := h hl
  obtain ⟨x, hx⟩ : ∃ x, xs[0]? = some x := by cases xs with | nil => exact absurd rfl hl | cons x l => exact ⟨x, rfl⟩
  have := World.block_lt_of_cell? _ _ (hc 0 x hx)
  rw [blk_add] at this
  exact ⟨ad, rfl, hs _ this h3, hc⟩
theorem SlR.nil (w : World) (S : Nat → Prop) (A : Option Addr) (c : Nat) (hc : c ≤ maxLen) : SlR w S (.slice A 0 c) [] := ⟨A, c, rfl, Nat.zero_le _, hc, fun h => absurd rfl h⟩
/-- The head of a slice. -/
theorem SlR.take {A : Option Addr} {n c : Nat} (h : SlR w S (.slice A n c) xs) {k c' : Nat} (hk : k ≤ n) (hc : k ≤ c') (hm : c' ≤ c) : SlR w S (.slice A k c') (xs.take k) := by
  obtain ⟨A', c'', e, h1, h2, h⟩ := h
  injection e with e1 e2 e3
  subst e1 e2 e3
  have hl : (xs.take k).length = k := by rw [List.length_take]; omega
  refine ⟨A, c', by rw [hl], by omega, by omega, fun hne => ?_⟩
  obtain ⟨ad, rfl, h3, hcell⟩ := h (by intro e; subst e; simp at hne)
  refine ⟨ad, rfl, h3, fun i x hi => hcell i x ?_⟩
  rw [List.getElem?_take] at hi
  split at hi
  · exact hi
  · cases hi
end

/-- The slice v reads as n elements of 'size' cells each, all in all the cells xs, in a block of S. -/
def SlG (w : World) (S : Nat → Prop) (size : Nat) (v : Value) (n : Nat) (xs : List Value) : Prop :=
  xs.length = n * size ∧ ∃ A c, v = .slice A n c ∧ n ≤ c ∧ c ≤ maxLen ∧ (xs ≠ [] → ∃ ad, A = some ad ∧ S ad.block ∧ ∀ i x, xs[i]? = some x → w.cell? (ad.add i) = some x)

/-- The slice v of n elements (type e, 'size' cells each) reads as the cells xs, which lie in an unfrozen block of e's, of S: nil, or somewhere in it; the cells up to the capacity are there. -/
def Own (w : World) (S : Nat → Prop) (e : TypeId) (size : Nat) (v : Value) (n : Nat) (xs : List Value) : Prop :=
  xs.length = n * size ∧ ∃ A c, v = .slice A n c ∧ n ≤ c ∧ c ≤ maxLen ∧ ((A = none ∧ c = 0) ∨ ∃ g o cur, A = some ⟨g, o, none⟩ ∧ S g ∧ Blk w g e cur ∧ o + c * size ≤ cur.size ∧ ∀ i x, xs[i]? = some x → cur[o + i]? = some x)

theorem maxLen_eq : maxLen = 9223372036854775807 := rfl

section
variable {S T M : Nat → Prop} {w w' : World} {v : Value} {xs ys : List Value} {e : TypeId} {size n : Nat}

theorem SlR.g (h : SlR w S v xs) : SlG w S 1 v xs.length xs := by
  obtain ⟨A, c, rfl, h⟩ := h
  exact ⟨by simp, A, c, rfl, h⟩
theorem SlG.r (h : SlG w S 1 v n xs) : SlR w S v xs := by
  obtain ⟨hl, A, c, rfl, h⟩ := h
  obtain rfl : xs.length = n := by omega
  exact ⟨A, c, rfl, h⟩
theorem SlG.keeps (h : SlG w S size v n xs) (k : Keeps M w w') (hd : ∀ b, b < w.heap.size → S b → ¬ M b) : SlG w' S size v n xs := by
  obtain ⟨hx, A, c, rfl, h1, h2, h⟩ := h
  refine ⟨hx, A, c, rfl, h1, h2, fun hl => ?_⟩
  obtain ⟨ad, rfl, hs, hc⟩ := h hl
  refine ⟨ad, rfl, hs, fun i x hi => k.cell (hc i x hi) ?_⟩
  have := World.block_lt_of_cell? _ _ (hc i x hi)
  rw [blk_add] at this ⊢
  exact hd _ this hs
theorem SlG.mono (h : SlG w S size v n xs) (hs : ∀ b, b < w.heap.size → S b → T b) : SlG w T size v n xs := by
  obtain ⟨hx, A, c, rfl, h1, h2, h⟩ := h
  refine ⟨hx, A, c, rfl, h1, h2, fun hl => ?_⟩
  obtain ⟨ad, rfl, h3, hc⟩ := h hl
  obtain ⟨x, hx⟩ : ∃ x, xs[0]? = some x := by cases xs with | nil => exact absurd rfl hl | cons x l => exact ⟨x, rfl⟩
  have := World.block_lt_of_cell? _ _ (hc 0 x hx)
  rw [blk_add] at this
  exact ⟨ad, rfl, hs _ this h3, hc⟩
theorem SlG.form (h : SlG w S size v n xs) : ∃ A c, v = .slice A n c := by
  obtain ⟨_, A, c, e, _⟩ := h; exact ⟨A, c, e⟩
/-- The address and the cells of a slice that has an element. -/
theorem SlG.cells {A : Option Addr} {c : Nat} (h : SlG w S size (.slice A n c) n xs) (hne : xs ≠ []) : ∃ ad, A = some ad ∧ S ad.block ∧ ∀ (i : Nat) x, xs[i]? = some x → w.cell? (ad.add i) = some x := by
  obtain ⟨_, A', c', e, _, _, h⟩ := h
  injection e with e1 _ _
  subst e1
  exact h hne
/-- Where an owned row lies, and its cells. -/
theorem Own.at_ {A : Option Addr} {c : Nat} (h : Own w S e size (.slice A n c) n xs) : n ≤ c ∧ c ≤ maxLen ∧ ((A = none ∧ c = 0) ∨ ∃ g o cur, A = some ⟨g, o, none⟩ ∧ S g ∧ Blk w g e cur ∧ o + c * size ≤ cur.size ∧ ∀ i x, xs[i]? = some x → cur[o + i]? = some x) := by
  obtain ⟨_, A', c', e, h1, h2, h⟩ := h
  injection e with e1 _ e3
  subst e1 e3
  exact ⟨h1, h2, h⟩
theorem Own.nil (w : World) (S : Nat → Prop) (e : TypeId) (size : Nat) : Own w S e size (.slice none 0 0) 0 [] := ⟨by simp, none, 0, rfl, Nat.le_refl _, Nat.zero_le _, .inl ⟨rfl, rfl⟩⟩
theorem Own.keeps (h : Own w S e size v n xs) (k : Keeps M w w') (hd : ∀ b, b < w.heap.size → S b → ¬ M b) : Own w' S e size v n xs := by
  obtain ⟨hx, A, c, rfl, h1, h2, h⟩ := h
  refine ⟨hx, A, c, rfl, h1, h2, ?_⟩
  rcases h with h | ⟨g, o, cur, rfl, hs, hb, r⟩
  · exact .inl h
  · exact .inr ⟨g, o, cur, rfl, hs, hb.keeps k (hd g hb.lt hs), r⟩
theorem Own.mono (h : Own w S e size v n xs) (hs : ∀ b, b < w.heap.size → S b → T b) : Own w T e size v n xs := by
  obtain ⟨hx, A, c, rfl, h1, h2, h⟩ := h
  refine ⟨hx, A, c, rfl, h1, h2, ?_⟩
  rcases h with h | ⟨g, o, cur, rfl, h3, hb, r⟩
  · exact .inl h
  · exact .inr ⟨g, o, cur, rfl, hs g hb.lt h3, hb, r⟩
/-- Kept where no block of its element type is written. -/
theorem Own.keepsT (h : Own w S e size v n xs) (k : Keeps M w w') (hm : ∀ g cs, S g → Blk w g e cs → ¬ M g) : Own w' S e size v n xs := by
  obtain ⟨hx, A, c, rfl, h1, h2, h⟩ := h
  refine ⟨hx, A, c, rfl, h1, h2, ?_⟩
  rcases h with h | ⟨g, o, cur, rfl, hs, hb, r⟩
  · exact .inl h
  · exact .inr ⟨g, o, cur, rfl, hs, hb.keeps k (hm g cur hs hb), r⟩
theorem Own.ownBlk (h : Own w S e size v n xs) {b : Nat} (hb : v.ownBlock = some b) : ∃ cs, Blk w b e cs := by
  obtain ⟨hx, A, c, rfl, h1, h2, h⟩ := h
  rcases h with ⟨rfl, _⟩ | ⟨g, o, cur, rfl, h3, hbl, r⟩
  · simp [Value.ownBlock] at hb
  · simp [Value.ownBlock] at hb; subst hb; exact ⟨_, hbl⟩
/-- Kept where the own block of a row of other elements is written. -/
theorem Own.keepsO {e' : TypeId} {size' n' : Nat} {v' : Value} {xs' : List Value} {S' : Nat → Prop} (h : Own w S e size v n xs) (h' : Own w S' e' size' v' n' xs') (hne : e ≠ e') (k : Keeps (fun b => v'.ownBlock = some b) w w') : Own w' S e size v n xs :=
  h.keepsT k (fun g cs _ hb hg => by obtain ⟨cs', hb'⟩ := h'.ownBlk hg; exact Blk.ne_ hb hb' hne rfl)
/-- Kept where a block of other elements is written. -/
theorem Own.keepsB {g' : Nat} {t' : TypeId} {cs' : Array Value} (h : Own w S e size v n xs) (hg : Blk w g' t' cs') (hne : e ≠ t') (k : Keeps (fun b => b = g') w w') : Own w' S e size v n xs :=
  h.keepsT k (fun g cs _ hb e => by subst e; exact Blk.ne_ hb hg hne rfl)
/-- Just its own block. -/
theorem Own.self (h : Own w S e size v n xs) : Own w (fun b => v.ownBlock = some b) e size v n xs := by
  obtain ⟨hx, A, c, rfl, h1, h2, h⟩ := h
  refine ⟨hx, A, c, rfl, h1, h2, ?_⟩
  rcases h with h | ⟨g, o, cur, rfl, h3, hb, r⟩
  · exact .inl h
  · exact .inr ⟨g, o, cur, rfl, rfl, hb, r⟩
theorem Own.blk (h : Own w S e size v n xs) {b : Nat} (hb : v.ownBlock = some b) : S b ∧ b < w.heap.size := by
  obtain ⟨hx, A, c, rfl, h1, h2, h⟩ := h
  rcases h with ⟨rfl, _⟩ | ⟨g, o, cur, rfl, h3, hbl, r⟩
  · simp [Value.ownBlock] at hb
  · simp [Value.ownBlock] at hb; subst hb; exact ⟨h3, hbl.lt⟩
theorem Own.g (h : Own w S e size v n xs) : SlG w S size v n xs := by
  obtain ⟨hx, A, c, rfl, h1, h2, h⟩ := h
  refine ⟨hx, A, c, rfl, h1, h2, fun hne => ?_⟩
  rcases h with ⟨rfl, rfl⟩ | ⟨g, o, cur, rfl, h3, hb, h4, h5⟩
  · obtain rfl : n = 0 := by omega
    exact absurd (List.eq_nil_of_length_eq_zero (by simpa using hx)) hne
  · exact ⟨_, rfl, h3, fun i x hi => by rw [add_lit, hb.cell]; exact h5 i x hi⟩
theorem Own.form (h : Own w S e size v n xs) : ∃ A c, v = .slice A n c := by
  obtain ⟨_, A, c, e, _⟩ := h
  exact ⟨A, c, e⟩
theorem Own.r (h : Own w S e 1 v n xs) : SlR w S v xs := h.g.r
theorem Own.made (w : World) (cur : Array Value) (n cap : Nat) (hs : S w.heap.size) (hn : n ≤ cap) (hm : cap ≤ maxLen) (hz : cur.size = cap * size) (hx : cur.toList.take (n * size) = xs) :
    Own (w.alloc (.cells cur e)) S e size (.slice (some ⟨w.heap.size, 0, none⟩) n cap) n xs := by
  refine ⟨?_, _, _, rfl, hn, hm, .inr ⟨_, 0, cur, rfl, hs, Blk.new w e cur, by omega, fun i x hi => ?_⟩⟩
  · rw [← hx, List.length_take, Array.length_toList, hz]
    exact Nat.min_eq_left (Nat.mul_le_mul_right _ hn)
  · rw [← hx, List.getElem?_take] at hi
    split at hi
    · simpa using hi
    · cases hi
end

/-- The new block that a literal of k elements lies in. -/
theorem SlG.lit (w : World) (t : TypeId) (cs : List Value) (size k n : Nat) (hn : n = w.heap.size) (hk : cs.length = k * size) (hm : k ≤ maxLen) :
    SlG (w.alloc (.cells cs.toArray t)) (fun b => b = w.heap.size) size (.slice (some ⟨n, 0, none⟩) k k) k cs := by
  subst hn
  refine ⟨hk, _, _, rfl, Nat.le_refl _, hm, fun _ => ⟨_, rfl, rfl, fun i x hx => ?_⟩⟩
  rw [add_lit, (Blk.new w t cs.toArray).cell]
  simpa using hx
theorem SlG.lit1 (w : World) (t : TypeId) (x : Value) (n : Nat) (hn : n = w.heap.size) : SlG (w.alloc (.cells #[x] t)) (fun b => b = w.heap.size) 1 (.slice (some ⟨n, 0, none⟩) 1 1) 1 [x] :=
  SlG.lit w t [x] 1 1 n hn rfl (by decide)

theorem setCells_blk {g : Nat} {t : TypeId} : ∀ (vs : List Value) (o : Nat) (w : World) (cur : Array Value), Blk w g t cur → ∃ cur', Blk (w.setCells g o vs) g t cur' ∧ cur'.size = cur.size ∧
    (∀ j x, vs[j]? = some x → o + j < cur.size → cur'[o + j]? = some x) ∧ (∀ j, j < o ∨ o + vs.length ≤ j → cur'[j]? = cur[j]?)
  | [], o, w, cur, h => ⟨cur, h, rfl, fun j x hx => by simp at hx, fun j _ => rfl⟩
  | v :: r, o, w, cur, h => by
    obtain ⟨cur', h1, h2, h3, h4⟩ := setCells_blk r (o + 1) _ _ (h.set_ o v)
    refine ⟨cur', h1, by rw [h2]; simp, fun j x hx hl => ?_, fun j hj => ?_⟩
    · cases j with
      | zero =>
        simp at hx; subst hx
        rw [h4 (o + 0) (.inl (by omega)), Nat.add_zero, Array.getElem?_setIfInBounds_self]
        rw [if_pos (by omega)]
      | succ j =>
        have := h3 j x (by simpa using hx) (by simp; omega)
        rw [show o + (j + 1) = o + 1 + j by omega]; exact this
    · rw [h4 j (by simp at hj; omega)]
      rw [Array.getElem?_setIfInBounds_ne]
      simp at hj; omega
theorem setCells_keeps {g : Nat} : ∀ (vs : List Value) (o : Nat) (w : World), Keeps (fun b => b = g) w (w.setCells g o vs)
  | [], _, w => Keeps.refl _ w
  | v :: r, o, w => (Keeps.setCell w (M := fun b => b = g) rfl v).trans (setCells_keeps r (o + 1) _) (fun _ _ h => h)

section
variable {P : Program} {S T : Nat → Prop} {w : World}

theorem SlG.src {size : Nat} {y : Value} {m : Nat} {news : List Value} {tx e' : TypeId} (h : SlG w T size y m news) (hk : P.underlying tx = some (.slice e')) (h1 : ∀ u ∈ news, u.oneCell' = true) : Src P size tx y m news w := by
  obtain ⟨hl, A, c, rfl, hc, hm, hx⟩ := h
  cases A with
  | some a =>
    refine Src.ofSlice w hk a m c news hl (fun j u hj => ?_) h1
    obtain ⟨ad, e, _, hcell⟩ := hx (by intro e; subst e; simp at hj)
    cases e
    exact hcell j u hj
  | none =>
    have hn : news = [] := by
      rcases hnn : news with _ | ⟨x, l⟩
      · rfl
      · obtain ⟨ad, e, _⟩ := hx (by rw [hnn]; simp)
        cases e
    subst hn
    refine ⟨.inl ⟨e', hk⟩, fun _ => rfl, ?_, ?_, hl, h1⟩
    · exact run_firstCells_none w size m m c
    · exact run_firstCells_none w.drew size m m c

/-- append: the row with the news behind; where the new row lies; what is kept. -/
theorem run_append {t ty e : TypeId} {i : TypeInfo} {z : Value} {size bytes : Nat} (ht : P.underlying t = some (.slice e)) (hi : P.info? e = some i) (hz : i.zero = some z)
    (hsize : i.size = size) (hby : i.bytes = bytes) (hzs : z.cells.size = size) (hsz : 0 < size)
    {v y : Value} {n m : Nat} {xs news : List Value} (h : Own w S e size v n xs) (hy : SlG w T size y m news) (h1 : ∀ u ∈ news, u.oneCell' = true)
    (h63 : n + m ≤ maxLen) (hbytes : (n + m) * bytes ≤ 140737488355328) :
    ∃ v' w', (Builtin.append_ #[t, t] ty #[v, y]).run P w = .ok v' w' ∧ Own w' (fun b => v.ownBlock = some b ∨ (w.heap.size ≤ b ∧ b < w'.heap.size)) e size v' (n + m) (xs ++ news) ∧
      Keeps (fun b => v.ownBlock = some b) w w' ∧ (v' = .slice none 0 0 ↔ v = .slice none 0 0 ∧ m = 0) := by
  subst hsize
  subst hby
  have hsrc : Src P i.size t y m news w := hy.src ht h1
  have h63' : n + m ≤ 9223372036854775807 := h63
  obtain ⟨hx, A, c, rfl, hnc, hcm, hA⟩ := h
  have hlen : (xs ++ news).length = (n + m) * i.size := by rw [List.length_append, hx, hsrc.newsLen, Nat.add_mul]
  by_cases hroom : n + m ≤ c
  · rcases hA with ⟨rfl, rfl⟩ | ⟨g, o, cur, rfl, hs, hb, hoc, hcur⟩
    · obtain ⟨rfl, rfl⟩ : n = 0 ∧ m = 0 := by omega
      have hn : news = [] := List.eq_nil_of_length_eq_zero (by simpa using hsrc.newsLen)
      have hxx : xs = [] := List.eq_nil_of_length_eq_zero (by simpa using hx)
      subst hn hxx
      exact ⟨_, _, run_append_nothing w t t ty e i ht hi none 0 0 (Nat.le_refl _) y hsrc, Own.nil _ _ _ _, Keeps.refl _ _, by simp⟩
    · have hfit : o + n * i.size + news.length ≤ cur.size := by
        have : (n + m) * i.size ≤ c * i.size := Nat.mul_le_mul_right _ hroom
        rw [hsrc.newsLen]; rw [Nat.add_mul] at this; omega
      have hr := run_append_room_src (P := P) w t t ty e i ht hi g o n c y m news hsrc hroom
        (fun j hj => by rw [hb.cell]; rw [Array.getElem?_eq_getElem (by omega)]; rfl) (fun j _ => hb.frozen _)
      obtain ⟨cur', h1', h2', h3', h4'⟩ := setCells_blk news (o + n * i.size) w cur hb
      refine ⟨_, _, hr, ⟨hlen, _, _, rfl, hroom, hcm, .inr ⟨g, o, cur', rfl, .inl rfl, h1', by omega, fun j x hj => ?_⟩⟩, (setCells_keeps news _ w).mono (fun b _ e => by subst e; rfl), by simp⟩
      rw [List.getElem?_append] at hj
      split at hj
      · rename_i hlt
        rw [h4' (o + j) (.inl (by omega))]
        exact hcur j x hj
      · rename_i hge
        have hjn : j - xs.length < news.length := (List.getElem?_eq_some_iff.1 hj).1
        have := h3' (j - xs.length) x hj (by omega)
        rw [show o + j = o + n * i.size + (j - xs.length) by omega]
        exact this
  · have hfc : (Builtin.firstCells i.size n (.slice A n c)).run P w.drew = .ok xs.toArray w.drew := by
      rcases hA with ⟨rfl, rfl⟩ | ⟨g, o, cur, rfl, hs, hb, hoc, hcur⟩
      · obtain rfl : n = 0 := by omega
        have hxx : xs = [] := List.eq_nil_of_length_eq_zero (by simpa using hx)
        subst hxx
        exact run_firstCells_none w.drew i.size 0 0 0
      · exact run_firstCells_some w.drew i.size n ⟨g, o, none⟩ n c xs hx (fun j u hj => by rw [add_lit]; show w.cell? _ = _; rw [hb.cell]; exact hcur j u hj)
    have hr := run_append_grow_src (P := P) w t t ty e i z ht hi hz A n c xs hfc y m news hsrc (by omega) (by omega) (growslice_fits (by omega) hbytes)
    have hge := grownCap_ge w (n + m) c e
    have hcm' : grownCap w (n + m) c e ≤ maxLen := grownCap_le_maxLen w (n + m) c e h63
    refine ⟨_, _, hr, ?_, (Keeps.drew _ w).alloc' _, ?_⟩
    · refine Own.made (S := fun b => (Value.slice A n c).ownBlock = some b ∨ (w.heap.size ≤ b ∧ b < (w.drew.alloc (.cells ((xs ++ news).toArray ++ Builtin.zeroCells z.cells (grownCap w (n + m) c e - (n + m))) e)).heap.size)) w.drew _ (n + m) (grownCap w (n + m) c e) (.inr ⟨Nat.le_refl _, by simp⟩) hge hcm' ?_ ?_
      · simp only [Array.size_append, List.size_toArray, size_zeroCells, hzs, hlen, ← Nat.add_mul]
        congr 1
        omega
      · rw [Array.toList_append, ← hlen]
        exact List.take_left' rfl
    · simp only [Value.slice.injEq, reduceCtorEq, false_and, false_iff]
      rintro ⟨⟨rfl, rfl, rfl⟩, rfl⟩
      omega

theorem wpList_app {ops : Array Oper} {rest : List Oper} {o : Oper} {a : Act} {Q : Exit → Act → World → Prop} (hgd : o.guard = none) (s x : Operand) (t : TypeId)
    (ho : o.op = .call { callee := .builtin .append, args := #[s, x], argTypes := #[t, t] })
    {e : TypeId} {i : TypeInfo} {z : Value} {size bytes : Nat} (ht : P.underlying t = some (.slice e)) (hi : P.info? e = some i) (hz : i.zero = some z)
    (hsize : i.size = size) (hby : i.bytes = bytes) (hzs : z.cells.size = size) (hsz : 0 < size)
    {v y : Value} {n m : Nat} {xs news : List Value} (hs : a.eval s = v) (h : Own w S e size v n xs) (hx : a.eval x = y) (hy : SlG w T size y m news) (h1 : ∀ u ∈ news, u.oneCell' = true)
    (h63 : n + m ≤ maxLen) (hbytes : (n + m) * bytes ≤ 140737488355328)
    (hK : ∀ v' w', Own w' (fun b => v.ownBlock = some b ∨ (w.heap.size ≤ b ∧ b < w'.heap.size)) e size v' (n + m) (xs ++ news) → Keeps (fun b => v.ownBlock = some b) w w' → (v' = .slice none 0 0 ↔ v = .slice none 0 0 ∧ m = 0) → wpList P ops Q rest (a.put o.dst v') w') :
    wpList P ops Q (o :: rest) a w := by
  obtain ⟨v', w', hr, h2, h3, h4⟩ := run_append (ty := o.type) ht hi hz hsize hby hzs hsz h hy h1 h63 hbytes
  refine wpList_plain hgd fun K hK' => ?_
  unfold Oper.wp execOp
  simp only [ho, resolve, invoke, builtin, Sem.run_bind, Sem.run_pure, Result.andThen_ok, List.map_toArray, List.map_cons, List.map_nil, hs, hx, hr]
  exact hK' _ _ (hK v' w' h2 h3 h4)

end

end Go.Proofs.Ytbhohohgojcapaa
