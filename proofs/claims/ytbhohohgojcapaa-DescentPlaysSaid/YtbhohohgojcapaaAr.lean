/- The program's arena in memory: what a block of the struct Arena, its row of pointers and its slots read as. -/
import Derived.Test.YtbhohohgojcapaaProg
import Derived.Test.YtbhohohgojcapaaMem
namespace Go.Proofs.Ytbhohohgojcapaa
open Go.RowKit

def bV (x : UInt8) : Value := .int .u8 (x.toNat : Int)
def iV (x : Int) : Value := .int .i64 x
def pV (b : Nat) : Value := .pointer (some ⟨b, 0, none⟩)

/-- A node. -/
structure Nd where
  lvl : Int
  high : List UInt8
  right : Int
  keys : List (List UInt8)
  vals : List (List UInt8)
  kids : List Int

def Nd.zero : Nd := ⟨0, [], 0, [], [], []⟩

def Byts (w : World) (S : Nat → Prop) (v : Value) (l : List UInt8) : Prop := SlR w S v (l.map bV)
def Ints (w : World) (S : Nat → Prop) (v : Value) (l : List Int) : Prop := SlR w S v (l.map iV)
def Txts (w : World) (S : Nat → Prop) (v : Value) (l : List (List UInt8)) : Prop :=
  ∃ vs, SlR w S v vs ∧ vs.length = l.length ∧ ∀ (i : Nat) u x, vs[i]? = some u → l[i]? = some x → Byts w S u x
structure IsHd (w : World) (S : Nat → Prop) (c0 c1 c2 : Value) (n : Nd) : Prop where
  lvl : c0 = iV n.lvl
  high : Byts w S c1 n.high
  right : c2 = iV n.right
structure IsBd (w : World) (S : Nat → Prop) (c3 c4 c5 : Value) (n : Nd) : Prop where
  keys : Txts w S c3 n.keys
  vals : Txts w S c4 n.vals
  kids : Ints w S c5 n.kids
def IsNd (w : World) (S : Nat → Prop) (c0 c1 c2 c3 c4 c5 : Value) (n : Nd) : Prop := IsHd w S c0 c1 c2 n ∧ IsBd w S c3 c4 c5 n

section
variable {S T M : Nat → Prop} {w w' : World} {v : Value}
theorem Byts.keeps {l} (h : Byts w S v l) (k : Keeps M w w') (hd : ∀ b, b < w.heap.size → S b → ¬ M b) : Byts w' S v l := SlR.keeps h k hd
theorem Byts.mono {l} (h : Byts w S v l) (hs : ∀ b, b < w.heap.size → S b → T b) : Byts w T v l := SlR.mono h hs
theorem Ints.keeps {l} (h : Ints w S v l) (k : Keeps M w w') (hd : ∀ b, b < w.heap.size → S b → ¬ M b) : Ints w' S v l := SlR.keeps h k hd
theorem Ints.mono {l} (h : Ints w S v l) (hs : ∀ b, b < w.heap.size → S b → T b) : Ints w T v l := SlR.mono h hs
theorem Txts.keeps {l} (h : Txts w S v l) (k : Keeps M w w') (hd : ∀ b, b < w.heap.size → S b → ¬ M b) : Txts w' S v l := by
  obtain ⟨vs, h1, h2, h3⟩ := h
  exact ⟨vs, h1.keeps k hd, h2, fun i u x hu hx => (h3 i u x hu hx).keeps k hd⟩
theorem Txts.mono {l} (h : Txts w S v l) (hs : ∀ b, b < w.heap.size → S b → T b) : Txts w T v l := by
  obtain ⟨vs, h1, h2, h3⟩ := h
  exact ⟨vs, h1.mono hs, h2, fun i u x hu hx => (h3 i u x hu hx).mono hs⟩
theorem IsHd.keeps {a b c n} (h : IsHd w S a b c n) (k : Keeps M w w') (hd : ∀ b, b < w.heap.size → S b → ¬ M b) : IsHd w' S a b c n := ⟨h.1, h.2.keeps k hd, h.3⟩
theorem IsHd.mono {a b c n} (h : IsHd w S a b c n) (hs : ∀ b, b < w.heap.size → S b → T b) : IsHd w T a b c n := ⟨h.1, h.2.mono hs, h.3⟩
theorem IsBd.keeps {a b c n} (h : IsBd w S a b c n) (k : Keeps M w w') (hd : ∀ b, b < w.heap.size → S b → ¬ M b) : IsBd w' S a b c n := ⟨h.1.keeps k hd, h.2.keeps k hd, h.3.keeps k hd⟩
theorem IsBd.mono {a b c n} (h : IsBd w S a b c n) (hs : ∀ b, b < w.heap.size → S b → T b) : IsBd w T a b c n := ⟨h.1.mono hs, h.2.mono hs, h.3.mono hs⟩
theorem IsNd.keeps {a b c d e f n} (h : IsNd w S a b c d e f n) (k : Keeps M w w') (hd : ∀ b, b < w.heap.size → S b → ¬ M b) : IsNd w' S a b c d e f n := ⟨h.1.keeps k hd, h.2.keeps k hd⟩
theorem IsNd.mono {a b c d e f n} (h : IsNd w S a b c d e f n) (hs : ∀ b, b < w.heap.size → S b → T b) : IsNd w T a b c d e f n := ⟨h.1.mono hs, h.2.mono hs⟩
theorem IsNd.zero (w : World) (S : Nat → Prop) : IsNd w S (iV 0) (.slice none 0 0) (iV 0) (.slice none 0 0) (.slice none 0 0) (.slice none 0 0) Nd.zero :=
  ⟨⟨rfl, SlR.nil _ _ _ _ (by decide), rfl⟩, ⟨[], SlR.nil _ _ _ _ (by decide), rfl, fun i u x h => by simp at h⟩, ⟨[], SlR.nil _ _ _ _ (by decide), rfl, fun i u x h => by simp at h⟩, SlR.nil _ _ _ _ (by decide)⟩
end

/-- A slot: its word and its node. -/
structure Sl where
  word : Nat
  nd : Nd
/-- An arena. -/
structure Ar where
  nodes : Nat
  sl : List Sl
  root : Int

/-- A number of 64 bits. -/
def U64 (n : Nat) : Prop := n < 18446744073709551616
/-- Block id is the slot s; its node's texts lie in D. -/
def SlotAt (w : World) (D : Nat → Prop) (id : Nat) (s : Sl) : Prop :=
  ∃ c0 c1 c2 c3 c4 c5, Blk w id 128 #[.int .u64 s.word, c0, c1, c2, c3, c4, c5] ∧ IsNd w D c0 c1 c2 c3 c4 c5 s.nd ∧ U64 s.word

/-- The struct at block p, its row of pointers 'slots', the blocks 'ids' of its slots. M: what may be written; D: where the texts lie. -/
structure ArW (w : World) (M D : Nat → Prop) (p : Nat) (slots : Value) (ids : List Nat) (A : Ar) : Prop where
  blk : Blk w p 163 #[iV A.nodes, slots, iV A.root]
  row : Own w M 120 1 slots ids.length (ids.map pV)
  nodup : ids.Nodup
  len : ids.length = A.sl.length
  slot : ∀ (i : Nat) id s, ids[i]? = some id → A.sl[i]? = some s → SlotAt w D id s
  mp : M p
  mids : ∀ id, id ∈ ids → M id
  apart : ∀ b, M b → ¬ D b
  mlt : ∀ b, M b → b < w.heap.size
  dlt : ∀ b, D b → b < w.heap.size
  bound : A.sl.length ≤ A.nodes ∧ A.nodes ≤ 65536
def ArX (w : World) (M D : Nat → Prop) (p : Nat) (A : Ar) : Prop := ∃ slots ids, ArW w M D p slots ids A

section
variable {M N D : Nat → Prop} {w w' : World} {p : Nat} {slots : Value} {ids : List Nat} {A : Ar}
theorem SlotAt.keeps {id s} (h : SlotAt w D id s) (k : Keeps N w w') (hi : ¬ N id) (hd : ∀ b, b < w.heap.size → D b → ¬ N b) : SlotAt w' D id s := by
  obtain ⟨c0, c1, c2, c3, c4, c5, h1, h2, h3⟩ := h
  exact ⟨c0, c1, c2, c3, c4, c5, h1.keeps k hi, h2.keeps k hd, h3⟩
theorem SlotAt.mono {D' : Nat → Prop} {id s} (h : SlotAt w D id s) (hd : ∀ b, b < w.heap.size → D b → D' b) : SlotAt w D' id s := by
  obtain ⟨c0, c1, c2, c3, c4, c5, h1, h2, h3⟩ := h
  exact ⟨c0, c1, c2, c3, c4, c5, h1, h2.mono hd, h3⟩
/-- The arena behind what leaves its blocks and its texts alone. -/
theorem ArW.keeps (h : ArW w M D p slots ids A) (k : Keeps N w w') (hm : ∀ b, b < w.heap.size → M b → ¬ N b) (hd : ∀ b, b < w.heap.size → D b → ¬ N b) : ArW w' M D p slots ids A where
  blk := h.blk.keeps k (hm p h.blk.lt h.mp)
  row := h.row.keeps k hm
  nodup := h.nodup
  len := h.len
  slot := fun i id s hi hs => by
    have hx := h.slot i id s hi hs
    have hlt : id < w.heap.size := by obtain ⟨_, _, _, _, _, _, hb, _⟩ := hx; exact hb.lt
    exact hx.keeps k (hm id hlt (h.mids id (List.mem_of_getElem? hi))) hd
  mp := h.mp
  mids := h.mids
  apart := h.apart
  mlt := fun b hb => Nat.lt_of_lt_of_le (h.mlt b hb) k.size
  dlt := fun b hb => Nat.lt_of_lt_of_le (h.dlt b hb) k.size
  bound := h.bound
theorem ArX.keeps (h : ArX w M D p A) (k : Keeps N w w') (hm : ∀ b, b < w.heap.size → M b → ¬ N b) (hd : ∀ b, b < w.heap.size → D b → ¬ N b) : ArX w' M D p A :=
  let ⟨s, i, h⟩ := h; ⟨s, i, h.keeps k hm hd⟩
/-- The row's address and the cells in it. -/
theorem ArW.form (h : ArW w M D p slots ids A) (hp : 0 < ids.length) : ∃ g o c, slots = .slice (some ⟨g, o, none⟩) ids.length c ∧ M g ∧ ∀ (i : Nat) id, ids[i]? = some id → w.cell? ⟨g, o + i, none⟩ = some (pV id) := by
  obtain ⟨hl, a, c, rfl, h1, h2, h3⟩ := h.row
  rcases h3 with ⟨rfl, rfl⟩ | ⟨g, o, cur, rfl, hm, hb, _, hc⟩
  · omega
  · exact ⟨g, o, c, rfl, hm, fun i id hi => by rw [hb.cell]; exact hc i _ (by rw [List.getElem?_map, hi]; rfl)⟩
end

end Go.Proofs.Ytbhohohgojcapaa
