import Derived.Test.YtbhohohgojcapaaPkA6
import Derived.Test.YtbhohohgojcapaaPkB9
import Derived.Test.YtbhohohgojcapaaPkB4
import Derived.Test.YtbhohohgojcapaaPkA8
namespace Go.Proofs.Ytbhohohgojcapaa
open Go.RowKit

/-- A report. -/
structure Rp where
  sound : Bool
  node : Int
  err : Int
  levels : Int
  nodes : Int
  entries : Int
  deriving DecidableEq
def Rp.wrong (id e : Int) : Rp := ⟨false, id, e, 0, 0, 0⟩
def Rp.ok : Rp := ⟨true, 0, 0, 0, 0, 0⟩
/-- A chain: its nodes' numbers, and their lows. -/
abbrev Ch := List (Int × List UInt8)
/-- Is the first key below this low? -/
def keyBelow (low : List UInt8) : List (List UInt8) → Bool
  | [] => false
  | k :: _ => decide (cmp k low < 0)
/-- Does a node stand wrong behind this low? -/
def lowBad (low : List UInt8) (n : Nd) : Bool :=
  decide (0 < low.length) && (keyBelow low n.keys || (decide (0 < n.high.length) && decide (cmp n.high low ≤ 0)))
/-- A chain from a node on. -/
def chainM (A : Ar) (chk : Nd → Int) (level : Int) : Nat → Int → List UInt8 → List Int → Ch → Ch × List Int × Rp
  | 0, _, _, met, acc => (acc, met, .ok)
  | f + 1, id, low, met, acc => match A.get id with
    | none => (acc, met, .wrong id 101)
    | some s =>
      if met.contains id = true then (acc, met, .wrong id 112)
      else if s.nd.lvl ≠ level then (acc, met, .wrong id 111)
      else if chk s.nd ≠ 0 then (acc, met, .wrong id (chk s.nd))
      else if lowBad low s.nd = true then (acc, met, .wrong id 112)
      else if s.nd.right = 0 then (acc ++ [(id, low)], met ++ [id], .ok)
      else chainM A chk level f s.nd.right s.nd.high (met ++ [id]) (acc ++ [(id, low)])
/-- Is this kid in the chain below, with this low? -/
def kidOk (down : Ch) (kid : Int) (want : List UInt8) : Bool := down.any (fun d => d.1 == kid && d.2 == want)
/-- What a node's kid's low must be. -/
def wantLow (low : List UInt8) (n : Nd) (k : Nat) : List UInt8 := if k = 0 then low else n.keys.getD (k - 1) []
def nodeKids (down : Ch) (low : List UInt8) (n : Nd) : Bool := (List.range n.kids.length).all (fun k => kidOk down (n.kids.getD k 0) (wantLow low n k))
def kidsM (A : Ar) (down : Ch) : Ch → Rp
  | [] => .ok
  | (id, low) :: r => if nodeKids down low (opNd A id) = true then kidsM A down r else .wrong id 113
def firstKid (A : Ar) (l : Ch) : Int := match l with
  | [] => 0
  | e :: _ => (opNd A e.1).kids.getD 0 0
/-- The kids of the last chain so far. -/
def kidsLast (A : Ar) (out : List Ch) (l : Ch) : Rp := match out.getLast? with
  | none => .ok
  | some up => kidsM A l up
def levelsFrom (A : Ar) (chk : Nd → Int) : Nat → Int → Int → List Int → List Ch → List Ch × Rp
  | 0, _, _, _, out => (out, .ok)
  | f + 1, level, first, met, out =>
    let c := chainM A chk level (A.sl.length + 1 - met.length) first [] met []
    if c.2.2.sound = false then ([], c.2.2)
    else if (kidsLast A out c.1).sound = false then ([], kidsLast A out c.1)
    else if level = 0 then (out ++ [c.1], .ok)
    else levelsFrom A chk f (level - 1) (firstKid A c.1) c.2.1 (out ++ [c.1])
def chkM (a0 a1 a2 a3 a4 : Int) (n : Nd) : Int := mayE n a0 a1 a2 a3 a4
def levelsM (A : Ar) (a0 a1 a2 a3 a4 : Int) : List Ch × Rp :=
  if confOk a0 a1 a2 a3 a4 = false then ([], .wrong 0 1)
  else match heldFrom 1 A.sl with
  | h :: _ => ([], .wrong h 102)
  | [] => match A.get A.root with
    | none => ([], .wrong A.root 101)
    | some s => levelsFrom A (chkM a0 a1 a2 a3 a4) (s.nd.lvl.toNat + 1) s.nd.lvl A.root [] []

/-- Numbers that were met: each once, each there. -/
def MetA (A : Ar) (met : List Int) : Prop := met.Nodup ∧ ∀ x ∈ met, 1 ≤ x ∧ x ≤ A.sl.length

section
variable {A : Ar} {chk : Nd → Int} {level id : Int} {low : List UInt8} {met : List Int} {acc l : Ch} {s : Sl}
theorem nodup_le {α : Type} [BEq α] [LawfulBEq α] : ∀ (l m : List α), l.Nodup → (∀ x ∈ l, x ∈ m) → l.length ≤ m.length
  | [], _, _, _ => Nat.zero_le _
  | x :: l, m, hn, hs => by
    have hx := hs x (List.mem_cons_self ..)
    rw [List.nodup_cons] at hn
    have ih := nodup_le l (m.erase x) hn.2 (fun y hy => (List.mem_erase_of_ne (fun e : y = x => hn.1 (e ▸ hy))).2 (hs y (List.mem_cons_of_mem _ hy)))
    have h1 := List.length_erase_of_mem hx
    have h2 := List.length_pos_of_mem hx
    simp only [List.length_cons]
    omega
theorem MetA.len (h : MetA A met) : met.length ≤ A.sl.length := by
  obtain ⟨h1, h2⟩ := h
  have hsub : (met.map (fun x => x.toNat - 1)) ⊆ List.range A.sl.length := fun y hy => by
    obtain ⟨x, hx, rfl⟩ := List.mem_map.1 hy
    have := h2 x hx
    exact List.mem_range.2 (by omega)
  have hnd : (met.map (fun x => x.toNat - 1)).Nodup := by
    rw [List.nodup_iff_pairwise_ne, List.pairwise_map]
    refine List.Pairwise.imp_of_mem ?_ h1
    intro a b ha hb hab e
    have := h2 a ha; have := h2 b hb
    exact hab (by omega)
  have := nodup_le _ _ hnd (fun x hx => hsub hx)
  simpa using this
theorem MetA.snoc (h : MetA A met) (hs : A.get id = some s) (hm : met.contains id = false) : MetA A (met ++ [id]) := by
  obtain ⟨h1, h2⟩ := h
  refine ⟨?_, fun x hx => ?_⟩
  · rw [List.nodup_append]
    refine ⟨h1, by simp, fun a ha b hb e => ?_⟩
    simp at hb
    subst hb e
    have : met.contains a = true := by simpa using ha
    rw [hm] at this; cases this
  · rcases List.mem_append.1 hx with hx | hx
    · exact h2 x hx
    · simp at hx; subst hx; exact get_le hs
/-- One round of a chain. -/
theorem chainM_round (hmet : MetA A met) : chainM A chk level (A.sl.length + 1 - met.length) id low met acc = match A.get id with
    | none => (acc, met, .wrong id 101)
    | some s =>
      if met.contains id = true then (acc, met, .wrong id 112)
      else if s.nd.lvl ≠ level then (acc, met, .wrong id 111)
      else if chk s.nd ≠ 0 then (acc, met, .wrong id (chk s.nd))
      else if lowBad low s.nd = true then (acc, met, .wrong id 112)
      else if s.nd.right = 0 then (acc ++ [(id, low)], met ++ [id], .ok)
      else chainM A chk level (A.sl.length + 1 - (met ++ [id]).length) s.nd.right s.nd.high (met ++ [id]) (acc ++ [(id, low)]) := by
  have hl := hmet.len
  obtain ⟨f, hf⟩ : ∃ f, A.sl.length + 1 - met.length = f + 1 := ⟨A.sl.length - met.length, by omega⟩
  have hf2 : A.sl.length + 1 - (met ++ [id]).length = f := by simp; omega
  rw [hf, hf2]
  rfl
end
end Go.Proofs.Ytbhohohgojcapaa

namespace Go.Proofs.Ytbhohohgojcapaa
open Go.RowKit

def rpV (r : Rp) : Array Value := #[.bool r.sound, .int .i64 r.node, .int .i64 r.err, .int .i64 r.levels, .int .i64 r.nodes, .int .i64 r.entries]
section
variable {w : World} {S : Nat → Prop} {v : Value} {l : List Int} {x : Int}
end
end Go.Proofs.Ytbhohohgojcapaa

namespace Go.Proofs.Ytbhohohgojcapaa
open Go.RowKit

/-- What is next. -/
inductive Nx where
  | root | latch | head | body | valid | done
  deriving DecidableEq
/-- A machine. -/
structure Mc where
  key : List UInt8
  level : Int
  nx : Nx
  id : Int
  word : Nat
  nd : Nd
  there : Bool
  again : Int
  right : Int
def Mc.new (key : List UInt8) (level : Int) : Mc := ⟨key, level, .root, 0, 0, Nd.zero, false, 0, 0⟩
def rootM (A : Ar) (M : Mc) : Mc := { M with id := A.root, nx := .latch }
def latchM (A : Ar) (M : Mc) : Mc := { M with word := opWord A M.id, nx := if opWord A M.id % 2 = 0 then .head else M.nx }
def headM (A : Ar) (M : Mc) : Mc := { M with nd := withHd M.nd (opNd A M.id), nx := .body }
def bodyM (A : Ar) (M : Mc) : Mc := { M with nd := withHd (opNd A M.id) M.nd, nx := .valid }
/-- Behind VALID, where the slot is there and its word is now. -/
def decideM (now : Nat) (M : Mc) : Mc :=
  if now ≠ M.word then { M with again := M.again + 1, nx := .root }
  else if M.nd.lvl < M.level then { M with nx := .done }
  else if beyond M.nd.high M.key then { M with right := M.right + 1, id := M.nd.right, nx := .latch }
  else if M.nd.lvl = M.level then { M with there := true, nx := .done }
  else { M with id := childOf M.nd.kids M.nd.keys M.key, nx := .latch }
/-- One step. -/
def stepM (A : Ar) (M : Mc) : Mc :=
  match M.nx with
  | .done => M
  | .root => rootM A M
  | .latch => if opErr A M.id = 0 then latchM A M else { latchM A M with nx := .done }
  | .head => if opErr A M.id = 0 then headM A M else { headM A M with nx := .done }
  | .body => if opErr A M.id = 0 then bodyM A M else { bodyM A M with nx := .done }
  | .valid => if opErr A M.id = 0 then decideM (opWord A M.id) M else { M with nx := .done }
/-- Its counts may rise. -/
def Mc.low (M : Mc) : Prop := 0 ≤ M.again ∧ M.again < 9223372036854775807 ∧ 0 ≤ M.right ∧ M.right < 9223372036854775807

/-- A machine in memory: its block, its texts in blocks of S. -/
structure MW (w : World) (t : TypeId) (m a : Nat) (nv : Nx → Value) (S : Nat → Prop) (M : Mc) : Prop where
  cells : ∃ kv c0 c1 c2 c3 c4 c5, Blk w m t #[pV a, kv, iV M.level, nv M.nx, iV M.id, .int .u64 M.word, c0, c1, c2, c3, c4, c5, .bool M.there, iV M.again, iV M.right] ∧ Byts w S kv M.key ∧ IsNd w S c0 c1 c2 c3 c4 c5 M.nd
  u64 : U64 M.word
  sm : NdSm 0 M.nd

section
variable {w w' : World} {t : TypeId} {m a : Nat} {nv : Nx → Value} {S T N G G' : Nat → Prop} {M : Mc} {b p q : Nat} {A B : Ar}
theorem MW.keeps (h : MW w t m a nv S M) (k : Keeps N w w') (hm : ¬ N m) (hd : ∀ x, x < w.heap.size → S x → ¬ N x) : MW w' t m a nv S M := by
  obtain ⟨⟨kv, c0, c1, c2, c3, c4, c5, hb, hk, hn⟩, hu, hs⟩ := h
  exact ⟨⟨kv, c0, c1, c2, c3, c4, c5, hb.keeps k hm, hk.keeps k hd, hn.keeps k hd⟩, hu, hs⟩
theorem MW.mono (h : MW w t m a nv S M) (hd : ∀ x, x < w.heap.size → S x → T x) : MW w t m a nv T M := by
  obtain ⟨⟨kv, c0, c1, c2, c3, c4, c5, hb, hk, hn⟩, hu, hs⟩ := h
  exact ⟨⟨kv, c0, c1, c2, c3, c4, c5, hb, hk.mono hd, hn.mono hd⟩, hu, hs⟩
/-- The pair behind what wrote elsewhere and made new memory that is not its own. -/
theorem J.enterN (h : J w G b p q A B) (k : Keeps N w w') (hN : ∀ x, x < w.heap.size → G x → ¬ N x) (hg : ∀ x, x < w.heap.size → G x → G' x) (hn : ∀ x, w'.heap.size ≤ x → G' x) : J w' G' b p q A B := by
  have h' := h.keeps k hN
  obtain ⟨hb, ⟨M, D, M', D', ⟨sl, ids, hX⟩, ⟨L, xs, hY⟩, h1, h2, h3⟩, hl, hnew, hsA, hsB⟩ := h
  exact ⟨h'.blk, ⟨M, D, M', D', ⟨sl, ids, hX.keeps k (fun x hx hm => hN x hx (h1 x hm).1) (fun x hx hd => hN x hx (h3 x (.inl hd)))⟩, ⟨L, xs, hY.keeps k (fun x hx hm => hN x hx (h2 x hm).1) (fun x hx hd => hN x hx (h3 x (.inr hd)))⟩, fun x hx => ⟨hg x (hX.mlt x hx) (h1 x hx).1, (h1 x hx).2⟩, fun x hx => ⟨hg x (hY.mlt x hx) (h2 x hx).1, (h2 x hx).2⟩, fun x hx => hg x (hx.elim (hX.dlt x) (hY.dlt x)) (h3 x hx)⟩, hg b hb.lt hl, hn, hsA, hsB⟩
end
end Go.Proofs.Ytbhohohgojcapaa
