import Derived.Test.YtbhohohgojcapaaPkB4
import Derived.Test.YtbhohohgojcapaaPkA8
namespace Go.Proofs.Ytbhohohgojcapaa
open Go.RowKit

/-- What is next. -/
inductive Nx where
  | root | latch | head | body | valid | done
  deriving DecidableEq
/-- A machine. -/
structure Mc where
  key : List UInt8
  level : Int
  nx : Nx
  id : Int
  word : Nat
  nd : Nd
  there : Bool
  again : Int
  right : Int
def Mc.new (key : List UInt8) (level : Int) : Mc := ⟨key, level, .root, 0, 0, Nd.zero, false, 0, 0⟩
def rootM (A : Ar) (M : Mc) : Mc := { M with id := A.root, nx := .latch }
def latchM (A : Ar) (M : Mc) : Mc := { M with word := opWord A M.id, nx := if opWord A M.id % 2 = 0 then .head else M.nx }
def headM (A : Ar) (M : Mc) : Mc := { M with nd := withHd M.nd (opNd A M.id), nx := .body }
def bodyM (A : Ar) (M : Mc) : Mc := { M with nd := withHd (opNd A M.id) M.nd, nx := .valid }
/-- Behind VALID, where the slot is there and its word is now. -/
def decideM (now : Nat) (M : Mc) : Mc :=
  if now ≠ M.word then { M with again := M.again + 1, nx := .root }
  else if M.nd.lvl < M.level then { M with nx := .done }
  else if beyond M.nd.high M.key then { M with right := M.right + 1, id := M.nd.right, nx := .latch }
  else if M.nd.lvl = M.level then { M with there := true, nx := .done }
  else { M with id := childOf M.nd.kids M.nd.keys M.key, nx := .latch }
/-- One step. -/
def stepM (A : Ar) (M : Mc) : Mc :=
  match M.nx with
  | .done => M
  | .root => rootM A M
  | .latch => if opErr A M.id = 0 then latchM A M else { latchM A M with nx := .done }
  | .head => if opErr A M.id = 0 then headM A M else { headM A M with nx := .done }
  | .body => if opErr A M.id = 0 then bodyM A M else { bodyM A M with nx := .done }
  | .valid => if opErr A M.id = 0 then decideM (opWord A M.id) M else { M with nx := .done }
/-- Its counts may rise. -/
def Mc.low (M : Mc) : Prop := 0 ≤ M.again ∧ M.again < 9223372036854775807 ∧ 0 ≤ M.right ∧ M.right < 9223372036854775807

/-- A machine in memory: its block, its texts in blocks of S. -/
structure MW (w : World) (t : TypeId) (m a : Nat) (nv : Nx → Value) (S : Nat → Prop) (M : Mc) : Prop where
  cells : ∃ kv c0 c1 c2 c3 c4 c5, Blk w m t #[pV a, kv, iV M.level, nv M.nx, iV M.id, .int .u64 M.word, c0, c1, c2, c3, c4, c5, .bool M.there, iV M.again, iV M.right] ∧ Byts w S kv M.key ∧ IsNd w S c0 c1 c2 c3 c4 c5 M.nd
  u64 : U64 M.word
  sm : NdSm 0 M.nd

section
variable {w w' : World} {t : TypeId} {m a : Nat} {nv : Nx → Value} {S T N G G' : Nat → Prop} {M : Mc} {b p q : Nat} {A B : Ar}
theorem MW.keeps (h : MW w t m a nv S M) (k : Keeps N w w') (hm : ¬ N m) (hd : ∀ x, x < w.heap.size → S x → ¬ N x) : MW w' t m a nv S M := by
  obtain ⟨⟨kv, c0, c1, c2, c3, c4, c5, hb, hk, hn⟩, hu, hs⟩ := h
  exact ⟨⟨kv, c0, c1, c2, c3, c4, c5, hb.keeps k hm, hk.keeps k hd, hn.keeps k hd⟩, hu, hs⟩
theorem MW.mono (h : MW w t m a nv S M) (hd : ∀ x, x < w.heap.size → S x → T x) : MW w t m a nv T M := by
  obtain ⟨⟨kv, c0, c1, c2, c3, c4, c5, hb, hk, hn⟩, hu, hs⟩ := h
  exact ⟨⟨kv, c0, c1, c2, c3, c4, c5, hb, hk.mono hd, hn.mono hd⟩, hu, hs⟩
/-- The pair behind what wrote elsewhere and made new memory that is not its own. -/
theorem J.enterN (h : J w G b p q A B) (k : Keeps N w w') (hN : ∀ x, x < w.heap.size → G x → ¬ N x) (hg : ∀ x, x < w.heap.size → G x → G' x) (hn : ∀ x, w'.heap.size ≤ x → G' x) : J w' G' b p q A B := by
  have h' := h.keeps k hN
  obtain ⟨hb, ⟨M, D, M', D', ⟨sl, ids, hX⟩, ⟨L, xs, hY⟩, h1, h2, h3⟩, hl, hnew, hsA, hsB⟩ := h
  exact ⟨h'.blk, ⟨M, D, M', D', ⟨sl, ids, hX.keeps k (fun x hx hm => hN x hx (h1 x hm).1) (fun x hx hd => hN x hx (h3 x (.inl hd)))⟩, ⟨L, xs, hY.keeps k (fun x hx hm => hN x hx (h2 x hm).1) (fun x hx hd => hN x hx (h3 x (.inr hd)))⟩, fun x hx => ⟨hg x (hX.mlt x hx) (h1 x hx).1, (h1 x hx).2⟩, fun x hx => ⟨hg x (hY.mlt x hx) (h2 x hx).1, (h2 x hx).2⟩, fun x hx => hg x (hx.elim (hX.dlt x) (hY.dlt x)) (h3 x hx)⟩, hg b hb.lt hl, hn, hsA, hsB⟩
end
end Go.Proofs.Ytbhohohgojcapaa
