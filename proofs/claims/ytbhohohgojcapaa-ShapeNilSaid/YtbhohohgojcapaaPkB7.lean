import Derived.Test.YtbhohohgojcapaaPkB6
namespace Go.Proofs.Ytbhohohgojcapaa
open Go.RowKit

section
variable {w : World} {G : Nat → Prop} {b p q : Nat} {A B : Ar} {ix : Int}

theorem J.bound (h : J w G b p q A B) : A.sl.length ≤ 65536 ∧ B.sl.length ≤ 65536 := by
  obtain ⟨hb, ⟨M, D, M', D', ⟨sl, ids, hX⟩, ⟨L, xs, hY⟩, h1, h2, h3⟩, hl, hnew, hsA, hsB⟩ := h
  have := hX.bound; have := hY.bound
  omega

end
end Go.Proofs.Ytbhohohgojcapaa

namespace Go.Proofs.Ytbhohohgojcapaa
open Go.RowKit

/-- A call. -/
structure OpM where
  kd : Int
  a : Int
  b : Int
  w : Nat
  ch : Bool
  nd : Nd
def opId (A : Ar) (c : Int) : Int := pk c ((A.sl.length : Int) + 2)
/-- The arena behind a call. -/
def step (A : Ar) (o : OpM) : Ar :=
  if pk o.kd 9 = 0 then (opAlloc A).2.2
  else if pk o.kd 9 = 1 then A
  else if pk o.kd 9 = 2 then (opLock A (opId A o.a) ((opWord A (opId A o.a) + (pk o.b 3).toNat) % 18446744073709551616)).2.2
  else if pk o.kd 9 = 3 then (opUnlock A (opId A o.a) o.ch).2
  else if pk o.kd 9 = 4 then (opSetHead A (opId A o.a) o.nd).2
  else if pk o.kd 9 = 5 then (opSetBody A (opId A o.a) o.nd).2
  else if pk o.kd 9 = 6 then (opGrow A (opId A o.a) (opId A o.b)).2.2
  else if pk o.kd 9 = 7 then opLay A (1 + pk o.a ((A.sl.length : Int) + 1)) o.nd
  else (opLock A (opId A o.a) o.w).2.2

/-- What an argument is: a call's eleven cells. -/
structure IsOp (w : World) (S : Nat → Prop) (cs : Array Value) (o : OpM) : Prop where
  cells : ∃ c0 c1 c2 c3 c4 c5, cs = #[.int .i64 o.kd, .int .i64 o.a, .int .i64 o.b, .int .u64 o.w, .bool o.ch, c0, c1, c2, c3, c4, c5] ∧ IsNd w S c0 c1 c2 c3 c4 c5 o.nd
  kd : I64 o.kd
  a : I64 o.a
  b : I64 o.b
  w : U64 o.w
  nd : NdSm 0 o.nd
end Go.Proofs.Ytbhohohgojcapaa
