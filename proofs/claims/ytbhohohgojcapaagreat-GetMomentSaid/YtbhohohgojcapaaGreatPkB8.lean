import Derived.Test.YtbhohohgojcapaaGreatPkB5
import Derived.Test.YtbhohohgojcapaaGreatPkA8
import Derived.Test.YtbhohohgojcapaaGreatPkA0
import Derived.Test.YtbhohohgojcapaaGreatPkB4
import Derived.Test.YtbhohohgojcapaaGreatPkA3
namespace Go.Proofs.YtbhohohgojcapaaGreat
open Go.RowKit
section
variable {S T M : Nat -> Prop} {w w' : World} {v u : Value} {n g i : Nat} {cs : Array Value} {e : TypeId}
section
variable {c0 c1 c2 c3 c4 c5 : Value} {m : Nd}
end
end
end Go.Proofs.YtbhohohgojcapaaGreat

namespace Go.Proofs.YtbhohohgojcapaaGreat
open Go.RowKit
section
variable {P : Program} {md : Region.Mode} {ops : Array Oper} {Q : Exit -> Act -> World -> Prop}
end
end Go.Proofs.YtbhohohgojcapaaGreat

namespace Go.Proofs.YtbhohohgojcapaaGreat
open Go.RowKit
section
variable {w : World} {S : Nat -> Prop} {A : Option Addr} {c k : Nat} {e : TypeId}
end
def spM (n : Nd) : Nat := if n.lvl = 0 then n.keys.length else n.kids.length
def spBad (n : Nd) : Prop := spM n < 2 \/ (n.lvl = 0 /\ n.vals.length < n.keys.length) \/ (n.lvl ≠ 0 /\ n.keys.length < n.kids.length - 1)
instance (n : Nd) : Decidable (spBad n) := by unfold spBad; exact inferInstance
def spH (n : Nd) : Nat := (spM n + 1) / 2
def spK (n : Nd) : List UInt8 := if spBad n then [] else if n.lvl = 0 then n.keys.getD (spH n) [] else n.keys.getD (spH n - 1) []
def spL (n : Nd) (right : Int) : Nd := if spBad n then n else if n.lvl = 0 then { n with high := spK n, right := right, keys := n.keys.take (spH n), vals := n.vals.take (spH n) } else { n with high := spK n, right := right, keys := n.keys.take (spH n - 1), kids := n.kids.take (spH n) }
def spR (n : Nd) : Nd := if spBad n then Nd.zero else if n.lvl = 0 then { n with keys := n.keys.drop (spH n), vals := n.vals.drop (spH n) } else { n with keys := n.keys.drop (spH n), kids := n.kids.drop (spH n) }
section
variable {w0 w w' : World} {n : Nd} {N x12 x13 x14 x15 x7 x8 : Value} {L : Nat -> Prop}
end
end Go.Proofs.YtbhohohgojcapaaGreat
