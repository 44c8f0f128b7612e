import Derived.Test.YtbhohohgojcapaaPkB5
import Derived.Test.YtbhohohgojcapaaPkA6
import Derived.Test.YtbhohohgojcapaaPkA7
namespace Go.Proofs.Ytbhohohgojcapaa
open Go.RowKit

def rpV (r : Rp) : Array Value := #[.bool r.sound, .int .i64 r.node, .int .i64 r.err, .int .i64 r.levels, .int .i64 r.nodes, .int .i64 r.entries]
section
variable {w : World} {S : Nat → Prop} {v : Value} {l : List Int} {x : Int}
end
end Go.Proofs.Ytbhohohgojcapaa

namespace Go.Proofs.Ytbhohohgojcapaa
open Go.RowKit

section
variable {w : World} {G : Nat → Prop} {b p q : Nat} {A B : Ar} {ix : Int}

end
end Go.Proofs.Ytbhohohgojcapaa

namespace Go.Proofs.Ytbhohohgojcapaa
open Go.RowKit

section
variable {S : Nat → Prop} {w : World} {c1 c3 c4 c5 : Value} {n : Nd} {NH NC : Nat}
/-- What a round of the spoiling keeps. -/
def SpN (S : Nat → Prop) (w : World) (c1 c3 c4 c5 : Value) (n : Nd) (NH NC : Nat) (wr : World) : Prop :=
  Spo S w c1 c3 c4 c5 n.high.length n.keys.length n.vals.length n.kids.length wr ∧ Blk wr NH 33 #[.int .i64 n.lvl, c1, .int .i64 n.right] ∧ Blk wr NC 35 #[c3, c4, c5]
variable {wr : World} {g i : Nat} {cs : Array Value}
theorem SpN.int (h : SpN S w c1 c3 c4 c5 n NH NC wr) (hs : S g) (hb : Blk wr g 3 cs) (b : Int) : SpN S w c1 c3 c4 c5 n NH NC (wr.setCell ⟨g, i, none⟩ (.int .i64 b)) :=
  ⟨h.1.int hs hb b, h.2.1.far (Blk.ne_ h.2.1 hb (by decide)) _, h.2.2.far (Blk.ne_ h.2.2 hb (by decide)) _⟩
end
section
variable {w : World} {G : Nat → Prop} {b p q : Nat} {A B : Ar} {ix : Int}

end
end Go.Proofs.Ytbhohohgojcapaa
