/- node.leafForm, node.innerForm. -/
import Derived.Test.YtbhohohgojcapaaFormB
import Derived.Maps.OwnOps
import Derived.Maps.Views
namespace Go.Proofs.Ytbhohohgojcapaa
open Go.RowKit Go.Maps

def leafOk (n : Nd) (leaf : Int) : Bool := decide (n.vals.length = n.keys.length) && (decide ((n.keys.length : Int) ≤ leaf) && (decide (n.kids.length = 0) && !(n.vals.any valBad)))
def kidsFine (l : List Int) (nodes : Int) : Bool := decide (l.Nodup) && l.all (fun k => decide (1 ≤ k ∧ k ≤ nodes))
def innerOk (n : Nd) (nodes inner : Int) : Bool := kidsFine n.kids nodes && (decide (n.vals.length = 0) && (decide (n.kids.length = n.keys.length + 1) && decide ((n.kids.length : Int) ≤ inner)))

section
variable {S T : Nat → Prop} {w : World} {c0 c1 c2 c3 c4 c5 : Value} {n : Nd}

end
end Go.Proofs.Ytbhohohgojcapaa
