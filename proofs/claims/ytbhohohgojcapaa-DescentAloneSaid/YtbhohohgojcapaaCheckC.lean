/- node.Check. -/
import Derived.Test.YtbhohohgojcapaaCheckB
namespace Go.Proofs.Ytbhohohgojcapaa
open Go.RowKit Go.Maps

def headOk (n : Nd) (nodes : Int) : Bool := decide (0 ≤ n.lvl ∧ n.lvl ≤ 32) && (decide (0 ≤ n.right ∧ n.right ≤ nodes) && ((((n.high.length : Int) == 0) == (n.right == 0)) && decide ((n.high.length : Int) ≤ 64)))
def keysOk (n : Nd) : Bool := rises n.keys && !(n.keys.any (keyBad n.high))
def formOk (n : Nd) (a0 a1 a2 : Int) : Bool := if n.lvl = 0 then leafOk n a1 else innerOk n a0 a2
def mayE (n : Nd) (a0 a1 a2 a3 a4 : Int) : Int := if confOk a0 a1 a2 a3 a4 then (if headOk n a0 && (keysOk n && formOk n a0 a1 a2) then 0 else 91) else 1

section
variable {S T : Nat → Prop} {w : World} {c0 c1 c2 c3 c4 c5 : Value} {n : Nd}

end
end Go.Proofs.Ytbhohohgojcapaa
