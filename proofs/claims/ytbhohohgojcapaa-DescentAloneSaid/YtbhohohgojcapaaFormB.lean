/- slices.ContainsFunc with the functions of node.Check and node.leafForm. -/
import Derived.Test.YtbhohohgojcapaaForm
namespace Go.Proofs.Ytbhohohgojcapaa
open Go.RowKit

section
variable {S T : Nat → Prop} {w : World} {a : Value} {ls : List (List UInt8)}

def keyBad (high x : List UInt8) : Bool := !(decide ((1 : Int) ≤ (x.length : Int) ∧ (x.length : Int) ≤ 64)) || beyond high x
def valBad (x : List UInt8) : Bool := decide ((256 : Int) < (x.length : Int))

end
end Go.Proofs.Ytbhohohgojcapaa
