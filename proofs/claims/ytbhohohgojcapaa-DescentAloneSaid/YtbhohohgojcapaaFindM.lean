/- Where a key is in a row, as such. -/
import Derived.Test.YtbhohohgojcapaaTexts
namespace Go.Proofs.Ytbhohohgojcapaa
open Go.RowKit

/-- How many keys are below; is it there? -/
def below (l : List (List UInt8)) (k : List UInt8) : Nat := l.countP (fun x => decide (cmp x k < 0))
end Go.Proofs.Ytbhohohgojcapaa
