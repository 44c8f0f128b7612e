import Derived.Test.YtbhohohgojcapaaPkA7
import Derived.Test.YtbhohohgojcapaaPkA8
namespace Go.Proofs.Ytbhohohgojcapaa
open Go.RowKit

/-- How many keys are below; is it there? -/
def below (l : List (List UInt8)) (k : List UInt8) : Nat := l.countP (fun x => decide (cmp x k < 0))
end Go.Proofs.Ytbhohohgojcapaa

namespace Go.Proofs.Ytbhohohgojcapaa
open Go.RowKit

end Go.Proofs.Ytbhohohgojcapaa
