/- node.rising. -/
import Derived.Test.YtbhohohgojcapaaRight
import Derived.Test.YtbhohohgojcapaaTexts
import Derived.Test.YtbhohohgojcapaaConf
namespace Go.Proofs.Ytbhohohgojcapaa
open Go.RowKit

section
variable {S T : Nat → Prop} {w : World} {a : Value} {ls : List (List UInt8)}

end
end Go.Proofs.Ytbhohohgojcapaa
