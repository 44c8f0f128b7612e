/- The document's machine of a descent: one step. -/
import Derived.Test.YtbhohohgojcapaaDesD
import Derived.Test.YtbhohohgojcapaaDesS
namespace Go.Proofs.Ytbhohohgojcapaa
open Go.RowKit

section
variable {w : World} {G S : Nat → Prop} {b p q m : Nat} {A B : Ar} {M : Mc}

end
end Go.Proofs.Ytbhohohgojcapaa
