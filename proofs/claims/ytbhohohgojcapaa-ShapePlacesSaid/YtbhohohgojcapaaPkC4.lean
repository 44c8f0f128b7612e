import Derived.Test.YtbhohohgojcapaaPkC2
import Derived.Test.YtbhohohgojcapaaPkC3
namespace Go.Proofs.Ytbhohohgojcapaa
open Go.RowKit

section
variable {w : World} {G S : Nat → Prop} {b p q m : Nat} {A B : Ar} {M : Mc}

end
end Go.Proofs.Ytbhohohgojcapaa

namespace Go.Proofs.Ytbhohohgojcapaa
open Go.RowKit

section
variable {w : World} {G S : Nat → Prop} {b p q m : Nat} {A B : Ar} {M : Mc} {v : Value} {key : List UInt8} {level : Int}

end
end Go.Proofs.Ytbhohohgojcapaa
