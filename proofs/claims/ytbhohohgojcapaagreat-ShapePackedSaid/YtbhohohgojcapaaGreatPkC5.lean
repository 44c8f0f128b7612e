import Derived.Test.YtbhohohgojcapaaGreatPkC3
import Derived.Test.YtbhohohgojcapaaGreatPkC4
namespace Go.Proofs.YtbhohohgojcapaaGreat
open Go.RowKit

section
variable {w : World} {G S : Nat → Prop} {b p q m : Nat} {A B : Ar} {M : Mc}

end
end Go.Proofs.YtbhohohgojcapaaGreat

namespace Go.Proofs.YtbhohohgojcapaaGreat
open Go.RowKit

section
variable {w : World} {G S : Nat → Prop} {b p q m : Nat} {A B : Ar} {M : Mc} {v : Value} {key : List UInt8} {level : Int}

end
end Go.Proofs.YtbhohohgojcapaaGreat
