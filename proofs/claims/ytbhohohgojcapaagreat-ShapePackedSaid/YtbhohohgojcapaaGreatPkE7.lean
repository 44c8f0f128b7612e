import Derived.Test.YtbhohohgojcapaaGreatPkE1
import Derived.Test.YtbhohohgojcapaaGreatPkE6
namespace Go.Proofs.YtbhohohgojcapaaGreat
open Go.RowKit

section
variable {w : World} {M D : Nat → Prop} {q : Nat} {L : Value} {xs : List Value} {A : Ar} {a0 a1 a2 a3 a4 : Int}
end
end Go.Proofs.YtbhohohgojcapaaGreat
