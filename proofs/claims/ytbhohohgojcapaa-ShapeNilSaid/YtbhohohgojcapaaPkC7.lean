import Derived.Test.YtbhohohgojcapaaPkC4
import Derived.Test.YtbhohohgojcapaaPkC5
import Derived.Test.YtbhohohgojcapaaPkC6
import Derived.Deep.Cut
namespace Go.Proofs.Ytbhohohgojcapaa
open Go.RowKit

abbrev oL (b : Nat) (x y : Value) : Ob := muBlk b 79 #[x, y]
section
variable {w : World} {M D : Nat → Prop} {q : Nat} {L : Value} {xs : List Value} {A : Ar} {a0 a1 a2 a3 a4 first level : Int} {mv : Value} {met0 : List Int}
end
end Go.Proofs.Ytbhohohgojcapaa
