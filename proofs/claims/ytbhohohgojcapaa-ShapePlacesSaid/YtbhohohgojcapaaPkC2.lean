import Derived.Test.YtbhohohgojcapaaPkC0
import Derived.Test.YtbhohohgojcapaaPkC1
namespace Go.Proofs.Ytbhohohgojcapaa
open Go.RowKit

/-- What the number in the machine's slot 'next' is. -/
def nvR : Nx → Value
  | .root => iV 0
  | .latch => iV 1
  | .head => iV 2
  | .body => iV 3
  | .valid => iV 4
  | .done => iV 5
/-- The document's machine at block m, on the arena at q. -/
abbrev MR (w : World) (m q : Nat) (S : Nat → Prop) (M : Mc) : Prop := MW w 133 m q nvR S M

section
variable {w : World} {G S : Nat → Prop} {b p q m now : Nat} {A B : Ar} {M : Mc}

end
end Go.Proofs.Ytbhohohgojcapaa
