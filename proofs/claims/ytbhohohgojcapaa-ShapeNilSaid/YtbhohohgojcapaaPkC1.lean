import Derived.Test.YtbhohohgojcapaaPkC0
namespace Go.Proofs.Ytbhohohgojcapaa
open Go.RowKit

/-- What the function value in the machine's slot 'next' is. -/
def nvX (m : Nat) : Nx → Value
  | .root => .func (.func 41) #[pV m] #[]
  | .latch => .func (.func 87) #[pV m] #[]
  | .head => .func (.func 109) #[pV m] #[]
  | .body => .func (.func 125) #[pV m] #[]
  | .valid => .func (.func 136) #[pV m] #[]
  | .done => Value.nilFunc
/-- The program's machine at block m, on the arena at p. -/
abbrev MX (w : World) (m p : Nat) (S : Nat → Prop) (M : Mc) : Prop := MW w 108 m p (nvX m) S M

section
variable {w : World} {G S : Nat → Prop} {b p q m : Nat} {A B : Ar} {M : Mc}

end
end Go.Proofs.Ytbhohohgojcapaa

namespace Go.Proofs.Ytbhohohgojcapaa
open Go.RowKit

/-- What the number in the machine's slot 'next' is. -/
def nvR : Nx → Value
  | .root => iV 0
  | .latch => iV 1
  | .head => iV 2
  | .body => iV 3
  | .valid => iV 4
  | .done => iV 5
/-- The document's machine at block m, on the arena at q. -/
abbrev MR (w : World) (m q : Nat) (S : Nat → Prop) (M : Mc) : Prop := MW w 133 m q nvR S M

section
variable {w : World} {G S : Nat → Prop} {b p q m now : Nat} {A B : Ar} {M : Mc}

end
end Go.Proofs.Ytbhohohgojcapaa

namespace Go.Proofs.Ytbhohohgojcapaa
open Go.RowKit

section
variable {w : World} {G S : Nat → Prop} {b p q m : Nat} {A B : Ar} {M : Mc}

end
end Go.Proofs.Ytbhohohgojcapaa
