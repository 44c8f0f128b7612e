/- A statement whose order is open, walked by what holds of whichever operations have been. -/
import Derived.Test.YtbhohohgojcapaaGreatBase
namespace Go.Proofs.YtbhohohgojcapaaGreat
open Go.RowKit

section
variable {P : Program} {md : Region.Mode} {ops : Array Oper} {Q : Exit → Act → World → Prop}

end
end Go.Proofs.YtbhohohgojcapaaGreat
