/- The world at hand under a name of its own, behind a loop or a block. -/
import Derived.Test.YtbhohohgojcapaaGreatBase
namespace Go.Proofs.YtbhohohgojcapaaGreat
theorem then_at {K : Act → World → Prop} {Q : Exit → Act → World → Prop} {e : Exit} {a : Act} {w : World} (h : ∀ w', w' = w → Exit.then K Q e a w') : Exit.then K Q e a w := h w rfl
end Go.Proofs.YtbhohohgojcapaaGreat
