import Derived.Test.YtbhohohgojcapaaPkB4
import Derived.BigQuiet
namespace Go.Proofs.Ytbhohohgojcapaa
open Go.RowKit

section
variable {P : Program} {ops : Array Oper} {Q : Exit → Act → World → Prop} {md : Region.Mode} {k : Nat} {C : World → Prop}
/-- An operation whose guard says no. -/
theorem wpCanon_skip {i : Nat} {rest : List Nat} {listed : Array Bool} {a : Act} {w : World} {o : Oper} (ho' : ops.toList[i]? = some o)
    (hr : early md ops k i o = true) (hw : Region.wanted o (yielded ops a.tmps) = false) (h : wpCanon P md ops Q k C rest (listed.setIfInBounds i true) (a.put o.dst undef) w) : wpCanon P md ops Q k C (i :: rest) listed a w := by
  have ho : ops[i]? = some o := by rw [← Array.getElem?_toList]; exact ho'
  simp only [wpCanon, ho]
  rw [if_pos hr]
  exact ⟨undef, .inr ⟨hw, rfl⟩, h⟩
end

section
variable {S T : Nat → Prop} {w : World} {a c0 c1 c2 c3 c4 c5 : Value} {n : Nd} {x : List UInt8}

end
end Go.Proofs.Ytbhohohgojcapaa

namespace Go.Proofs.Ytbhohohgojcapaa
open Go.RowKit

section
variable {S T : Nat → Prop} {w : World} {a c0 c1 c2 c3 c4 c5 : Value} {n : Nd} {x : List UInt8}

end
end Go.Proofs.Ytbhohohgojcapaa

namespace Go.Proofs.Ytbhohohgojcapaa
open Go.RowKit

section
variable {S T : Nat → Prop} {w : World} {a c0 c1 c2 c3 c4 c5 : Value} {n : Nd} {x : List UInt8}

end
end Go.Proofs.Ytbhohohgojcapaa
