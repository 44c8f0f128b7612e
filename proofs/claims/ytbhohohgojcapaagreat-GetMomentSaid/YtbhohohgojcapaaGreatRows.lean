/-
  No cell of these rows narrows 'for every input' (looked for: loops, veiled, ifaces, maps, wideKeys, modest, calm, conditions, laid).
  DERIVED. THE GIVEN ROWS OF THIS SEAT. 5 by the template 'for every input the law returns true; each argument reads behind the call as it read before'; 0 by the template 'total and deterministic' (their statements: YtbhohohgojcapaaGreatTotals.lean).
  GIVEN WITH THE SEED: the statements are not yours to turn. If you find one false, say at which input.
  Laid BY PROGRAM, IN A SANDBOX (cutbox-rows.mjs): the forced cells as the released guide's own fill.sh prints them over the translation ad04ba9435afea01… (all of the seat's roots in one cut). By AI agents, Wed Nov 11 2026. No macro, syntax, notation, axiom, sorry.
-/
import Derived.Test.YtbhohohgojcapaaGreatChecked
import GoSem.Claim
import GoSem.ClaimJoined
import GoSem.ClaimMapViews
import Derived.JoinedTies
import Derived.KernelRfl
namespace Go.Proofs.YtbhohohgojcapaaGreat
/- THE CELL 'sum', in the pinned program and in every row, IS THE sha256 OF THE DUMP (.gsa) THAT YtbhohohgojcapaaGreatProg.lean LOADS. Nothing in Lean hashes anything: it is a label: what it is worth is what the hold of that sum in a sandbox is worth. -/
noncomputable def Tryz.pinned : Pinned := { name := "ytbhohohgojcapaagreat", sum := "ad04ba9435afea013a40ec8595e13e33984ab0c029aaeae77a053b49cbc785fc", checked := Tryz.checked }
namespace Rows
def none {H : Type} : Left H := { results := [], args := [] }

/-- 'coppicelaw13.GetAlone': WHATEVER THE INPUT: true; the input reads as it did. -/
def getAloneSpec : ChangeSpec := { name := "getAlone", fn := fun _ => fun
  | [d1, d2] => { results := [.lit (.bool true)], args := [d1, d2] }
  | _ => none }
def getAloneRow : OpenClaim := { program := "ytbhohohgojcapaagreat", sum := "ad04ba9435afea013a40ec8595e13e33984ab0c029aaeae77a053b49cbc785fc", func := "coppice/coppicelaw13.GetAlone", spec := "getAlone", inPlace := ["sync/atomic.StoreInt64", "sync/atomic.CompareAndSwapUint64", "sync/atomic.LoadUint64", "sync/atomic.AddUint64", "sync/atomic.LoadInt64", "internal/bytealg.Compare", "sync/atomic.StoreUint64", "sync/atomic.CompareAndSwapInt64"], unfollowed := true, recurses := true, apart := false }
def GetAloneSaid : Prop := getAloneRow.holds Tryz.pinned (OpenSpec.ofChange getAloneSpec)

/-- ITS FALSE NEIGHBOUR: 'it returns false'. Refute it at one input. -/
def getAloneWrong : ChangeSpec := { name := "getAlone", fn := fun _ => fun
  | [d1, d2] => { results := [.lit (.bool false)], args := [d1, d2] }
  | _ => none }
def GetAloneWrongFalsely : Prop := getAloneRow.holds Tryz.pinned (OpenSpec.ofChange getAloneWrong)

/-- 'coppicelaw13.GetPlays': WHATEVER THE INPUT: true; the input reads as it did. -/
def getPlaysSpec : ChangeSpec := { name := "getPlays", fn := fun _ => fun
  | [d] => { results := [.lit (.bool true)], args := [d] }
  | _ => none }
def getPlaysRow : OpenClaim := { program := "ytbhohohgojcapaagreat", sum := "ad04ba9435afea013a40ec8595e13e33984ab0c029aaeae77a053b49cbc785fc", func := "coppice/coppicelaw13.GetPlays", spec := "getPlays", inPlace := ["sync/atomic.StoreInt64", "sync/atomic.CompareAndSwapUint64", "sync/atomic.LoadUint64", "sync/atomic.AddUint64", "sync/atomic.LoadInt64", "internal/bytealg.Compare", "sync/atomic.StoreUint64", "sync/atomic.CompareAndSwapInt64"], unfollowed := true, recurses := true, apart := false }
def GetPlaysSaid : Prop := getPlaysRow.holds Tryz.pinned (OpenSpec.ofChange getPlaysSpec)

/-- ITS FALSE NEIGHBOUR: 'it returns false'. Refute it at one input. -/
def getPlaysWrong : ChangeSpec := { name := "getPlays", fn := fun _ => fun
  | [d] => { results := [.lit (.bool false)], args := [d] }
  | _ => none }
def GetPlaysWrongFalsely : Prop := getPlaysRow.holds Tryz.pinned (OpenSpec.ofChange getPlaysWrong)

/-- 'coppicelaw13.GetMoment': WHATEVER THE INPUT: true; the input reads as it did. -/
def getMomentSpec : ChangeSpec := { name := "getMoment", fn := fun _ => fun
  | [d] => { results := [.lit (.bool true)], args := [d] }
  | _ => none }
def getMomentRow : OpenClaim := { program := "ytbhohohgojcapaagreat", sum := "ad04ba9435afea013a40ec8595e13e33984ab0c029aaeae77a053b49cbc785fc", func := "coppice/coppicelaw13.GetMoment", spec := "getMoment", inPlace := ["sync/atomic.StoreInt64", "sync/atomic.CompareAndSwapUint64", "sync/atomic.LoadUint64", "sync/atomic.AddUint64", "sync/atomic.LoadInt64", "internal/bytealg.Compare", "sync/atomic.StoreUint64", "sync/atomic.CompareAndSwapInt64"], unfollowed := true, recurses := true, apart := false }
def GetMomentSaid : Prop := getMomentRow.holds Tryz.pinned (OpenSpec.ofChange getMomentSpec)

/-- ITS FALSE NEIGHBOUR: 'it returns false'. Refute it at one input. -/
def getMomentWrong : ChangeSpec := { name := "getMoment", fn := fun _ => fun
  | [d] => { results := [.lit (.bool false)], args := [d] }
  | _ => none }
def GetMomentWrongFalsely : Prop := getMomentRow.holds Tryz.pinned (OpenSpec.ofChange getMomentWrong)

/-- 'coppicelaw11.ShapeChecks': WHATEVER THE INPUT: true; the input reads as it did. -/
def shapeChecksSpec : ChangeSpec := { name := "shapeChecks", fn := fun _ => fun
  | [d] => { results := [.lit (.bool true)], args := [d] }
  | _ => none }
def shapeChecksRow : OpenClaim := { program := "ytbhohohgojcapaagreat", sum := "ad04ba9435afea013a40ec8595e13e33984ab0c029aaeae77a053b49cbc785fc", func := "coppice/coppicelaw11.ShapeChecks", spec := "shapeChecks", inPlace := ["sync/atomic.StoreInt64", "sync/atomic.LoadUint64", "sync/atomic.LoadInt64", "internal/bytealg.Compare", "sync/atomic.StoreUint64", "sync/atomic.CompareAndSwapUint64", "sync/atomic.AddUint64", "sync/atomic.CompareAndSwapInt64"], unfollowed := true, recurses := true, apart := false }
def ShapeChecksSaid : Prop := shapeChecksRow.holds Tryz.pinned (OpenSpec.ofChange shapeChecksSpec)

/-- ITS FALSE NEIGHBOUR: 'it returns false'. Refute it at one input. -/
def shapeChecksWrong : ChangeSpec := { name := "shapeChecks", fn := fun _ => fun
  | [d] => { results := [.lit (.bool false)], args := [d] }
  | _ => none }
def ShapeChecksWrongFalsely : Prop := shapeChecksRow.holds Tryz.pinned (OpenSpec.ofChange shapeChecksWrong)

/-- 'coppicelaw11.ShapePacked': WHATEVER THE INPUT: true; the input reads as it did. -/
def shapePackedSpec : ChangeSpec := { name := "shapePacked", fn := fun _ => fun
  | [d] => { results := [.lit (.bool true)], args := [d] }
  | _ => none }
def shapePackedRow : OpenClaim := { program := "ytbhohohgojcapaagreat", sum := "ad04ba9435afea013a40ec8595e13e33984ab0c029aaeae77a053b49cbc785fc", func := "coppice/coppicelaw11.ShapePacked", spec := "shapePacked", inPlace := ["sync/atomic.StoreInt64", "sync/atomic.LoadUint64", "sync/atomic.LoadInt64", "internal/bytealg.Compare", "sync/atomic.StoreUint64", "sync/atomic.CompareAndSwapUint64", "sync/atomic.AddUint64", "sync/atomic.CompareAndSwapInt64"], unfollowed := true, recurses := true, apart := false }
def ShapePackedSaid : Prop := shapePackedRow.holds Tryz.pinned (OpenSpec.ofChange shapePackedSpec)

/-- ITS FALSE NEIGHBOUR: 'it returns false'. Refute it at one input. -/
def shapePackedWrong : ChangeSpec := { name := "shapePacked", fn := fun _ => fun
  | [d] => { results := [.lit (.bool false)], args := [d] }
  | _ => none }
def ShapePackedWrongFalsely : Prop := shapePackedRow.holds Tryz.pinned (OpenSpec.ofChange shapePackedWrong)

/- THE SECOND FORM. 'bulk': how many values and letters a reading holds, each counted each time it is reached (what is shared counts as often as it is met; a slice's spare places count too). A statement '..UptoSaid' is the law's where the arguments, and the package variables that the reading takes, are together of bulk at most 1048576: NARROWER than '..Said'. Prove '..Said' where nothing that the law and all that it calls make is longer than what came in: it says more and counts as full. Else prove '..UptoSaid'. A law counts once. -/
mutual
def uptoBulk {H : Type} : DataW H → Nat
  | .lit (.string bytes) => bytes.length + 1
  | .lit _ => 1
  | .nil => 1
  | .ptr d => uptoBulk d + 1
  | .slice elems spare => uptoBulkAll elems + uptoBulkAll spare + 1
  | .agg parts => uptoBulkAll parts + 1
  | .iface _ d => uptoBulk d + 1
  | .map entries => uptoBulkEntries entries + 1
  | .held _ => 1
def uptoBulkAll {H : Type} : List (DataW H) → Nat
  | [] => 0
  | d :: r => uptoBulk d + uptoBulkAll r
def uptoBulkEntries {H : Type} : List (Lit × DataW H) → Nat
  | [] => 0
  | x :: r => uptoBulkEntry x + uptoBulkEntries r
def uptoBulkEntry {H : Type} : Lit × DataW H → Nat
  | (.string bytes, d) => bytes.length + uptoBulk d + 1
  | (_, d) => uptoBulk d + 1
 end
def uptoSmall : (H : Type) → List (DataW H) → Bool := fun _ ds => decide (uptoBulkAll ds ≤ 1048576)
def OpenSpec.upto (s : _root_.Go.ChangeSpec) : _root_.Go.OpenSpec := { _root_.Go.OpenSpec.ofChange s with cond := some uptoSmall }

/-- 'coppicelaw13.GetAlone', WHERE WHAT IT READS IS OF BULK AT MOST 1048576: true; the input reads as it did. -/
def getAloneUptoRow : OpenClaim := { program := "ytbhohohgojcapaagreat", sum := "ad04ba9435afea013a40ec8595e13e33984ab0c029aaeae77a053b49cbc785fc", func := "coppice/coppicelaw13.GetAlone", spec := "getAlone", inPlace := ["sync/atomic.StoreInt64", "sync/atomic.CompareAndSwapUint64", "sync/atomic.LoadUint64", "sync/atomic.AddUint64", "sync/atomic.LoadInt64", "internal/bytealg.Compare", "sync/atomic.StoreUint64", "sync/atomic.CompareAndSwapInt64"], unfollowed := true, recurses := true, apart := false, narrowed := true }
def GetAloneUptoSaid : Prop := getAloneUptoRow.holds Tryz.pinned (OpenSpec.upto getAloneSpec)

/-- 'coppicelaw13.GetPlays', WHERE WHAT IT READS IS OF BULK AT MOST 1048576: true; the input reads as it did. -/
def getPlaysUptoRow : OpenClaim := { program := "ytbhohohgojcapaagreat", sum := "ad04ba9435afea013a40ec8595e13e33984ab0c029aaeae77a053b49cbc785fc", func := "coppice/coppicelaw13.GetPlays", spec := "getPlays", inPlace := ["sync/atomic.StoreInt64", "sync/atomic.CompareAndSwapUint64", "sync/atomic.LoadUint64", "sync/atomic.AddUint64", "sync/atomic.LoadInt64", "internal/bytealg.Compare", "sync/atomic.StoreUint64", "sync/atomic.CompareAndSwapInt64"], unfollowed := true, recurses := true, apart := false, narrowed := true }
def GetPlaysUptoSaid : Prop := getPlaysUptoRow.holds Tryz.pinned (OpenSpec.upto getPlaysSpec)

/-- 'coppicelaw13.GetMoment', WHERE WHAT IT READS IS OF BULK AT MOST 1048576: true; the input reads as it did. -/
def getMomentUptoRow : OpenClaim := { program := "ytbhohohgojcapaagreat", sum := "ad04ba9435afea013a40ec8595e13e33984ab0c029aaeae77a053b49cbc785fc", func := "coppice/coppicelaw13.GetMoment", spec := "getMoment", inPlace := ["sync/atomic.StoreInt64", "sync/atomic.CompareAndSwapUint64", "sync/atomic.LoadUint64", "sync/atomic.AddUint64", "sync/atomic.LoadInt64", "internal/bytealg.Compare", "sync/atomic.StoreUint64", "sync/atomic.CompareAndSwapInt64"], unfollowed := true, recurses := true, apart := false, narrowed := true }
def GetMomentUptoSaid : Prop := getMomentUptoRow.holds Tryz.pinned (OpenSpec.upto getMomentSpec)

/-- 'coppicelaw11.ShapeChecks', WHERE WHAT IT READS IS OF BULK AT MOST 1048576: true; the input reads as it did. -/
def shapeChecksUptoRow : OpenClaim := { program := "ytbhohohgojcapaagreat", sum := "ad04ba9435afea013a40ec8595e13e33984ab0c029aaeae77a053b49cbc785fc", func := "coppice/coppicelaw11.ShapeChecks", spec := "shapeChecks", inPlace := ["sync/atomic.StoreInt64", "sync/atomic.LoadUint64", "sync/atomic.LoadInt64", "internal/bytealg.Compare", "sync/atomic.StoreUint64", "sync/atomic.CompareAndSwapUint64", "sync/atomic.AddUint64", "sync/atomic.CompareAndSwapInt64"], unfollowed := true, recurses := true, apart := false, narrowed := true }
def ShapeChecksUptoSaid : Prop := shapeChecksUptoRow.holds Tryz.pinned (OpenSpec.upto shapeChecksSpec)

/-- 'coppicelaw11.ShapePacked', WHERE WHAT IT READS IS OF BULK AT MOST 1048576: true; the input reads as it did. -/
def shapePackedUptoRow : OpenClaim := { program := "ytbhohohgojcapaagreat", sum := "ad04ba9435afea013a40ec8595e13e33984ab0c029aaeae77a053b49cbc785fc", func := "coppice/coppicelaw11.ShapePacked", spec := "shapePacked", inPlace := ["sync/atomic.StoreInt64", "sync/atomic.LoadUint64", "sync/atomic.LoadInt64", "internal/bytealg.Compare", "sync/atomic.StoreUint64", "sync/atomic.CompareAndSwapUint64", "sync/atomic.AddUint64", "sync/atomic.CompareAndSwapInt64"], unfollowed := true, recurses := true, apart := false, narrowed := true }
def ShapePackedUptoSaid : Prop := shapePackedUptoRow.holds Tryz.pinned (OpenSpec.upto shapePackedSpec)

end Rows
end Go.Proofs.YtbhohohgojcapaaGreat
