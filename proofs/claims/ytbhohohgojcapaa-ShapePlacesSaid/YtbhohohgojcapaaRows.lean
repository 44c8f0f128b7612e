/-
  No cell of these rows narrows 'for every input' (looked for: loops, veiled, ifaces, maps, wideKeys, modest, calm, conditions, laid).
  DERIVED. THE GIVEN ROWS OF THIS SEAT. 6 by the template 'for every input the law returns true; each argument reads behind the call as it read before'; 0 by the template 'total and deterministic' (their statements: YtbhohohgojcapaaTotals.lean).
  GIVEN WITH THE SEED: the statements are not yours to turn. If you find one false, say at which input.
  Laid BY PROGRAM, IN A SANDBOX (cutbox-rows.mjs): the forced cells as the released guide's own fill.sh prints them over the translation 9ce629ed339ce9eb… (all of the seat's roots in one cut). By AI agents, Wed Nov 11 2026. No macro, syntax, notation, axiom, sorry.
-/
import Derived.Test.YtbhohohgojcapaaChecked
import GoSem.Claim
import GoSem.ClaimJoined
import GoSem.ClaimMapViews
import Derived.JoinedTies
import Derived.KernelRfl
namespace Go.Proofs.Ytbhohohgojcapaa
/- THE CELL 'sum', in the pinned program and in every row, IS THE sha256 OF THE DUMP (.gsa) THAT YtbhohohgojcapaaProg.lean LOADS. Nothing in Lean hashes anything: it is a label: what it is worth is what the hold of that sum in a sandbox is worth. -/
noncomputable def Try.pinned : Pinned := { name := "ytbhohohgojcapaa", sum := "9ce629ed339ce9eb716f3c66da31645497f053ec88d0de53aff46d0629473bbe", checked := Try.checked }
namespace Rows
def none {H : Type} : Left H := { results := [], args := [] }

/-- 'coppicelaw12.DescentTrue': WHATEVER THE INPUT: true; the input reads as it did. -/
def descentTrueSpec : ChangeSpec := { name := "descentTrue", fn := fun _ => fun
  | [d] => { results := [.lit (.bool true)], args := [d] }
  | _ => none }
def descentTrueRow : OpenClaim := { program := "ytbhohohgojcapaa", sum := "9ce629ed339ce9eb716f3c66da31645497f053ec88d0de53aff46d0629473bbe", func := "coppice/coppicelaw12.DescentTrue", spec := "descentTrue", inPlace := ["sync/atomic.StoreInt64", "sync/atomic.LoadInt64", "sync/atomic.LoadUint64", "internal/bytealg.Compare", "sync/atomic.StoreUint64", "sync/atomic.CompareAndSwapUint64", "sync/atomic.AddUint64", "sync/atomic.CompareAndSwapInt64"], unfollowed := true, recurses := true, apart := false }
def DescentTrueSaid : Prop := descentTrueRow.holds Try.pinned (OpenSpec.ofChange descentTrueSpec)

/-- ITS FALSE NEIGHBOUR: 'it returns false'. Refute it at one input. -/
def descentTrueWrong : ChangeSpec := { name := "descentTrue", fn := fun _ => fun
  | [d] => { results := [.lit (.bool false)], args := [d] }
  | _ => none }
def DescentTrueWrongFalsely : Prop := descentTrueRow.holds Try.pinned (OpenSpec.ofChange descentTrueWrong)

/-- 'coppicelaw12.DescentPlays': WHATEVER THE INPUT: true; the input reads as it did. -/
def descentPlaysSpec : ChangeSpec := { name := "descentPlays", fn := fun _ => fun
  | [d] => { results := [.lit (.bool true)], args := [d] }
  | _ => none }
def descentPlaysRow : OpenClaim := { program := "ytbhohohgojcapaa", sum := "9ce629ed339ce9eb716f3c66da31645497f053ec88d0de53aff46d0629473bbe", func := "coppice/coppicelaw12.DescentPlays", spec := "descentPlays", inPlace := ["sync/atomic.StoreInt64", "sync/atomic.LoadInt64", "sync/atomic.LoadUint64", "internal/bytealg.Compare", "sync/atomic.StoreUint64", "sync/atomic.CompareAndSwapUint64", "sync/atomic.AddUint64", "sync/atomic.CompareAndSwapInt64"], unfollowed := true, recurses := true, apart := false }
def DescentPlaysSaid : Prop := descentPlaysRow.holds Try.pinned (OpenSpec.ofChange descentPlaysSpec)

/-- ITS FALSE NEIGHBOUR: 'it returns false'. Refute it at one input. -/
def descentPlaysWrong : ChangeSpec := { name := "descentPlays", fn := fun _ => fun
  | [d] => { results := [.lit (.bool false)], args := [d] }
  | _ => none }
def DescentPlaysWrongFalsely : Prop := descentPlaysRow.holds Try.pinned (OpenSpec.ofChange descentPlaysWrong)

/-- 'coppicelaw12.DescentAlone': WHATEVER THE INPUT: true; the input reads as it did. -/
def descentAloneSpec : ChangeSpec := { name := "descentAlone", fn := fun _ => fun
  | [d] => { results := [.lit (.bool true)], args := [d] }
  | _ => none }
def descentAloneRow : OpenClaim := { program := "ytbhohohgojcapaa", sum := "9ce629ed339ce9eb716f3c66da31645497f053ec88d0de53aff46d0629473bbe", func := "coppice/coppicelaw12.DescentAlone", spec := "descentAlone", inPlace := ["sync/atomic.StoreInt64", "sync/atomic.LoadInt64", "sync/atomic.LoadUint64", "internal/bytealg.Compare", "sync/atomic.StoreUint64", "sync/atomic.CompareAndSwapUint64", "sync/atomic.AddUint64", "sync/atomic.CompareAndSwapInt64"], unfollowed := true, recurses := true, apart := false }
def DescentAloneSaid : Prop := descentAloneRow.holds Try.pinned (OpenSpec.ofChange descentAloneSpec)

/-- ITS FALSE NEIGHBOUR: 'it returns false'. Refute it at one input. -/
def descentAloneWrong : ChangeSpec := { name := "descentAlone", fn := fun _ => fun
  | [d] => { results := [.lit (.bool false)], args := [d] }
  | _ => none }
def DescentAloneWrongFalsely : Prop := descentAloneRow.holds Try.pinned (OpenSpec.ofChange descentAloneWrong)

/-- 'coppicelaw11.ShapeNil': WHATEVER THE INPUT: true; the input reads as it did. -/
def shapeNilSpec : ChangeSpec := { name := "shapeNil", fn := fun _ => fun
  | [d] => { results := [.lit (.bool true)], args := [d] }
  | _ => none }
def shapeNilRow : OpenClaim := { program := "ytbhohohgojcapaa", sum := "9ce629ed339ce9eb716f3c66da31645497f053ec88d0de53aff46d0629473bbe", func := "coppice/coppicelaw11.ShapeNil", spec := "shapeNil", inPlace := ["sync/atomic.StoreInt64", "sync/atomic.LoadUint64", "sync/atomic.LoadInt64", "internal/bytealg.Compare"], unfollowed := true, recurses := true, apart := false }
def ShapeNilSaid : Prop := shapeNilRow.holds Try.pinned (OpenSpec.ofChange shapeNilSpec)

/-- ITS FALSE NEIGHBOUR: 'it returns false'. Refute it at one input. -/
def shapeNilWrong : ChangeSpec := { name := "shapeNil", fn := fun _ => fun
  | [d] => { results := [.lit (.bool false)], args := [d] }
  | _ => none }
def ShapeNilWrongFalsely : Prop := shapeNilRow.holds Try.pinned (OpenSpec.ofChange shapeNilWrong)

/-- 'coppicelaw11.ShapeMaps': WHATEVER THE INPUT: true; the input reads as it did. -/
def shapeMapsSpec : ChangeSpec := { name := "shapeMaps", fn := fun _ => fun
  | [d] => { results := [.lit (.bool true)], args := [d] }
  | _ => none }
def shapeMapsRow : OpenClaim := { program := "ytbhohohgojcapaa", sum := "9ce629ed339ce9eb716f3c66da31645497f053ec88d0de53aff46d0629473bbe", func := "coppice/coppicelaw11.ShapeMaps", spec := "shapeMaps", inPlace := ["sync/atomic.StoreInt64", "sync/atomic.LoadUint64", "sync/atomic.LoadInt64", "internal/bytealg.Compare", "sync/atomic.StoreUint64", "sync/atomic.CompareAndSwapUint64", "sync/atomic.AddUint64", "sync/atomic.CompareAndSwapInt64"], unfollowed := true, recurses := true, apart := false }
def ShapeMapsSaid : Prop := shapeMapsRow.holds Try.pinned (OpenSpec.ofChange shapeMapsSpec)

/-- ITS FALSE NEIGHBOUR: 'it returns false'. Refute it at one input. -/
def shapeMapsWrong : ChangeSpec := { name := "shapeMaps", fn := fun _ => fun
  | [d] => { results := [.lit (.bool false)], args := [d] }
  | _ => none }
def ShapeMapsWrongFalsely : Prop := shapeMapsRow.holds Try.pinned (OpenSpec.ofChange shapeMapsWrong)

/-- 'coppicelaw11.ShapePlaces': WHATEVER THE INPUT: true; the input reads as it did. -/
def shapePlacesSpec : ChangeSpec := { name := "shapePlaces", fn := fun _ => fun
  | [d] => { results := [.lit (.bool true)], args := [d] }
  | _ => none }
def shapePlacesRow : OpenClaim := { program := "ytbhohohgojcapaa", sum := "9ce629ed339ce9eb716f3c66da31645497f053ec88d0de53aff46d0629473bbe", func := "coppice/coppicelaw11.ShapePlaces", spec := "shapePlaces", inPlace := ["sync/atomic.StoreInt64", "sync/atomic.LoadUint64", "sync/atomic.LoadInt64", "internal/bytealg.Compare", "sync/atomic.StoreUint64", "sync/atomic.CompareAndSwapUint64", "sync/atomic.AddUint64", "sync/atomic.CompareAndSwapInt64"], unfollowed := true, recurses := true, apart := false }
def ShapePlacesSaid : Prop := shapePlacesRow.holds Try.pinned (OpenSpec.ofChange shapePlacesSpec)

/-- ITS FALSE NEIGHBOUR: 'it returns false'. Refute it at one input. -/
def shapePlacesWrong : ChangeSpec := { name := "shapePlaces", fn := fun _ => fun
  | [d] => { results := [.lit (.bool false)], args := [d] }
  | _ => none }
def ShapePlacesWrongFalsely : Prop := shapePlacesRow.holds Try.pinned (OpenSpec.ofChange shapePlacesWrong)

/- THE SECOND FORM. 'bulk': how many values and letters a reading holds, each counted each time it is reached (what is shared counts as often as it is met; a slice's spare places count too). A statement '..UptoSaid' is the law's where the arguments, and the package variables that the reading takes, are together of bulk at most 1048576: NARROWER than '..Said'. Prove '..Said' where nothing that the law and all that it calls make is longer than what came in: it says more and counts as full. Else prove '..UptoSaid'. A law counts once. -/
mutual
def uptoBulk {H : Type} : DataW H → Nat
  | .lit (.string bytes) => bytes.length + 1
  | .lit _ => 1
  | .nil => 1
  | .ptr d => uptoBulk d + 1
  | .slice elems spare => uptoBulkAll elems + uptoBulkAll spare + 1
  | .agg parts => uptoBulkAll parts + 1
  | .iface _ d => uptoBulk d + 1
  | .map entries => uptoBulkEntries entries + 1
  | .held _ => 1
def uptoBulkAll {H : Type} : List (DataW H) → Nat
  | [] => 0
  | d :: r => uptoBulk d + uptoBulkAll r
def uptoBulkEntries {H : Type} : List (Lit × DataW H) → Nat
  | [] => 0
  | x :: r => uptoBulkEntry x + uptoBulkEntries r
def uptoBulkEntry {H : Type} : Lit × DataW H → Nat
  | (.string bytes, d) => bytes.length + uptoBulk d + 1
  | (_, d) => uptoBulk d + 1
 end
def uptoSmall : (H : Type) → List (DataW H) → Bool := fun _ ds => decide (uptoBulkAll ds ≤ 1048576)
def OpenSpec.upto (s : _root_.Go.ChangeSpec) : _root_.Go.OpenSpec := { _root_.Go.OpenSpec.ofChange s with cond := some uptoSmall }

/-- 'coppicelaw12.DescentTrue', WHERE WHAT IT READS IS OF BULK AT MOST 1048576: true; the input reads as it did. -/
def descentTrueUptoRow : OpenClaim := { program := "ytbhohohgojcapaa", sum := "9ce629ed339ce9eb716f3c66da31645497f053ec88d0de53aff46d0629473bbe", func := "coppice/coppicelaw12.DescentTrue", spec := "descentTrue", inPlace := ["sync/atomic.StoreInt64", "sync/atomic.LoadInt64", "sync/atomic.LoadUint64", "internal/bytealg.Compare", "sync/atomic.StoreUint64", "sync/atomic.CompareAndSwapUint64", "sync/atomic.AddUint64", "sync/atomic.CompareAndSwapInt64"], unfollowed := true, recurses := true, apart := false, narrowed := true }
def DescentTrueUptoSaid : Prop := descentTrueUptoRow.holds Try.pinned (OpenSpec.upto descentTrueSpec)

/-- 'coppicelaw12.DescentPlays', WHERE WHAT IT READS IS OF BULK AT MOST 1048576: true; the input reads as it did. -/
def descentPlaysUptoRow : OpenClaim := { program := "ytbhohohgojcapaa", sum := "9ce629ed339ce9eb716f3c66da31645497f053ec88d0de53aff46d0629473bbe", func := "coppice/coppicelaw12.DescentPlays", spec := "descentPlays", inPlace := ["sync/atomic.StoreInt64", "sync/atomic.LoadInt64", "sync/atomic.LoadUint64", "internal/bytealg.Compare", "sync/atomic.StoreUint64", "sync/atomic.CompareAndSwapUint64", "sync/atomic.AddUint64", "sync/atomic.CompareAndSwapInt64"], unfollowed := true, recurses := true, apart := false, narrowed := true }
def DescentPlaysUptoSaid : Prop := descentPlaysUptoRow.holds Try.pinned (OpenSpec.upto descentPlaysSpec)

/-- 'coppicelaw12.DescentAlone', WHERE WHAT IT READS IS OF BULK AT MOST 1048576: true; the input reads as it did. -/
def descentAloneUptoRow : OpenClaim := { program := "ytbhohohgojcapaa", sum := "9ce629ed339ce9eb716f3c66da31645497f053ec88d0de53aff46d0629473bbe", func := "coppice/coppicelaw12.DescentAlone", spec := "descentAlone", inPlace := ["sync/atomic.StoreInt64", "sync/atomic.LoadInt64", "sync/atomic.LoadUint64", "internal/bytealg.Compare", "sync/atomic.StoreUint64", "sync/atomic.CompareAndSwapUint64", "sync/atomic.AddUint64", "sync/atomic.CompareAndSwapInt64"], unfollowed := true, recurses := true, apart := false, narrowed := true }
def DescentAloneUptoSaid : Prop := descentAloneUptoRow.holds Try.pinned (OpenSpec.upto descentAloneSpec)

/-- 'coppicelaw11.ShapeNil', WHERE WHAT IT READS IS OF BULK AT MOST 1048576: true; the input reads as it did. -/
def shapeNilUptoRow : OpenClaim := { program := "ytbhohohgojcapaa", sum := "9ce629ed339ce9eb716f3c66da31645497f053ec88d0de53aff46d0629473bbe", func := "coppice/coppicelaw11.ShapeNil", spec := "shapeNil", inPlace := ["sync/atomic.StoreInt64", "sync/atomic.LoadUint64", "sync/atomic.LoadInt64", "internal/bytealg.Compare"], unfollowed := true, recurses := true, apart := false, narrowed := true }
def ShapeNilUptoSaid : Prop := shapeNilUptoRow.holds Try.pinned (OpenSpec.upto shapeNilSpec)

/-- 'coppicelaw11.ShapeMaps', WHERE WHAT IT READS IS OF BULK AT MOST 1048576: true; the input reads as it did. -/
def shapeMapsUptoRow : OpenClaim := { program := "ytbhohohgojcapaa", sum := "9ce629ed339ce9eb716f3c66da31645497f053ec88d0de53aff46d0629473bbe", func := "coppice/coppicelaw11.ShapeMaps", spec := "shapeMaps", inPlace := ["sync/atomic.StoreInt64", "sync/atomic.LoadUint64", "sync/atomic.LoadInt64", "internal/bytealg.Compare", "sync/atomic.StoreUint64", "sync/atomic.CompareAndSwapUint64", "sync/atomic.AddUint64", "sync/atomic.CompareAndSwapInt64"], unfollowed := true, recurses := true, apart := false, narrowed := true }
def ShapeMapsUptoSaid : Prop := shapeMapsUptoRow.holds Try.pinned (OpenSpec.upto shapeMapsSpec)

/-- 'coppicelaw11.ShapePlaces', WHERE WHAT IT READS IS OF BULK AT MOST 1048576: true; the input reads as it did. -/
def shapePlacesUptoRow : OpenClaim := { program := "ytbhohohgojcapaa", sum := "9ce629ed339ce9eb716f3c66da31645497f053ec88d0de53aff46d0629473bbe", func := "coppice/coppicelaw11.ShapePlaces", spec := "shapePlaces", inPlace := ["sync/atomic.StoreInt64", "sync/atomic.LoadUint64", "sync/atomic.LoadInt64", "internal/bytealg.Compare", "sync/atomic.StoreUint64", "sync/atomic.CompareAndSwapUint64", "sync/atomic.AddUint64", "sync/atomic.CompareAndSwapInt64"], unfollowed := true, recurses := true, apart := false, narrowed := true }
def ShapePlacesUptoSaid : Prop := shapePlacesUptoRow.holds Try.pinned (OpenSpec.upto shapePlacesSpec)

end Rows
end Go.Proofs.Ytbhohohgojcapaa
