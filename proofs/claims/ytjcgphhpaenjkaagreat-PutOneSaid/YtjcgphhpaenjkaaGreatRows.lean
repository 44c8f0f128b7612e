/-
  No cell of these rows narrows 'for every input' (looked for: loops, veiled, ifaces, maps, wideKeys, modest, calm, conditions, laid).
  DERIVED. THE GIVEN ROWS OF THIS SEAT. 10 by the template 'for every input the law returns true; each argument reads behind the call as it read before'; 0 by the template 'total and deterministic' (their statements: YtjcgphhpaenjkaaGreatTotals.lean).
  GIVEN WITH THE SEED: the statements are not yours to turn. If you find one false, say at which input.
  Laid BY PROGRAM, IN A SANDBOX (cutbox-rows.mjs): the forced cells as the released guide's own fill.sh prints them over the translation a4298476256763dc… (all of the seat's roots in one cut). By AI agents, Wed Nov 11 2026. No macro, syntax, notation, axiom, sorry.
-/
import Derived.Test.YtjcgphhpaenjkaaGreatChecked
import GoSem.Claim
import GoSem.ClaimJoined
import GoSem.ClaimMapViews
import Derived.JoinedTies
import Derived.KernelRfl
namespace Go.Proofs.YtjcgphhpaenjkaaGreat
/- THE CELL 'sum', in the pinned program and in every row, IS THE sha256 OF THE DUMP (.gsa) THAT YtjcgphhpaenjkaaGreatProg.lean LOADS. Nothing in Lean hashes anything: it is a label: what it is worth is what the hold of that sum in a sandbox is worth. -/
noncomputable def Tryz.pinned : Pinned := { name := "ytjcgphhpaenjkaagreat", sum := "a4298476256763dca948bb1a039a1f288d85eb7597e8b45db48bdaa089654f1d", checked := Tryz.checked }
namespace Rows
def none {H : Type} : Left H := { results := [], args := [] }

/-- 'coppicelaw14.PutPlays': WHATEVER THE INPUT: true; the input reads as it did. -/
def putPlaysSpec : ChangeSpec := { name := "putPlays", fn := fun _ => fun
  | [d1, d2] => { results := [.lit (.bool true)], args := [d1, d2] }
  | _ => none }
def putPlaysRow : OpenClaim := { program := "ytjcgphhpaenjkaagreat", sum := "a4298476256763dca948bb1a039a1f288d85eb7597e8b45db48bdaa089654f1d", func := "coppice/coppicelaw14.PutPlays", spec := "putPlays", inPlace := ["sync/atomic.StoreInt64", "sync/atomic.LoadInt64", "sync/atomic.LoadUint64", "internal/bytealg.Compare", "sync/atomic.CompareAndSwapUint64", "slices.overlaps[[]byte]", "slices.overlaps[int]", "sync/atomic.AddUint64", "sync/atomic.StoreUint64", "sync/atomic.CompareAndSwapInt64"], unfollowed := true, recurses := true, apart := false }
def PutPlaysSaid : Prop := putPlaysRow.holds Tryz.pinned (OpenSpec.ofChange putPlaysSpec)

/-- ITS FALSE NEIGHBOUR: 'it returns false'. Refute it at one input. -/
def putPlaysWrong : ChangeSpec := { name := "putPlays", fn := fun _ => fun
  | [d1, d2] => { results := [.lit (.bool false)], args := [d1, d2] }
  | _ => none }
def PutPlaysWrongFalsely : Prop := putPlaysRow.holds Tryz.pinned (OpenSpec.ofChange putPlaysWrong)

/-- 'coppicelaw15.DelBack': WHATEVER THE INPUT: true; the input reads as it did. -/
def delBackSpec : ChangeSpec := { name := "delBack", fn := fun _ => fun
  | [d1, d2, d3] => { results := [.lit (.bool true)], args := [d1, d2, d3] }
  | _ => none }
def delBackRow : OpenClaim := { program := "ytjcgphhpaenjkaagreat", sum := "a4298476256763dca948bb1a039a1f288d85eb7597e8b45db48bdaa089654f1d", func := "coppice/coppicelaw15.DelBack", spec := "delBack", inPlace := ["sync/atomic.StoreInt64", "sync/atomic.LoadInt64", "sync/atomic.LoadUint64", "internal/bytealg.Compare", "sync/atomic.CompareAndSwapUint64", "slices.overlaps[[]byte]", "slices.overlaps[int]", "sync/atomic.AddUint64", "sync/atomic.StoreUint64", "sync/atomic.CompareAndSwapInt64"], unfollowed := true, recurses := true, apart := false }
def DelBackSaid : Prop := delBackRow.holds Tryz.pinned (OpenSpec.ofChange delBackSpec)

/-- ITS FALSE NEIGHBOUR: 'it returns false'. Refute it at one input. -/
def delBackWrong : ChangeSpec := { name := "delBack", fn := fun _ => fun
  | [d1, d2, d3] => { results := [.lit (.bool false)], args := [d1, d2, d3] }
  | _ => none }
def DelBackWrongFalsely : Prop := delBackRow.holds Tryz.pinned (OpenSpec.ofChange delBackWrong)

/-- 'coppicelaw16.ScanAlone': WHATEVER THE INPUT: true; the input reads as it did. -/
def scanAloneSpec : ChangeSpec := { name := "scanAlone", fn := fun _ => fun
  | [d1, d2, d3] => { results := [.lit (.bool true)], args := [d1, d2, d3] }
  | _ => none }
def scanAloneRow : OpenClaim := { program := "ytjcgphhpaenjkaagreat", sum := "a4298476256763dca948bb1a039a1f288d85eb7597e8b45db48bdaa089654f1d", func := "coppice/coppicelaw16.ScanAlone", spec := "scanAlone", inPlace := ["sync/atomic.StoreInt64", "sync/atomic.LoadInt64", "sync/atomic.LoadUint64", "internal/bytealg.Compare", "sync/atomic.CompareAndSwapUint64", "slices.overlaps[[]byte]", "slices.overlaps[int]", "sync/atomic.AddUint64", "sync/atomic.StoreUint64", "sync/atomic.CompareAndSwapInt64"], unfollowed := true, recurses := true, apart := false }
def ScanAloneSaid : Prop := scanAloneRow.holds Tryz.pinned (OpenSpec.ofChange scanAloneSpec)

/-- ITS FALSE NEIGHBOUR: 'it returns false'. Refute it at one input. -/
def scanAloneWrong : ChangeSpec := { name := "scanAlone", fn := fun _ => fun
  | [d1, d2, d3] => { results := [.lit (.bool false)], args := [d1, d2, d3] }
  | _ => none }
def ScanAloneWrongFalsely : Prop := scanAloneRow.holds Tryz.pinned (OpenSpec.ofChange scanAloneWrong)

/-- 'coppicelaw16.ScanLaid': WHATEVER THE INPUT: true; the input reads as it did. -/
def scanLaidSpec : ChangeSpec := { name := "scanLaid", fn := fun _ => fun
  | [d] => { results := [.lit (.bool true)], args := [d] }
  | _ => none }
def scanLaidRow : OpenClaim := { program := "ytjcgphhpaenjkaagreat", sum := "a4298476256763dca948bb1a039a1f288d85eb7597e8b45db48bdaa089654f1d", func := "coppice/coppicelaw16.ScanLaid", spec := "scanLaid", inPlace := ["sync/atomic.StoreInt64", "sync/atomic.LoadInt64", "sync/atomic.LoadUint64", "internal/bytealg.Compare", "sync/atomic.CompareAndSwapUint64", "slices.overlaps[[]byte]", "slices.overlaps[int]", "sync/atomic.AddUint64", "sync/atomic.StoreUint64", "sync/atomic.CompareAndSwapInt64"], unfollowed := true, recurses := true, apart := false }
def ScanLaidSaid : Prop := scanLaidRow.holds Tryz.pinned (OpenSpec.ofChange scanLaidSpec)

/-- ITS FALSE NEIGHBOUR: 'it returns false'. Refute it at one input. -/
def scanLaidWrong : ChangeSpec := { name := "scanLaid", fn := fun _ => fun
  | [d] => { results := [.lit (.bool false)], args := [d] }
  | _ => none }
def ScanLaidWrongFalsely : Prop := scanLaidRow.holds Tryz.pinned (OpenSpec.ofChange scanLaidWrong)

/-- 'coppicelaw15.DelPlays': WHATEVER THE INPUT: true; the input reads as it did. -/
def delPlaysSpec : ChangeSpec := { name := "delPlays", fn := fun _ => fun
  | [d1, d2] => { results := [.lit (.bool true)], args := [d1, d2] }
  | _ => none }
def delPlaysRow : OpenClaim := { program := "ytjcgphhpaenjkaagreat", sum := "a4298476256763dca948bb1a039a1f288d85eb7597e8b45db48bdaa089654f1d", func := "coppice/coppicelaw15.DelPlays", spec := "delPlays", inPlace := ["sync/atomic.StoreInt64", "sync/atomic.LoadInt64", "sync/atomic.LoadUint64", "internal/bytealg.Compare", "sync/atomic.CompareAndSwapUint64", "slices.overlaps[[]byte]", "slices.overlaps[int]", "sync/atomic.AddUint64", "sync/atomic.StoreUint64", "sync/atomic.CompareAndSwapInt64"], unfollowed := true, recurses := true, apart := false }
def DelPlaysSaid : Prop := delPlaysRow.holds Tryz.pinned (OpenSpec.ofChange delPlaysSpec)

/-- ITS FALSE NEIGHBOUR: 'it returns false'. Refute it at one input. -/
def delPlaysWrong : ChangeSpec := { name := "delPlays", fn := fun _ => fun
  | [d1, d2] => { results := [.lit (.bool false)], args := [d1, d2] }
  | _ => none }
def DelPlaysWrongFalsely : Prop := delPlaysRow.holds Tryz.pinned (OpenSpec.ofChange delPlaysWrong)

/-- 'coppicelaw14.PutSound': WHATEVER THE INPUT: true; the input reads as it did. -/
def putSoundSpec : ChangeSpec := { name := "putSound", fn := fun _ => fun
  | [d1, d2] => { results := [.lit (.bool true)], args := [d1, d2] }
  | _ => none }
def putSoundRow : OpenClaim := { program := "ytjcgphhpaenjkaagreat", sum := "a4298476256763dca948bb1a039a1f288d85eb7597e8b45db48bdaa089654f1d", func := "coppice/coppicelaw14.PutSound", spec := "putSound", inPlace := ["sync/atomic.StoreInt64", "sync/atomic.LoadInt64", "sync/atomic.LoadUint64", "internal/bytealg.Compare", "sync/atomic.CompareAndSwapUint64", "slices.overlaps[[]byte]", "slices.overlaps[int]", "sync/atomic.AddUint64", "sync/atomic.StoreUint64", "sync/atomic.CompareAndSwapInt64"], unfollowed := true, recurses := true, apart := false }
def PutSoundSaid : Prop := putSoundRow.holds Tryz.pinned (OpenSpec.ofChange putSoundSpec)

/-- ITS FALSE NEIGHBOUR: 'it returns false'. Refute it at one input. -/
def putSoundWrong : ChangeSpec := { name := "putSound", fn := fun _ => fun
  | [d1, d2] => { results := [.lit (.bool false)], args := [d1, d2] }
  | _ => none }
def PutSoundWrongFalsely : Prop := putSoundRow.holds Tryz.pinned (OpenSpec.ofChange putSoundWrong)

/-- 'coppicelaw14.PutOne': WHATEVER THE INPUT: true; the input reads as it did. -/
def putOneSpec : ChangeSpec := { name := "putOne", fn := fun _ => fun
  | [d1, d2] => { results := [.lit (.bool true)], args := [d1, d2] }
  | _ => none }
def putOneRow : OpenClaim := { program := "ytjcgphhpaenjkaagreat", sum := "a4298476256763dca948bb1a039a1f288d85eb7597e8b45db48bdaa089654f1d", func := "coppice/coppicelaw14.PutOne", spec := "putOne", inPlace := ["sync/atomic.StoreInt64", "sync/atomic.LoadInt64", "sync/atomic.LoadUint64", "internal/bytealg.Compare", "sync/atomic.CompareAndSwapUint64", "slices.overlaps[[]byte]", "slices.overlaps[int]", "sync/atomic.AddUint64", "sync/atomic.StoreUint64", "sync/atomic.CompareAndSwapInt64"], unfollowed := true, recurses := true, apart := false }
def PutOneSaid : Prop := putOneRow.holds Tryz.pinned (OpenSpec.ofChange putOneSpec)

/-- ITS FALSE NEIGHBOUR: 'it returns false'. Refute it at one input. -/
def putOneWrong : ChangeSpec := { name := "putOne", fn := fun _ => fun
  | [d1, d2] => { results := [.lit (.bool false)], args := [d1, d2] }
  | _ => none }
def PutOneWrongFalsely : Prop := putOneRow.holds Tryz.pinned (OpenSpec.ofChange putOneWrong)

/-- 'coppicelaw16.ScanFuzzy': WHATEVER THE INPUT: true; the input reads as it did. -/
def scanFuzzySpec : ChangeSpec := { name := "scanFuzzy", fn := fun _ => fun
  | [d1, d2] => { results := [.lit (.bool true)], args := [d1, d2] }
  | _ => none }
def scanFuzzyRow : OpenClaim := { program := "ytjcgphhpaenjkaagreat", sum := "a4298476256763dca948bb1a039a1f288d85eb7597e8b45db48bdaa089654f1d", func := "coppice/coppicelaw16.ScanFuzzy", spec := "scanFuzzy", inPlace := ["sync/atomic.StoreInt64", "sync/atomic.LoadInt64", "sync/atomic.LoadUint64", "internal/bytealg.Compare", "sync/atomic.CompareAndSwapUint64", "slices.overlaps[[]byte]", "slices.overlaps[int]", "sync/atomic.AddUint64", "sync/atomic.StoreUint64", "sync/atomic.CompareAndSwapInt64"], unfollowed := true, recurses := true, apart := false }
def ScanFuzzySaid : Prop := scanFuzzyRow.holds Tryz.pinned (OpenSpec.ofChange scanFuzzySpec)

/-- ITS FALSE NEIGHBOUR: 'it returns false'. Refute it at one input. -/
def scanFuzzyWrong : ChangeSpec := { name := "scanFuzzy", fn := fun _ => fun
  | [d1, d2] => { results := [.lit (.bool false)], args := [d1, d2] }
  | _ => none }
def ScanFuzzyWrongFalsely : Prop := scanFuzzyRow.holds Tryz.pinned (OpenSpec.ofChange scanFuzzyWrong)

/-- 'coppicelaw16.ScanPlays': WHATEVER THE INPUT: true; the input reads as it did. -/
def scanPlaysSpec : ChangeSpec := { name := "scanPlays", fn := fun _ => fun
  | [d1, d2] => { results := [.lit (.bool true)], args := [d1, d2] }
  | _ => none }
def scanPlaysRow : OpenClaim := { program := "ytjcgphhpaenjkaagreat", sum := "a4298476256763dca948bb1a039a1f288d85eb7597e8b45db48bdaa089654f1d", func := "coppice/coppicelaw16.ScanPlays", spec := "scanPlays", inPlace := ["sync/atomic.StoreInt64", "sync/atomic.LoadInt64", "sync/atomic.LoadUint64", "internal/bytealg.Compare", "sync/atomic.CompareAndSwapUint64", "slices.overlaps[[]byte]", "slices.overlaps[int]", "sync/atomic.AddUint64", "sync/atomic.StoreUint64", "sync/atomic.CompareAndSwapInt64"], unfollowed := true, recurses := true, apart := false }
def ScanPlaysSaid : Prop := scanPlaysRow.holds Tryz.pinned (OpenSpec.ofChange scanPlaysSpec)

/-- ITS FALSE NEIGHBOUR: 'it returns false'. Refute it at one input. -/
def scanPlaysWrong : ChangeSpec := { name := "scanPlays", fn := fun _ => fun
  | [d1, d2] => { results := [.lit (.bool false)], args := [d1, d2] }
  | _ => none }
def ScanPlaysWrongFalsely : Prop := scanPlaysRow.holds Tryz.pinned (OpenSpec.ofChange scanPlaysWrong)

/-- 'coppicelaw15.DelSound': WHATEVER THE INPUT: true; the input reads as it did. -/
def delSoundSpec : ChangeSpec := { name := "delSound", fn := fun _ => fun
  | [d1, d2] => { results := [.lit (.bool true)], args := [d1, d2] }
  | _ => none }
def delSoundRow : OpenClaim := { program := "ytjcgphhpaenjkaagreat", sum := "a4298476256763dca948bb1a039a1f288d85eb7597e8b45db48bdaa089654f1d", func := "coppice/coppicelaw15.DelSound", spec := "delSound", inPlace := ["sync/atomic.StoreInt64", "sync/atomic.LoadInt64", "sync/atomic.LoadUint64", "internal/bytealg.Compare", "sync/atomic.CompareAndSwapUint64", "slices.overlaps[[]byte]", "slices.overlaps[int]", "sync/atomic.AddUint64", "sync/atomic.StoreUint64", "sync/atomic.CompareAndSwapInt64"], unfollowed := true, recurses := true, apart := false }
def DelSoundSaid : Prop := delSoundRow.holds Tryz.pinned (OpenSpec.ofChange delSoundSpec)

/-- ITS FALSE NEIGHBOUR: 'it returns false'. Refute it at one input. -/
def delSoundWrong : ChangeSpec := { name := "delSound", fn := fun _ => fun
  | [d1, d2] => { results := [.lit (.bool false)], args := [d1, d2] }
  | _ => none }
def DelSoundWrongFalsely : Prop := delSoundRow.holds Tryz.pinned (OpenSpec.ofChange delSoundWrong)

/- THE SECOND FORM. 'bulk': how many values and letters a reading holds, each counted each time it is reached (what is shared counts as often as it is met; a slice's spare places count too). A statement '..UptoSaid' is the law's where the arguments, and the package variables that the reading takes, are together of bulk at most 1048576: NARROWER than '..Said'. Prove '..Said' where nothing that the law and all that it calls make is longer than what came in: it says more and counts as full. Else prove '..UptoSaid'. A law counts once. -/
mutual
def uptoBulk {H : Type} : DataW H → Nat
  | .lit (.string bytes) => bytes.length + 1
  | .lit _ => 1
  | .nil => 1
  | .ptr d => uptoBulk d + 1
  | .slice elems spare => uptoBulkAll elems + uptoBulkAll spare + 1
  | .agg parts => uptoBulkAll parts + 1
  | .iface _ d => uptoBulk d + 1
  | .map entries => uptoBulkEntries entries + 1
  | .held _ => 1
def uptoBulkAll {H : Type} : List (DataW H) → Nat
  | [] => 0
  | d :: r => uptoBulk d + uptoBulkAll r
def uptoBulkEntries {H : Type} : List (Lit × DataW H) → Nat
  | [] => 0
  | x :: r => uptoBulkEntry x + uptoBulkEntries r
def uptoBulkEntry {H : Type} : Lit × DataW H → Nat
  | (.string bytes, d) => bytes.length + uptoBulk d + 1
  | (_, d) => uptoBulk d + 1
 end
def uptoSmall : (H : Type) → List (DataW H) → Bool := fun _ ds => decide (uptoBulkAll ds ≤ 1048576)
def OpenSpec.upto (s : _root_.Go.ChangeSpec) : _root_.Go.OpenSpec := { _root_.Go.OpenSpec.ofChange s with cond := some uptoSmall }

/-- 'coppicelaw14.PutPlays', WHERE WHAT IT READS IS OF BULK AT MOST 1048576: true; the input reads as it did. -/
def putPlaysUptoRow : OpenClaim := { program := "ytjcgphhpaenjkaagreat", sum := "a4298476256763dca948bb1a039a1f288d85eb7597e8b45db48bdaa089654f1d", func := "coppice/coppicelaw14.PutPlays", spec := "putPlays", inPlace := ["sync/atomic.StoreInt64", "sync/atomic.LoadInt64", "sync/atomic.LoadUint64", "internal/bytealg.Compare", "sync/atomic.CompareAndSwapUint64", "slices.overlaps[[]byte]", "slices.overlaps[int]", "sync/atomic.AddUint64", "sync/atomic.StoreUint64", "sync/atomic.CompareAndSwapInt64"], unfollowed := true, recurses := true, apart := false, narrowed := true }
def PutPlaysUptoSaid : Prop := putPlaysUptoRow.holds Tryz.pinned (OpenSpec.upto putPlaysSpec)

/-- 'coppicelaw15.DelBack', WHERE WHAT IT READS IS OF BULK AT MOST 1048576: true; the input reads as it did. -/
def delBackUptoRow : OpenClaim := { program := "ytjcgphhpaenjkaagreat", sum := "a4298476256763dca948bb1a039a1f288d85eb7597e8b45db48bdaa089654f1d", func := "coppice/coppicelaw15.DelBack", spec := "delBack", inPlace := ["sync/atomic.StoreInt64", "sync/atomic.LoadInt64", "sync/atomic.LoadUint64", "internal/bytealg.Compare", "sync/atomic.CompareAndSwapUint64", "slices.overlaps[[]byte]", "slices.overlaps[int]", "sync/atomic.AddUint64", "sync/atomic.StoreUint64", "sync/atomic.CompareAndSwapInt64"], unfollowed := true, recurses := true, apart := false, narrowed := true }
def DelBackUptoSaid : Prop := delBackUptoRow.holds Tryz.pinned (OpenSpec.upto delBackSpec)

/-- 'coppicelaw16.ScanAlone', WHERE WHAT IT READS IS OF BULK AT MOST 1048576: true; the input reads as it did. -/
def scanAloneUptoRow : OpenClaim := { program := "ytjcgphhpaenjkaagreat", sum := "a4298476256763dca948bb1a039a1f288d85eb7597e8b45db48bdaa089654f1d", func := "coppice/coppicelaw16.ScanAlone", spec := "scanAlone", inPlace := ["sync/atomic.StoreInt64", "sync/atomic.LoadInt64", "sync/atomic.LoadUint64", "internal/bytealg.Compare", "sync/atomic.CompareAndSwapUint64", "slices.overlaps[[]byte]", "slices.overlaps[int]", "sync/atomic.AddUint64", "sync/atomic.StoreUint64", "sync/atomic.CompareAndSwapInt64"], unfollowed := true, recurses := true, apart := false, narrowed := true }
def ScanAloneUptoSaid : Prop := scanAloneUptoRow.holds Tryz.pinned (OpenSpec.upto scanAloneSpec)

/-- 'coppicelaw16.ScanLaid', WHERE WHAT IT READS IS OF BULK AT MOST 1048576: true; the input reads as it did. -/
def scanLaidUptoRow : OpenClaim := { program := "ytjcgphhpaenjkaagreat", sum := "a4298476256763dca948bb1a039a1f288d85eb7597e8b45db48bdaa089654f1d", func := "coppice/coppicelaw16.ScanLaid", spec := "scanLaid", inPlace := ["sync/atomic.StoreInt64", "sync/atomic.LoadInt64", "sync/atomic.LoadUint64", "internal/bytealg.Compare", "sync/atomic.CompareAndSwapUint64", "slices.overlaps[[]byte]", "slices.overlaps[int]", "sync/atomic.AddUint64", "sync/atomic.StoreUint64", "sync/atomic.CompareAndSwapInt64"], unfollowed := true, recurses := true, apart := false, narrowed := true }
def ScanLaidUptoSaid : Prop := scanLaidUptoRow.holds Tryz.pinned (OpenSpec.upto scanLaidSpec)

/-- 'coppicelaw15.DelPlays', WHERE WHAT IT READS IS OF BULK AT MOST 1048576: true; the input reads as it did. -/
def delPlaysUptoRow : OpenClaim := { program := "ytjcgphhpaenjkaagreat", sum := "a4298476256763dca948bb1a039a1f288d85eb7597e8b45db48bdaa089654f1d", func := "coppice/coppicelaw15.DelPlays", spec := "delPlays", inPlace := ["sync/atomic.StoreInt64", "sync/atomic.LoadInt64", "sync/atomic.LoadUint64", "internal/bytealg.Compare", "sync/atomic.CompareAndSwapUint64", "slices.overlaps[[]byte]", "slices.overlaps[int]", "sync/atomic.AddUint64", "sync/atomic.StoreUint64", "sync/atomic.CompareAndSwapInt64"], unfollowed := true, recurses := true, apart := false, narrowed := true }
def DelPlaysUptoSaid : Prop := delPlaysUptoRow.holds Tryz.pinned (OpenSpec.upto delPlaysSpec)

/-- 'coppicelaw14.PutSound', WHERE WHAT IT READS IS OF BULK AT MOST 1048576: true; the input reads as it did. -/
def putSoundUptoRow : OpenClaim := { program := "ytjcgphhpaenjkaagreat", sum := "a4298476256763dca948bb1a039a1f288d85eb7597e8b45db48bdaa089654f1d", func := "coppice/coppicelaw14.PutSound", spec := "putSound", inPlace := ["sync/atomic.StoreInt64", "sync/atomic.LoadInt64", "sync/atomic.LoadUint64", "internal/bytealg.Compare", "sync/atomic.CompareAndSwapUint64", "slices.overlaps[[]byte]", "slices.overlaps[int]", "sync/atomic.AddUint64", "sync/atomic.StoreUint64", "sync/atomic.CompareAndSwapInt64"], unfollowed := true, recurses := true, apart := false, narrowed := true }
def PutSoundUptoSaid : Prop := putSoundUptoRow.holds Tryz.pinned (OpenSpec.upto putSoundSpec)

/-- 'coppicelaw14.PutOne', WHERE WHAT IT READS IS OF BULK AT MOST 1048576: true; the input reads as it did. -/
def putOneUptoRow : OpenClaim := { program := "ytjcgphhpaenjkaagreat", sum := "a4298476256763dca948bb1a039a1f288d85eb7597e8b45db48bdaa089654f1d", func := "coppice/coppicelaw14.PutOne", spec := "putOne", inPlace := ["sync/atomic.StoreInt64", "sync/atomic.LoadInt64", "sync/atomic.LoadUint64", "internal/bytealg.Compare", "sync/atomic.CompareAndSwapUint64", "slices.overlaps[[]byte]", "slices.overlaps[int]", "sync/atomic.AddUint64", "sync/atomic.StoreUint64", "sync/atomic.CompareAndSwapInt64"], unfollowed := true, recurses := true, apart := false, narrowed := true }
def PutOneUptoSaid : Prop := putOneUptoRow.holds Tryz.pinned (OpenSpec.upto putOneSpec)

/-- 'coppicelaw16.ScanFuzzy', WHERE WHAT IT READS IS OF BULK AT MOST 1048576: true; the input reads as it did. -/
def scanFuzzyUptoRow : OpenClaim := { program := "ytjcgphhpaenjkaagreat", sum := "a4298476256763dca948bb1a039a1f288d85eb7597e8b45db48bdaa089654f1d", func := "coppice/coppicelaw16.ScanFuzzy", spec := "scanFuzzy", inPlace := ["sync/atomic.StoreInt64", "sync/atomic.LoadInt64", "sync/atomic.LoadUint64", "internal/bytealg.Compare", "sync/atomic.CompareAndSwapUint64", "slices.overlaps[[]byte]", "slices.overlaps[int]", "sync/atomic.AddUint64", "sync/atomic.StoreUint64", "sync/atomic.CompareAndSwapInt64"], unfollowed := true, recurses := true, apart := false, narrowed := true }
def ScanFuzzyUptoSaid : Prop := scanFuzzyUptoRow.holds Tryz.pinned (OpenSpec.upto scanFuzzySpec)

/-- 'coppicelaw16.ScanPlays', WHERE WHAT IT READS IS OF BULK AT MOST 1048576: true; the input reads as it did. -/
def scanPlaysUptoRow : OpenClaim := { program := "ytjcgphhpaenjkaagreat", sum := "a4298476256763dca948bb1a039a1f288d85eb7597e8b45db48bdaa089654f1d", func := "coppice/coppicelaw16.ScanPlays", spec := "scanPlays", inPlace := ["sync/atomic.StoreInt64", "sync/atomic.LoadInt64", "sync/atomic.LoadUint64", "internal/bytealg.Compare", "sync/atomic.CompareAndSwapUint64", "slices.overlaps[[]byte]", "slices.overlaps[int]", "sync/atomic.AddUint64", "sync/atomic.StoreUint64", "sync/atomic.CompareAndSwapInt64"], unfollowed := true, recurses := true, apart := false, narrowed := true }
def ScanPlaysUptoSaid : Prop := scanPlaysUptoRow.holds Tryz.pinned (OpenSpec.upto scanPlaysSpec)

/-- 'coppicelaw15.DelSound', WHERE WHAT IT READS IS OF BULK AT MOST 1048576: true; the input reads as it did. -/
def delSoundUptoRow : OpenClaim := { program := "ytjcgphhpaenjkaagreat", sum := "a4298476256763dca948bb1a039a1f288d85eb7597e8b45db48bdaa089654f1d", func := "coppice/coppicelaw15.DelSound", spec := "delSound", inPlace := ["sync/atomic.StoreInt64", "sync/atomic.LoadInt64", "sync/atomic.LoadUint64", "internal/bytealg.Compare", "sync/atomic.CompareAndSwapUint64", "slices.overlaps[[]byte]", "slices.overlaps[int]", "sync/atomic.AddUint64", "sync/atomic.StoreUint64", "sync/atomic.CompareAndSwapInt64"], unfollowed := true, recurses := true, apart := false, narrowed := true }
def DelSoundUptoSaid : Prop := delSoundUptoRow.holds Tryz.pinned (OpenSpec.upto delSoundSpec)

end Rows
end Go.Proofs.YtjcgphhpaenjkaaGreat
