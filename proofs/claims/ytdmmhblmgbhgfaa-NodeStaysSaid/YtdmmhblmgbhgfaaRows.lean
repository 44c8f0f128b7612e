/-
  No cell of these rows narrows 'for every input' (looked for: loops, veiled, ifaces, maps, wideKeys, modest, calm, conditions, laid).
  DERIVED. THE GIVEN ROWS OF THIS SEAT. 14 by the template 'for every input the law returns true; each argument reads behind the call as it read before'; 0 by the template 'total and deterministic' (their statements: YtdmmhblmgbhgfaaTotals.lean).
  GIVEN WITH THE SEED: the statements are not yours to turn. If you find one false, say at which input.
  Laid BY PROGRAM, IN A SANDBOX (cutbox-rows.mjs): the forced cells as the released guide's own fill.sh prints them over the translation 0b2c776f358b63e3… (all of the seat's roots in one cut). By AI agents, Wed Nov 11 2026. No macro, syntax, notation, axiom, sorry.
-/
import Derived.Test.YtdmmhblmgbhgfaaChecked
import GoSem.Claim
import GoSem.ClaimJoined
import GoSem.ClaimMapViews
import Derived.JoinedTies
import Derived.KernelRfl
namespace Go.Proofs.Ytdmmhblmgbhgfaa
/- THE CELL 'sum', in the pinned program and in every row, IS THE sha256 OF THE DUMP (.gsa) THAT YtdmmhblmgbhgfaaProg.lean LOADS. Nothing in Lean hashes anything: it is a label: what it is worth is what the hold of that sum in a sandbox is worth. -/
noncomputable def Try.pinned : Pinned := { name := "ytdmmhblmgbhgfaa", sum := "0b2c776f358b63e37521b02a87b4731bfc032e09a7afcb32c915e8209770c679", checked := Try.checked }
namespace Rows
def none {H : Type} : Left H := { results := [], args := [] }

/-- 'coppicelaw10.ArenaFills': WHATEVER THE INPUT: true; the input reads as it did. -/
def arenaFillsSpec : ChangeSpec := { name := "arenaFills", fn := fun _ => fun
  | [d1, d2] => { results := [.lit (.bool true)], args := [d1, d2] }
  | _ => none }
def arenaFillsRow : OpenClaim := { program := "ytdmmhblmgbhgfaa", sum := "0b2c776f358b63e37521b02a87b4731bfc032e09a7afcb32c915e8209770c679", func := "coppice/coppicelaw10.ArenaFills", spec := "arenaFills", inPlace := ["sync/atomic.StoreInt64", "sync/atomic.StoreUint64", "sync/atomic.LoadUint64", "sync/atomic.LoadInt64"], apart := false }
def ArenaFillsSaid : Prop := arenaFillsRow.holds Try.pinned (OpenSpec.ofChange arenaFillsSpec)

/-- ITS FALSE NEIGHBOUR: 'it returns false'. Refute it at one input. -/
def arenaFillsWrong : ChangeSpec := { name := "arenaFills", fn := fun _ => fun
  | [d1, d2] => { results := [.lit (.bool false)], args := [d1, d2] }
  | _ => none }
def ArenaFillsWrongFalsely : Prop := arenaFillsRow.holds Try.pinned (OpenSpec.ofChange arenaFillsWrong)

/-- 'coppicelaw10.ArenaHolder': WHATEVER THE INPUT: true; the input reads as it did. -/
def arenaHolderSpec : ChangeSpec := { name := "arenaHolder", fn := fun _ => fun
  | [d] => { results := [.lit (.bool true)], args := [d] }
  | _ => none }
def arenaHolderRow : OpenClaim := { program := "ytdmmhblmgbhgfaa", sum := "0b2c776f358b63e37521b02a87b4731bfc032e09a7afcb32c915e8209770c679", func := "coppice/coppicelaw10.ArenaHolder", spec := "arenaHolder", inPlace := ["sync/atomic.StoreInt64", "sync/atomic.StoreUint64", "sync/atomic.LoadUint64", "sync/atomic.CompareAndSwapUint64", "sync/atomic.AddUint64", "sync/atomic.CompareAndSwapInt64"], apart := false }
def ArenaHolderSaid : Prop := arenaHolderRow.holds Try.pinned (OpenSpec.ofChange arenaHolderSpec)

/-- ITS FALSE NEIGHBOUR: 'it returns false'. Refute it at one input. -/
def arenaHolderWrong : ChangeSpec := { name := "arenaHolder", fn := fun _ => fun
  | [d] => { results := [.lit (.bool false)], args := [d] }
  | _ => none }
def ArenaHolderWrongFalsely : Prop := arenaHolderRow.holds Try.pinned (OpenSpec.ofChange arenaHolderWrong)

/-- 'coppicelaw10.ArenaSeen': WHATEVER THE INPUT: true; the input reads as it did. -/
def arenaSeenSpec : ChangeSpec := { name := "arenaSeen", fn := fun _ => fun
  | [d1, d2] => { results := [.lit (.bool true)], args := [d1, d2] }
  | _ => none }
def arenaSeenRow : OpenClaim := { program := "ytdmmhblmgbhgfaa", sum := "0b2c776f358b63e37521b02a87b4731bfc032e09a7afcb32c915e8209770c679", func := "coppice/coppicelaw10.ArenaSeen", spec := "arenaSeen", inPlace := ["sync/atomic.StoreInt64", "sync/atomic.StoreUint64", "sync/atomic.LoadUint64", "sync/atomic.CompareAndSwapUint64", "sync/atomic.AddUint64", "sync/atomic.CompareAndSwapInt64"], apart := false }
def ArenaSeenSaid : Prop := arenaSeenRow.holds Try.pinned (OpenSpec.ofChange arenaSeenSpec)

/-- ITS FALSE NEIGHBOUR: 'it returns false'. Refute it at one input. -/
def arenaSeenWrong : ChangeSpec := { name := "arenaSeen", fn := fun _ => fun
  | [d1, d2] => { results := [.lit (.bool false)], args := [d1, d2] }
  | _ => none }
def ArenaSeenWrongFalsely : Prop := arenaSeenRow.holds Try.pinned (OpenSpec.ofChange arenaSeenWrong)

/-- 'coppicelaw10.ArenaApart': WHATEVER THE INPUT: true; the input reads as it did. -/
def arenaApartSpec : ChangeSpec := { name := "arenaApart", fn := fun _ => fun
  | [d1, d2, d3] => { results := [.lit (.bool true)], args := [d1, d2, d3] }
  | _ => none }
def arenaApartRow : OpenClaim := { program := "ytdmmhblmgbhgfaa", sum := "0b2c776f358b63e37521b02a87b4731bfc032e09a7afcb32c915e8209770c679", func := "coppice/coppicelaw10.ArenaApart", spec := "arenaApart", inPlace := ["sync/atomic.StoreInt64", "sync/atomic.StoreUint64", "sync/atomic.LoadUint64", "sync/atomic.CompareAndSwapUint64", "sync/atomic.AddUint64", "sync/atomic.CompareAndSwapInt64", "sync/atomic.LoadInt64"], apart := false }
def ArenaApartSaid : Prop := arenaApartRow.holds Try.pinned (OpenSpec.ofChange arenaApartSpec)

/-- ITS FALSE NEIGHBOUR: 'it returns false'. Refute it at one input. -/
def arenaApartWrong : ChangeSpec := { name := "arenaApart", fn := fun _ => fun
  | [d1, d2, d3] => { results := [.lit (.bool false)], args := [d1, d2, d3] }
  | _ => none }
def ArenaApartWrongFalsely : Prop := arenaApartRow.holds Try.pinned (OpenSpec.ofChange arenaApartWrong)

/-- 'coppicelaw10.ArenaPlays': WHATEVER THE INPUT: true; the input reads as it did. -/
def arenaPlaysSpec : ChangeSpec := { name := "arenaPlays", fn := fun _ => fun
  | [d1, d2] => { results := [.lit (.bool true)], args := [d1, d2] }
  | _ => none }
def arenaPlaysRow : OpenClaim := { program := "ytdmmhblmgbhgfaa", sum := "0b2c776f358b63e37521b02a87b4731bfc032e09a7afcb32c915e8209770c679", func := "coppice/coppicelaw10.ArenaPlays", spec := "arenaPlays", inPlace := ["sync/atomic.StoreInt64", "sync/atomic.StoreUint64", "sync/atomic.LoadUint64", "sync/atomic.AddUint64", "sync/atomic.LoadInt64", "sync/atomic.CompareAndSwapUint64", "sync/atomic.CompareAndSwapInt64"], apart := false }
def ArenaPlaysSaid : Prop := arenaPlaysRow.holds Try.pinned (OpenSpec.ofChange arenaPlaysSpec)

/-- ITS FALSE NEIGHBOUR: 'it returns false'. Refute it at one input. -/
def arenaPlaysWrong : ChangeSpec := { name := "arenaPlays", fn := fun _ => fun
  | [d1, d2] => { results := [.lit (.bool false)], args := [d1, d2] }
  | _ => none }
def ArenaPlaysWrongFalsely : Prop := arenaPlaysRow.holds Try.pinned (OpenSpec.ofChange arenaPlaysWrong)

/-- 'coppicelaw09.NodeClones': WHATEVER THE INPUT: true; the input reads as it did. -/
def nodeClonesSpec : ChangeSpec := { name := "nodeClones", fn := fun _ => fun
  | [d] => { results := [.lit (.bool true)], args := [d] }
  | _ => none }
def nodeClonesRow : OpenClaim := { program := "ytdmmhblmgbhgfaa", sum := "0b2c776f358b63e37521b02a87b4731bfc032e09a7afcb32c915e8209770c679", func := "coppice/coppicelaw09.NodeClones", spec := "nodeClones", inPlace := ["internal/bytealg.Compare", "slices.overlaps[[]byte]"], apart := false }
def NodeClonesSaid : Prop := nodeClonesRow.holds Try.pinned (OpenSpec.ofChange nodeClonesSpec)

/-- ITS FALSE NEIGHBOUR: 'it returns false'. Refute it at one input. -/
def nodeClonesWrong : ChangeSpec := { name := "nodeClones", fn := fun _ => fun
  | [d] => { results := [.lit (.bool false)], args := [d] }
  | _ => none }
def NodeClonesWrongFalsely : Prop := nodeClonesRow.holds Try.pinned (OpenSpec.ofChange nodeClonesWrong)

/-- 'coppicelaw09.NodeConfigs': WHATEVER THE INPUT: true; the input reads as it did. -/
def nodeConfigsSpec : ChangeSpec := { name := "nodeConfigs", fn := fun _ => fun
  | [d] => { results := [.lit (.bool true)], args := [d] }
  | _ => none }
def nodeConfigsRow : OpenClaim := { program := "ytdmmhblmgbhgfaa", sum := "0b2c776f358b63e37521b02a87b4731bfc032e09a7afcb32c915e8209770c679", func := "coppice/coppicelaw09.NodeConfigs", spec := "nodeConfigs", inPlace := ["internal/bytealg.Compare", "slices.overlaps[[]byte]"], apart := false }
def NodeConfigsSaid : Prop := nodeConfigsRow.holds Try.pinned (OpenSpec.ofChange nodeConfigsSpec)

/-- ITS FALSE NEIGHBOUR: 'it returns false'. Refute it at one input. -/
def nodeConfigsWrong : ChangeSpec := { name := "nodeConfigs", fn := fun _ => fun
  | [d] => { results := [.lit (.bool false)], args := [d] }
  | _ => none }
def NodeConfigsWrongFalsely : Prop := nodeConfigsRow.holds Try.pinned (OpenSpec.ofChange nodeConfigsWrong)

/-- 'coppicelaw09.NodeJoined': WHATEVER THE INPUT: true; the input reads as it did. -/
def nodeJoinedSpec : ChangeSpec := { name := "nodeJoined", fn := fun _ => fun
  | [d1, d2, d3] => { results := [.lit (.bool true)], args := [d1, d2, d3] }
  | _ => none }
def nodeJoinedRow : OpenClaim := { program := "ytdmmhblmgbhgfaa", sum := "0b2c776f358b63e37521b02a87b4731bfc032e09a7afcb32c915e8209770c679", func := "coppice/coppicelaw09.NodeJoined", spec := "nodeJoined", inPlace := ["internal/bytealg.Compare", "slices.overlaps[[]byte]", "slices.overlaps[int]"], apart := false }
def NodeJoinedSaid : Prop := nodeJoinedRow.holds Try.pinned (OpenSpec.ofChange nodeJoinedSpec)

/-- ITS FALSE NEIGHBOUR: 'it returns false'. Refute it at one input. -/
def nodeJoinedWrong : ChangeSpec := { name := "nodeJoined", fn := fun _ => fun
  | [d1, d2, d3] => { results := [.lit (.bool false)], args := [d1, d2, d3] }
  | _ => none }
def NodeJoinedWrongFalsely : Prop := nodeJoinedRow.holds Try.pinned (OpenSpec.ofChange nodeJoinedWrong)

/-- 'coppicelaw09.NodeFinds': WHATEVER THE INPUT: true; the input reads as it did. -/
def nodeFindsSpec : ChangeSpec := { name := "nodeFinds", fn := fun _ => fun
  | [d1, d2] => { results := [.lit (.bool true)], args := [d1, d2] }
  | _ => none }
def nodeFindsRow : OpenClaim := { program := "ytdmmhblmgbhgfaa", sum := "0b2c776f358b63e37521b02a87b4731bfc032e09a7afcb32c915e8209770c679", func := "coppice/coppicelaw09.NodeFinds", spec := "nodeFinds", inPlace := ["internal/bytealg.Compare", "slices.overlaps[[]byte]"], apart := false }
def NodeFindsSaid : Prop := nodeFindsRow.holds Try.pinned (OpenSpec.ofChange nodeFindsSpec)

/-- ITS FALSE NEIGHBOUR: 'it returns false'. Refute it at one input. -/
def nodeFindsWrong : ChangeSpec := { name := "nodeFinds", fn := fun _ => fun
  | [d1, d2] => { results := [.lit (.bool false)], args := [d1, d2] }
  | _ => none }
def NodeFindsWrongFalsely : Prop := nodeFindsRow.holds Try.pinned (OpenSpec.ofChange nodeFindsWrong)

/-- 'coppicelaw09.NodeWith': WHATEVER THE INPUT: true; the input reads as it did. -/
def nodeWithSpec : ChangeSpec := { name := "nodeWith", fn := fun _ => fun
  | [d1, d2, d3] => { results := [.lit (.bool true)], args := [d1, d2, d3] }
  | _ => none }
def nodeWithRow : OpenClaim := { program := "ytdmmhblmgbhgfaa", sum := "0b2c776f358b63e37521b02a87b4731bfc032e09a7afcb32c915e8209770c679", func := "coppice/coppicelaw09.NodeWith", spec := "nodeWith", inPlace := ["internal/bytealg.Compare", "slices.overlaps[[]byte]"], apart := false }
def NodeWithSaid : Prop := nodeWithRow.holds Try.pinned (OpenSpec.ofChange nodeWithSpec)

/-- ITS FALSE NEIGHBOUR: 'it returns false'. Refute it at one input. -/
def nodeWithWrong : ChangeSpec := { name := "nodeWith", fn := fun _ => fun
  | [d1, d2, d3] => { results := [.lit (.bool false)], args := [d1, d2, d3] }
  | _ => none }
def NodeWithWrongFalsely : Prop := nodeWithRow.holds Try.pinned (OpenSpec.ofChange nodeWithWrong)

/-- 'coppicelaw09.NodeBack': WHATEVER THE INPUT: true; the input reads as it did. -/
def nodeBackSpec : ChangeSpec := { name := "nodeBack", fn := fun _ => fun
  | [d1, d2, d3] => { results := [.lit (.bool true)], args := [d1, d2, d3] }
  | _ => none }
def nodeBackRow : OpenClaim := { program := "ytdmmhblmgbhgfaa", sum := "0b2c776f358b63e37521b02a87b4731bfc032e09a7afcb32c915e8209770c679", func := "coppice/coppicelaw09.NodeBack", spec := "nodeBack", inPlace := ["internal/bytealg.Compare", "slices.overlaps[[]byte]"], apart := false }
def NodeBackSaid : Prop := nodeBackRow.holds Try.pinned (OpenSpec.ofChange nodeBackSpec)

/-- ITS FALSE NEIGHBOUR: 'it returns false'. Refute it at one input. -/
def nodeBackWrong : ChangeSpec := { name := "nodeBack", fn := fun _ => fun
  | [d1, d2, d3] => { results := [.lit (.bool false)], args := [d1, d2, d3] }
  | _ => none }
def NodeBackWrongFalsely : Prop := nodeBackRow.holds Try.pinned (OpenSpec.ofChange nodeBackWrong)

/-- 'coppicelaw09.NodeSplits': WHATEVER THE INPUT: true; the input reads as it did. -/
def nodeSplitsSpec : ChangeSpec := { name := "nodeSplits", fn := fun _ => fun
  | [d1, d2, d3] => { results := [.lit (.bool true)], args := [d1, d2, d3] }
  | _ => none }
def nodeSplitsRow : OpenClaim := { program := "ytdmmhblmgbhgfaa", sum := "0b2c776f358b63e37521b02a87b4731bfc032e09a7afcb32c915e8209770c679", func := "coppice/coppicelaw09.NodeSplits", spec := "nodeSplits", inPlace := ["internal/bytealg.Compare", "slices.overlaps[[]byte]"], apart := false }
def NodeSplitsSaid : Prop := nodeSplitsRow.holds Try.pinned (OpenSpec.ofChange nodeSplitsSpec)

/-- ITS FALSE NEIGHBOUR: 'it returns false'. Refute it at one input. -/
def nodeSplitsWrong : ChangeSpec := { name := "nodeSplits", fn := fun _ => fun
  | [d1, d2, d3] => { results := [.lit (.bool false)], args := [d1, d2, d3] }
  | _ => none }
def NodeSplitsWrongFalsely : Prop := nodeSplitsRow.holds Try.pinned (OpenSpec.ofChange nodeSplitsWrong)

/-- 'coppicelaw09.NodeMay': WHATEVER THE INPUT: true; the input reads as it did. -/
def nodeMaySpec : ChangeSpec := { name := "nodeMay", fn := fun _ => fun
  | [d1, d2] => { results := [.lit (.bool true)], args := [d1, d2] }
  | _ => none }
def nodeMayRow : OpenClaim := { program := "ytdmmhblmgbhgfaa", sum := "0b2c776f358b63e37521b02a87b4731bfc032e09a7afcb32c915e8209770c679", func := "coppice/coppicelaw09.NodeMay", spec := "nodeMay", inPlace := ["internal/bytealg.Compare", "slices.overlaps[[]byte]"], unfollowed := true, recurses := true, apart := false }
def NodeMaySaid : Prop := nodeMayRow.holds Try.pinned (OpenSpec.ofChange nodeMaySpec)

/-- ITS FALSE NEIGHBOUR: 'it returns false'. Refute it at one input. -/
def nodeMayWrong : ChangeSpec := { name := "nodeMay", fn := fun _ => fun
  | [d1, d2] => { results := [.lit (.bool false)], args := [d1, d2] }
  | _ => none }
def NodeMayWrongFalsely : Prop := nodeMayRow.holds Try.pinned (OpenSpec.ofChange nodeMayWrong)

/-- 'coppicelaw09.NodeStays': WHATEVER THE INPUT: true; the input reads as it did. -/
def nodeStaysSpec : ChangeSpec := { name := "nodeStays", fn := fun _ => fun
  | [d] => { results := [.lit (.bool true)], args := [d] }
  | _ => none }
def nodeStaysRow : OpenClaim := { program := "ytdmmhblmgbhgfaa", sum := "0b2c776f358b63e37521b02a87b4731bfc032e09a7afcb32c915e8209770c679", func := "coppice/coppicelaw09.NodeStays", spec := "nodeStays", inPlace := ["internal/bytealg.Compare", "slices.overlaps[[]byte]", "slices.overlaps[int]"], unfollowed := true, recurses := true, apart := false }
def NodeStaysSaid : Prop := nodeStaysRow.holds Try.pinned (OpenSpec.ofChange nodeStaysSpec)

/-- ITS FALSE NEIGHBOUR: 'it returns false'. Refute it at one input. -/
def nodeStaysWrong : ChangeSpec := { name := "nodeStays", fn := fun _ => fun
  | [d] => { results := [.lit (.bool false)], args := [d] }
  | _ => none }
def NodeStaysWrongFalsely : Prop := nodeStaysRow.holds Try.pinned (OpenSpec.ofChange nodeStaysWrong)

/- THE SECOND FORM. 'bulk': how many values and letters a reading holds, each counted each time it is reached (what is shared counts as often as it is met; a slice's spare places count too). A statement '..UptoSaid' is the law's where the arguments, and the package variables that the reading takes, are together of bulk at most 1048576: NARROWER than '..Said'. Prove '..Said' where nothing that the law and all that it calls make is longer than what came in: it says more and counts as full. Else prove '..UptoSaid'. A law counts once. -/
mutual
def uptoBulk {H : Type} : DataW H → Nat
  | .lit (.string bytes) => bytes.length + 1
  | .lit _ => 1
  | .nil => 1
  | .ptr d => uptoBulk d + 1
  | .slice elems spare => uptoBulkAll elems + uptoBulkAll spare + 1
  | .agg parts => uptoBulkAll parts + 1
  | .iface _ d => uptoBulk d + 1
  | .map entries => uptoBulkEntries entries + 1
  | .held _ => 1
def uptoBulkAll {H : Type} : List (DataW H) → Nat
  | [] => 0
  | d :: r => uptoBulk d + uptoBulkAll r
def uptoBulkEntries {H : Type} : List (Lit × DataW H) → Nat
  | [] => 0
  | x :: r => uptoBulkEntry x + uptoBulkEntries r
def uptoBulkEntry {H : Type} : Lit × DataW H → Nat
  | (.string bytes, d) => bytes.length + uptoBulk d + 1
  | (_, d) => uptoBulk d + 1
 end
def uptoSmall : (H : Type) → List (DataW H) → Bool := fun _ ds => decide (uptoBulkAll ds ≤ 1048576)
def OpenSpec.upto (s : _root_.Go.ChangeSpec) : _root_.Go.OpenSpec := { _root_.Go.OpenSpec.ofChange s with cond := some uptoSmall }

/-- 'coppicelaw10.ArenaFills', WHERE WHAT IT READS IS OF BULK AT MOST 1048576: true; the input reads as it did. -/
def arenaFillsUptoRow : OpenClaim := { program := "ytdmmhblmgbhgfaa", sum := "0b2c776f358b63e37521b02a87b4731bfc032e09a7afcb32c915e8209770c679", func := "coppice/coppicelaw10.ArenaFills", spec := "arenaFills", inPlace := ["sync/atomic.StoreInt64", "sync/atomic.StoreUint64", "sync/atomic.LoadUint64", "sync/atomic.LoadInt64"], apart := false, narrowed := true }
def ArenaFillsUptoSaid : Prop := arenaFillsUptoRow.holds Try.pinned (OpenSpec.upto arenaFillsSpec)

/-- 'coppicelaw10.ArenaHolder', WHERE WHAT IT READS IS OF BULK AT MOST 1048576: true; the input reads as it did. -/
def arenaHolderUptoRow : OpenClaim := { program := "ytdmmhblmgbhgfaa", sum := "0b2c776f358b63e37521b02a87b4731bfc032e09a7afcb32c915e8209770c679", func := "coppice/coppicelaw10.ArenaHolder", spec := "arenaHolder", inPlace := ["sync/atomic.StoreInt64", "sync/atomic.StoreUint64", "sync/atomic.LoadUint64", "sync/atomic.CompareAndSwapUint64", "sync/atomic.AddUint64", "sync/atomic.CompareAndSwapInt64"], apart := false, narrowed := true }
def ArenaHolderUptoSaid : Prop := arenaHolderUptoRow.holds Try.pinned (OpenSpec.upto arenaHolderSpec)

/-- 'coppicelaw10.ArenaSeen', WHERE WHAT IT READS IS OF BULK AT MOST 1048576: true; the input reads as it did. -/
def arenaSeenUptoRow : OpenClaim := { program := "ytdmmhblmgbhgfaa", sum := "0b2c776f358b63e37521b02a87b4731bfc032e09a7afcb32c915e8209770c679", func := "coppice/coppicelaw10.ArenaSeen", spec := "arenaSeen", inPlace := ["sync/atomic.StoreInt64", "sync/atomic.StoreUint64", "sync/atomic.LoadUint64", "sync/atomic.CompareAndSwapUint64", "sync/atomic.AddUint64", "sync/atomic.CompareAndSwapInt64"], apart := false, narrowed := true }
def ArenaSeenUptoSaid : Prop := arenaSeenUptoRow.holds Try.pinned (OpenSpec.upto arenaSeenSpec)

/-- 'coppicelaw10.ArenaApart', WHERE WHAT IT READS IS OF BULK AT MOST 1048576: true; the input reads as it did. -/
def arenaApartUptoRow : OpenClaim := { program := "ytdmmhblmgbhgfaa", sum := "0b2c776f358b63e37521b02a87b4731bfc032e09a7afcb32c915e8209770c679", func := "coppice/coppicelaw10.ArenaApart", spec := "arenaApart", inPlace := ["sync/atomic.StoreInt64", "sync/atomic.StoreUint64", "sync/atomic.LoadUint64", "sync/atomic.CompareAndSwapUint64", "sync/atomic.AddUint64", "sync/atomic.CompareAndSwapInt64", "sync/atomic.LoadInt64"], apart := false, narrowed := true }
def ArenaApartUptoSaid : Prop := arenaApartUptoRow.holds Try.pinned (OpenSpec.upto arenaApartSpec)

/-- 'coppicelaw10.ArenaPlays', WHERE WHAT IT READS IS OF BULK AT MOST 1048576: true; the input reads as it did. -/
def arenaPlaysUptoRow : OpenClaim := { program := "ytdmmhblmgbhgfaa", sum := "0b2c776f358b63e37521b02a87b4731bfc032e09a7afcb32c915e8209770c679", func := "coppice/coppicelaw10.ArenaPlays", spec := "arenaPlays", inPlace := ["sync/atomic.StoreInt64", "sync/atomic.StoreUint64", "sync/atomic.LoadUint64", "sync/atomic.AddUint64", "sync/atomic.LoadInt64", "sync/atomic.CompareAndSwapUint64", "sync/atomic.CompareAndSwapInt64"], apart := false, narrowed := true }
def ArenaPlaysUptoSaid : Prop := arenaPlaysUptoRow.holds Try.pinned (OpenSpec.upto arenaPlaysSpec)

/-- 'coppicelaw09.NodeClones', WHERE WHAT IT READS IS OF BULK AT MOST 1048576: true; the input reads as it did. -/
def nodeClonesUptoRow : OpenClaim := { program := "ytdmmhblmgbhgfaa", sum := "0b2c776f358b63e37521b02a87b4731bfc032e09a7afcb32c915e8209770c679", func := "coppice/coppicelaw09.NodeClones", spec := "nodeClones", inPlace := ["internal/bytealg.Compare", "slices.overlaps[[]byte]"], apart := false, narrowed := true }
def NodeClonesUptoSaid : Prop := nodeClonesUptoRow.holds Try.pinned (OpenSpec.upto nodeClonesSpec)

/-- 'coppicelaw09.NodeConfigs', WHERE WHAT IT READS IS OF BULK AT MOST 1048576: true; the input reads as it did. -/
def nodeConfigsUptoRow : OpenClaim := { program := "ytdmmhblmgbhgfaa", sum := "0b2c776f358b63e37521b02a87b4731bfc032e09a7afcb32c915e8209770c679", func := "coppice/coppicelaw09.NodeConfigs", spec := "nodeConfigs", inPlace := ["internal/bytealg.Compare", "slices.overlaps[[]byte]"], apart := false, narrowed := true }
def NodeConfigsUptoSaid : Prop := nodeConfigsUptoRow.holds Try.pinned (OpenSpec.upto nodeConfigsSpec)

/-- 'coppicelaw09.NodeJoined', WHERE WHAT IT READS IS OF BULK AT MOST 1048576: true; the input reads as it did. -/
def nodeJoinedUptoRow : OpenClaim := { program := "ytdmmhblmgbhgfaa", sum := "0b2c776f358b63e37521b02a87b4731bfc032e09a7afcb32c915e8209770c679", func := "coppice/coppicelaw09.NodeJoined", spec := "nodeJoined", inPlace := ["internal/bytealg.Compare", "slices.overlaps[[]byte]", "slices.overlaps[int]"], apart := false, narrowed := true }
def NodeJoinedUptoSaid : Prop := nodeJoinedUptoRow.holds Try.pinned (OpenSpec.upto nodeJoinedSpec)

/-- 'coppicelaw09.NodeFinds', WHERE WHAT IT READS IS OF BULK AT MOST 1048576: true; the input reads as it did. -/
def nodeFindsUptoRow : OpenClaim := { program := "ytdmmhblmgbhgfaa", sum := "0b2c776f358b63e37521b02a87b4731bfc032e09a7afcb32c915e8209770c679", func := "coppice/coppicelaw09.NodeFinds", spec := "nodeFinds", inPlace := ["internal/bytealg.Compare", "slices.overlaps[[]byte]"], apart := false, narrowed := true }
def NodeFindsUptoSaid : Prop := nodeFindsUptoRow.holds Try.pinned (OpenSpec.upto nodeFindsSpec)

/-- 'coppicelaw09.NodeWith', WHERE WHAT IT READS IS OF BULK AT MOST 1048576: true; the input reads as it did. -/
def nodeWithUptoRow : OpenClaim := { program := "ytdmmhblmgbhgfaa", sum := "0b2c776f358b63e37521b02a87b4731bfc032e09a7afcb32c915e8209770c679", func := "coppice/coppicelaw09.NodeWith", spec := "nodeWith", inPlace := ["internal/bytealg.Compare", "slices.overlaps[[]byte]"], apart := false, narrowed := true }
def NodeWithUptoSaid : Prop := nodeWithUptoRow.holds Try.pinned (OpenSpec.upto nodeWithSpec)

/-- 'coppicelaw09.NodeBack', WHERE WHAT IT READS IS OF BULK AT MOST 1048576: true; the input reads as it did. -/
def nodeBackUptoRow : OpenClaim := { program := "ytdmmhblmgbhgfaa", sum := "0b2c776f358b63e37521b02a87b4731bfc032e09a7afcb32c915e8209770c679", func := "coppice/coppicelaw09.NodeBack", spec := "nodeBack", inPlace := ["internal/bytealg.Compare", "slices.overlaps[[]byte]"], apart := false, narrowed := true }
def NodeBackUptoSaid : Prop := nodeBackUptoRow.holds Try.pinned (OpenSpec.upto nodeBackSpec)

/-- 'coppicelaw09.NodeSplits', WHERE WHAT IT READS IS OF BULK AT MOST 1048576: true; the input reads as it did. -/
def nodeSplitsUptoRow : OpenClaim := { program := "ytdmmhblmgbhgfaa", sum := "0b2c776f358b63e37521b02a87b4731bfc032e09a7afcb32c915e8209770c679", func := "coppice/coppicelaw09.NodeSplits", spec := "nodeSplits", inPlace := ["internal/bytealg.Compare", "slices.overlaps[[]byte]"], apart := false, narrowed := true }
def NodeSplitsUptoSaid : Prop := nodeSplitsUptoRow.holds Try.pinned (OpenSpec.upto nodeSplitsSpec)

/-- 'coppicelaw09.NodeMay', WHERE WHAT IT READS IS OF BULK AT MOST 1048576: true; the input reads as it did. -/
def nodeMayUptoRow : OpenClaim := { program := "ytdmmhblmgbhgfaa", sum := "0b2c776f358b63e37521b02a87b4731bfc032e09a7afcb32c915e8209770c679", func := "coppice/coppicelaw09.NodeMay", spec := "nodeMay", inPlace := ["internal/bytealg.Compare", "slices.overlaps[[]byte]"], unfollowed := true, recurses := true, apart := false, narrowed := true }
def NodeMayUptoSaid : Prop := nodeMayUptoRow.holds Try.pinned (OpenSpec.upto nodeMaySpec)

/-- 'coppicelaw09.NodeStays', WHERE WHAT IT READS IS OF BULK AT MOST 1048576: true; the input reads as it did. -/
def nodeStaysUptoRow : OpenClaim := { program := "ytdmmhblmgbhgfaa", sum := "0b2c776f358b63e37521b02a87b4731bfc032e09a7afcb32c915e8209770c679", func := "coppice/coppicelaw09.NodeStays", spec := "nodeStays", inPlace := ["internal/bytealg.Compare", "slices.overlaps[[]byte]", "slices.overlaps[int]"], unfollowed := true, recurses := true, apart := false, narrowed := true }
def NodeStaysUptoSaid : Prop := nodeStaysUptoRow.holds Try.pinned (OpenSpec.upto nodeStaysSpec)

end Rows
end Go.Proofs.Ytdmmhblmgbhgfaa
