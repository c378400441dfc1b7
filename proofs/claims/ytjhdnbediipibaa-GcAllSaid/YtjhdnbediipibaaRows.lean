/-
  No cell of these rows narrows 'for every input' (looked for: loops, veiled, ifaces, maps, wideKeys, modest, calm, conditions, laid).
  DERIVED. THE GIVEN ROWS OF THIS SEAT. 18 by the template 'for every input the law returns true; each argument reads behind the call as it read before'; 0 by the template 'total and deterministic' (their statements: YtjhdnbediipibaaTotals.lean).
  GIVEN WITH THE SEED: the statements are not yours to turn. If you find one false, say at which input.
  Laid BY PROGRAM, IN A SANDBOX (cutbox-rows.mjs): the forced cells as the released guide's own fill.sh prints them over the translation 511a0f2aeebf6ffa… (all of the seat's roots in one cut). By AI agents, Wed Nov 11 2026. No macro, syntax, notation, axiom, sorry.
-/
import Derived.Test.YtjhdnbediipibaaChecked
import GoSem.Claim
import GoSem.ClaimJoined
import GoSem.ClaimMapViews
import Derived.JoinedTies
import Derived.KernelRfl
namespace Go.Proofs.Ytjhdnbediipibaa
/- THE CELL 'sum', in the pinned program and in every row, IS THE sha256 OF THE DUMP (.gsa) THAT YtjhdnbediipibaaProg.lean LOADS. Nothing in Lean hashes anything: it is a label: what it is worth is what the hold of that sum in a sandbox is worth. -/
noncomputable def Try.pinned : Pinned := { name := "ytjhdnbediipibaa", sum := "511a0f2aeebf6ffadc4360fb7f0934824c20ad061c2d8877c92bd18367baebe3", checked := Try.checked }
namespace Rows
def none {H : Type} : Left H := { results := [], args := [] }

/-- 'thunklaw12.GcSelectors': WHATEVER THE INPUT: true; the input reads as it did. -/
def gcSelectorsSpec : ChangeSpec := { name := "gcSelectors", fn := fun _ => fun
  | [d1, d2, d3, d4] => { results := [.lit (.bool true)], args := [d1, d2, d3, d4] }
  | _ => none }
def gcSelectorsRow : OpenClaim := { program := "ytjhdnbediipibaa", sum := "511a0f2aeebf6ffadc4360fb7f0934824c20ad061c2d8877c92bd18367baebe3", func := "thunk/thunklaw12.GcSelectors", spec := "gcSelectors", recurses := true, apart := false }
def GcSelectorsSaid : Prop := gcSelectorsRow.holds Try.pinned (OpenSpec.ofChange gcSelectorsSpec)

/-- ITS FALSE NEIGHBOUR: 'it returns false'. Refute it at one input. -/
def gcSelectorsWrong : ChangeSpec := { name := "gcSelectors", fn := fun _ => fun
  | [d1, d2, d3, d4] => { results := [.lit (.bool false)], args := [d1, d2, d3, d4] }
  | _ => none }
def GcSelectorsWrongFalsely : Prop := gcSelectorsRow.holds Try.pinned (OpenSpec.ofChange gcSelectorsWrong)

/-- 'thunklaw12.GcLeak': WHATEVER THE INPUT: true; the input reads as it did. -/
def gcLeakSpec : ChangeSpec := { name := "gcLeak", fn := fun _ => fun
  | [d1, d2] => { results := [.lit (.bool true)], args := [d1, d2] }
  | _ => none }
def gcLeakRow : OpenClaim := { program := "ytjhdnbediipibaa", sum := "511a0f2aeebf6ffadc4360fb7f0934824c20ad061c2d8877c92bd18367baebe3", func := "thunk/thunklaw12.GcLeak", spec := "gcLeak", recurses := true, apart := false }
def GcLeakSaid : Prop := gcLeakRow.holds Try.pinned (OpenSpec.ofChange gcLeakSpec)

/-- ITS FALSE NEIGHBOUR: 'it returns false'. Refute it at one input. -/
def gcLeakWrong : ChangeSpec := { name := "gcLeak", fn := fun _ => fun
  | [d1, d2] => { results := [.lit (.bool false)], args := [d1, d2] }
  | _ => none }
def GcLeakWrongFalsely : Prop := gcLeakRow.holds Try.pinned (OpenSpec.ofChange gcLeakWrong)

/-- 'thunklaw12.GcRoots': WHATEVER THE INPUT: true; the input reads as it did. -/
def gcRootsSpec : ChangeSpec := { name := "gcRoots", fn := fun _ => fun
  | [d1, d2] => { results := [.lit (.bool true)], args := [d1, d2] }
  | _ => none }
def gcRootsRow : OpenClaim := { program := "ytjhdnbediipibaa", sum := "511a0f2aeebf6ffadc4360fb7f0934824c20ad061c2d8877c92bd18367baebe3", func := "thunk/thunklaw12.GcRoots", spec := "gcRoots", recurses := true, apart := false }
def GcRootsSaid : Prop := gcRootsRow.holds Try.pinned (OpenSpec.ofChange gcRootsSpec)

/-- ITS FALSE NEIGHBOUR: 'it returns false'. Refute it at one input. -/
def gcRootsWrong : ChangeSpec := { name := "gcRoots", fn := fun _ => fun
  | [d1, d2] => { results := [.lit (.bool false)], args := [d1, d2] }
  | _ => none }
def GcRootsWrongFalsely : Prop := gcRootsRow.holds Try.pinned (OpenSpec.ofChange gcRootsWrong)

/-- 'thunklaw12.GcRings': WHATEVER THE INPUT: true; the input reads as it did. -/
def gcRingsSpec : ChangeSpec := { name := "gcRings", fn := fun _ => fun
  | [d1, d2, d3] => { results := [.lit (.bool true)], args := [d1, d2, d3] }
  | _ => none }
def gcRingsRow : OpenClaim := { program := "ytjhdnbediipibaa", sum := "511a0f2aeebf6ffadc4360fb7f0934824c20ad061c2d8877c92bd18367baebe3", func := "thunk/thunklaw12.GcRings", spec := "gcRings", recurses := true, apart := false }
def GcRingsSaid : Prop := gcRingsRow.holds Try.pinned (OpenSpec.ofChange gcRingsSpec)

/-- ITS FALSE NEIGHBOUR: 'it returns false'. Refute it at one input. -/
def gcRingsWrong : ChangeSpec := { name := "gcRings", fn := fun _ => fun
  | [d1, d2, d3] => { results := [.lit (.bool false)], args := [d1, d2, d3] }
  | _ => none }
def GcRingsWrongFalsely : Prop := gcRingsRow.holds Try.pinned (OpenSpec.ofChange gcRingsWrong)

/-- 'thunklaw12.GcSame': WHATEVER THE INPUT: true; the input reads as it did. -/
def gcSameSpec : ChangeSpec := { name := "gcSame", fn := fun _ => fun
  | [d1, d2] => { results := [.lit (.bool true)], args := [d1, d2] }
  | _ => none }
def gcSameRow : OpenClaim := { program := "ytjhdnbediipibaa", sum := "511a0f2aeebf6ffadc4360fb7f0934824c20ad061c2d8877c92bd18367baebe3", func := "thunk/thunklaw12.GcSame", spec := "gcSame", recurses := true, apart := false }
def GcSameSaid : Prop := gcSameRow.holds Try.pinned (OpenSpec.ofChange gcSameSpec)

/-- ITS FALSE NEIGHBOUR: 'it returns false'. Refute it at one input. -/
def gcSameWrong : ChangeSpec := { name := "gcSame", fn := fun _ => fun
  | [d1, d2] => { results := [.lit (.bool false)], args := [d1, d2] }
  | _ => none }
def GcSameWrongFalsely : Prop := gcSameRow.holds Try.pinned (OpenSpec.ofChange gcSameWrong)

/-- 'thunklaw12.GcDeeper': WHATEVER THE INPUT: true; the input reads as it did. -/
def gcDeeperSpec : ChangeSpec := { name := "gcDeeper", fn := fun _ => fun
  | [d1, d2, d3] => { results := [.lit (.bool true)], args := [d1, d2, d3] }
  | _ => none }
def gcDeeperRow : OpenClaim := { program := "ytjhdnbediipibaa", sum := "511a0f2aeebf6ffadc4360fb7f0934824c20ad061c2d8877c92bd18367baebe3", func := "thunk/thunklaw12.GcDeeper", spec := "gcDeeper", recurses := true, apart := false }
def GcDeeperSaid : Prop := gcDeeperRow.holds Try.pinned (OpenSpec.ofChange gcDeeperSpec)

/-- ITS FALSE NEIGHBOUR: 'it returns false'. Refute it at one input. -/
def gcDeeperWrong : ChangeSpec := { name := "gcDeeper", fn := fun _ => fun
  | [d1, d2, d3] => { results := [.lit (.bool false)], args := [d1, d2, d3] }
  | _ => none }
def GcDeeperWrongFalsely : Prop := gcDeeperRow.holds Try.pinned (OpenSpec.ofChange gcDeeperWrong)

/-- 'thunklaw11.HeapRoom': WHATEVER THE INPUT: true; the input reads as it did. -/
def heapRoomSpec : ChangeSpec := { name := "heapRoom", fn := fun _ => fun
  | [d1, d2] => { results := [.lit (.bool true)], args := [d1, d2] }
  | _ => none }
def heapRoomRow : OpenClaim := { program := "ytjhdnbediipibaa", sum := "511a0f2aeebf6ffadc4360fb7f0934824c20ad061c2d8877c92bd18367baebe3", func := "thunk/thunklaw11.HeapRoom", spec := "heapRoom", unfollowed := true, recurses := true, apart := false }
def HeapRoomSaid : Prop := heapRoomRow.holds Try.pinned (OpenSpec.ofChange heapRoomSpec)

/-- ITS FALSE NEIGHBOUR: 'it returns false'. Refute it at one input. -/
def heapRoomWrong : ChangeSpec := { name := "heapRoom", fn := fun _ => fun
  | [d1, d2] => { results := [.lit (.bool false)], args := [d1, d2] }
  | _ => none }
def HeapRoomWrongFalsely : Prop := heapRoomRow.holds Try.pinned (OpenSpec.ofChange heapRoomWrong)

/-- 'thunklaw11.HeapShapes': WHATEVER THE INPUT: true; the input reads as it did. -/
def heapShapesSpec : ChangeSpec := { name := "heapShapes", fn := fun _ => fun
  | [d1, d2, d3, d4] => { results := [.lit (.bool true)], args := [d1, d2, d3, d4] }
  | _ => none }
def heapShapesRow : OpenClaim := { program := "ytjhdnbediipibaa", sum := "511a0f2aeebf6ffadc4360fb7f0934824c20ad061c2d8877c92bd18367baebe3", func := "thunk/thunklaw11.HeapShapes", spec := "heapShapes", unfollowed := true, recurses := true, apart := false }
def HeapShapesSaid : Prop := heapShapesRow.holds Try.pinned (OpenSpec.ofChange heapShapesSpec)

/-- ITS FALSE NEIGHBOUR: 'it returns false'. Refute it at one input. -/
def heapShapesWrong : ChangeSpec := { name := "heapShapes", fn := fun _ => fun
  | [d1, d2, d3, d4] => { results := [.lit (.bool false)], args := [d1, d2, d3, d4] }
  | _ => none }
def HeapShapesWrongFalsely : Prop := heapShapesRow.holds Try.pinned (OpenSpec.ofChange heapShapesWrong)

/-- 'thunklaw11.HeapOwn': WHATEVER THE INPUT: true; the input reads as it did. -/
def heapOwnSpec : ChangeSpec := { name := "heapOwn", fn := fun _ => fun
  | [d1, d2] => { results := [.lit (.bool true)], args := [d1, d2] }
  | _ => none }
def heapOwnRow : OpenClaim := { program := "ytjhdnbediipibaa", sum := "511a0f2aeebf6ffadc4360fb7f0934824c20ad061c2d8877c92bd18367baebe3", func := "thunk/thunklaw11.HeapOwn", spec := "heapOwn", unfollowed := true, recurses := true, apart := false }
def HeapOwnSaid : Prop := heapOwnRow.holds Try.pinned (OpenSpec.ofChange heapOwnSpec)

/-- ITS FALSE NEIGHBOUR: 'it returns false'. Refute it at one input. -/
def heapOwnWrong : ChangeSpec := { name := "heapOwn", fn := fun _ => fun
  | [d1, d2] => { results := [.lit (.bool false)], args := [d1, d2] }
  | _ => none }
def HeapOwnWrongFalsely : Prop := heapOwnRow.holds Try.pinned (OpenSpec.ofChange heapOwnWrong)

/-- 'thunklaw11.HeapSets': WHATEVER THE INPUT: true; the input reads as it did. -/
def heapSetsSpec : ChangeSpec := { name := "heapSets", fn := fun _ => fun
  | [d1, d2] => { results := [.lit (.bool true)], args := [d1, d2] }
  | _ => none }
def heapSetsRow : OpenClaim := { program := "ytjhdnbediipibaa", sum := "511a0f2aeebf6ffadc4360fb7f0934824c20ad061c2d8877c92bd18367baebe3", func := "thunk/thunklaw11.HeapSets", spec := "heapSets", unfollowed := true, recurses := true, apart := false }
def HeapSetsSaid : Prop := heapSetsRow.holds Try.pinned (OpenSpec.ofChange heapSetsSpec)

/-- ITS FALSE NEIGHBOUR: 'it returns false'. Refute it at one input. -/
def heapSetsWrong : ChangeSpec := { name := "heapSets", fn := fun _ => fun
  | [d1, d2] => { results := [.lit (.bool false)], args := [d1, d2] }
  | _ => none }
def HeapSetsWrongFalsely : Prop := heapSetsRow.holds Try.pinned (OpenSpec.ofChange heapSetsWrong)

/-- 'thunklaw11.HeapSelf': WHATEVER THE INPUT: true; the input reads as it did. -/
def heapSelfSpec : ChangeSpec := { name := "heapSelf", fn := fun _ => fun
  | [d1, d2] => { results := [.lit (.bool true)], args := [d1, d2] }
  | _ => none }
def heapSelfRow : OpenClaim := { program := "ytjhdnbediipibaa", sum := "511a0f2aeebf6ffadc4360fb7f0934824c20ad061c2d8877c92bd18367baebe3", func := "thunk/thunklaw11.HeapSelf", spec := "heapSelf", unfollowed := true, recurses := true, apart := false }
def HeapSelfSaid : Prop := heapSelfRow.holds Try.pinned (OpenSpec.ofChange heapSelfSpec)

/-- ITS FALSE NEIGHBOUR: 'it returns false'. Refute it at one input. -/
def heapSelfWrong : ChangeSpec := { name := "heapSelf", fn := fun _ => fun
  | [d1, d2] => { results := [.lit (.bool false)], args := [d1, d2] }
  | _ => none }
def HeapSelfWrongFalsely : Prop := heapSelfRow.holds Try.pinned (OpenSpec.ofChange heapSelfWrong)

/-- 'thunklaw11.HeapFollows': WHATEVER THE INPUT: true; the input reads as it did. -/
def heapFollowsSpec : ChangeSpec := { name := "heapFollows", fn := fun _ => fun
  | [d1, d2, d3] => { results := [.lit (.bool true)], args := [d1, d2, d3] }
  | _ => none }
def heapFollowsRow : OpenClaim := { program := "ytjhdnbediipibaa", sum := "511a0f2aeebf6ffadc4360fb7f0934824c20ad061c2d8877c92bd18367baebe3", func := "thunk/thunklaw11.HeapFollows", spec := "heapFollows", unfollowed := true, recurses := true, apart := false }
def HeapFollowsSaid : Prop := heapFollowsRow.holds Try.pinned (OpenSpec.ofChange heapFollowsSpec)

/-- ITS FALSE NEIGHBOUR: 'it returns false'. Refute it at one input. -/
def heapFollowsWrong : ChangeSpec := { name := "heapFollows", fn := fun _ => fun
  | [d1, d2, d3] => { results := [.lit (.bool false)], args := [d1, d2, d3] }
  | _ => none }
def HeapFollowsWrongFalsely : Prop := heapFollowsRow.holds Try.pinned (OpenSpec.ofChange heapFollowsWrong)

/-- 'thunklaw11.HeapPlays': WHATEVER THE INPUT: true; the input reads as it did. -/
def heapPlaysSpec : ChangeSpec := { name := "heapPlays", fn := fun _ => fun
  | [d1, d2, d3] => { results := [.lit (.bool true)], args := [d1, d2, d3] }
  | _ => none }
def heapPlaysRow : OpenClaim := { program := "ytjhdnbediipibaa", sum := "511a0f2aeebf6ffadc4360fb7f0934824c20ad061c2d8877c92bd18367baebe3", func := "thunk/thunklaw11.HeapPlays", spec := "heapPlays", unfollowed := true, recurses := true, apart := false }
def HeapPlaysSaid : Prop := heapPlaysRow.holds Try.pinned (OpenSpec.ofChange heapPlaysSpec)

/-- ITS FALSE NEIGHBOUR: 'it returns false'. Refute it at one input. -/
def heapPlaysWrong : ChangeSpec := { name := "heapPlays", fn := fun _ => fun
  | [d1, d2, d3] => { results := [.lit (.bool false)], args := [d1, d2, d3] }
  | _ => none }
def HeapPlaysWrongFalsely : Prop := heapPlaysRow.holds Try.pinned (OpenSpec.ofChange heapPlaysWrong)

/-- 'thunklaw11.HeapOver': WHATEVER THE INPUT: true; the input reads as it did. -/
def heapOverSpec : ChangeSpec := { name := "heapOver", fn := fun _ => fun
  | [d1, d2, d3] => { results := [.lit (.bool true)], args := [d1, d2, d3] }
  | _ => none }
def heapOverRow : OpenClaim := { program := "ytjhdnbediipibaa", sum := "511a0f2aeebf6ffadc4360fb7f0934824c20ad061c2d8877c92bd18367baebe3", func := "thunk/thunklaw11.HeapOver", spec := "heapOver", unfollowed := true, recurses := true, apart := false }
def HeapOverSaid : Prop := heapOverRow.holds Try.pinned (OpenSpec.ofChange heapOverSpec)

/-- ITS FALSE NEIGHBOUR: 'it returns false'. Refute it at one input. -/
def heapOverWrong : ChangeSpec := { name := "heapOver", fn := fun _ => fun
  | [d1, d2, d3] => { results := [.lit (.bool false)], args := [d1, d2, d3] }
  | _ => none }
def HeapOverWrongFalsely : Prop := heapOverRow.holds Try.pinned (OpenSpec.ofChange heapOverWrong)

/-- 'thunklaw11.HeapApart': WHATEVER THE INPUT: true; the input reads as it did. -/
def heapApartSpec : ChangeSpec := { name := "heapApart", fn := fun _ => fun
  | [d1, d2] => { results := [.lit (.bool true)], args := [d1, d2] }
  | _ => none }
def heapApartRow : OpenClaim := { program := "ytjhdnbediipibaa", sum := "511a0f2aeebf6ffadc4360fb7f0934824c20ad061c2d8877c92bd18367baebe3", func := "thunk/thunklaw11.HeapApart", spec := "heapApart", unfollowed := true, recurses := true, apart := false }
def HeapApartSaid : Prop := heapApartRow.holds Try.pinned (OpenSpec.ofChange heapApartSpec)

/-- ITS FALSE NEIGHBOUR: 'it returns false'. Refute it at one input. -/
def heapApartWrong : ChangeSpec := { name := "heapApart", fn := fun _ => fun
  | [d1, d2] => { results := [.lit (.bool false)], args := [d1, d2] }
  | _ => none }
def HeapApartWrongFalsely : Prop := heapApartRow.holds Try.pinned (OpenSpec.ofChange heapApartWrong)

/-- 'thunklaw12.GcAll': WHATEVER THE INPUT: true; the input reads as it did. -/
def gcAllSpec : ChangeSpec := { name := "gcAll", fn := fun _ => fun
  | [d1, d2, d3, d4] => { results := [.lit (.bool true)], args := [d1, d2, d3, d4] }
  | _ => none }
def gcAllRow : OpenClaim := { program := "ytjhdnbediipibaa", sum := "511a0f2aeebf6ffadc4360fb7f0934824c20ad061c2d8877c92bd18367baebe3", func := "thunk/thunklaw12.GcAll", spec := "gcAll", unfollowed := true, recurses := true, apart := false }
def GcAllSaid : Prop := gcAllRow.holds Try.pinned (OpenSpec.ofChange gcAllSpec)

/-- ITS FALSE NEIGHBOUR: 'it returns false'. Refute it at one input. -/
def gcAllWrong : ChangeSpec := { name := "gcAll", fn := fun _ => fun
  | [d1, d2, d3, d4] => { results := [.lit (.bool false)], args := [d1, d2, d3, d4] }
  | _ => none }
def GcAllWrongFalsely : Prop := gcAllRow.holds Try.pinned (OpenSpec.ofChange gcAllWrong)

/-- 'thunklaw12.GcAgain': WHATEVER THE INPUT: true; the input reads as it did. -/
def gcAgainSpec : ChangeSpec := { name := "gcAgain", fn := fun _ => fun
  | [d1, d2] => { results := [.lit (.bool true)], args := [d1, d2] }
  | _ => none }
def gcAgainRow : OpenClaim := { program := "ytjhdnbediipibaa", sum := "511a0f2aeebf6ffadc4360fb7f0934824c20ad061c2d8877c92bd18367baebe3", func := "thunk/thunklaw12.GcAgain", spec := "gcAgain", unfollowed := true, recurses := true, apart := false }
def GcAgainSaid : Prop := gcAgainRow.holds Try.pinned (OpenSpec.ofChange gcAgainSpec)

/-- ITS FALSE NEIGHBOUR: 'it returns false'. Refute it at one input. -/
def gcAgainWrong : ChangeSpec := { name := "gcAgain", fn := fun _ => fun
  | [d1, d2] => { results := [.lit (.bool false)], args := [d1, d2] }
  | _ => none }
def GcAgainWrongFalsely : Prop := gcAgainRow.holds Try.pinned (OpenSpec.ofChange gcAgainWrong)

/-- 'thunklaw12.GcReach': WHATEVER THE INPUT: true; the input reads as it did. -/
def gcReachSpec : ChangeSpec := { name := "gcReach", fn := fun _ => fun
  | [d1, d2, d3] => { results := [.lit (.bool true)], args := [d1, d2, d3] }
  | _ => none }
def gcReachRow : OpenClaim := { program := "ytjhdnbediipibaa", sum := "511a0f2aeebf6ffadc4360fb7f0934824c20ad061c2d8877c92bd18367baebe3", func := "thunk/thunklaw12.GcReach", spec := "gcReach", unfollowed := true, recurses := true, apart := false }
def GcReachSaid : Prop := gcReachRow.holds Try.pinned (OpenSpec.ofChange gcReachSpec)

/-- ITS FALSE NEIGHBOUR: 'it returns false'. Refute it at one input. -/
def gcReachWrong : ChangeSpec := { name := "gcReach", fn := fun _ => fun
  | [d1, d2, d3] => { results := [.lit (.bool false)], args := [d1, d2, d3] }
  | _ => none }
def GcReachWrongFalsely : Prop := gcReachRow.holds Try.pinned (OpenSpec.ofChange gcReachWrong)

/- THE SECOND FORM. 'bulk': how many values and letters a reading holds, each counted each time it is reached (what is shared counts as often as it is met; a slice's spare places count too). A statement '..UptoSaid' is the law's where the arguments, and the package variables that the reading takes, are together of bulk at most 1048576: NARROWER than '..Said'. Prove '..Said' where nothing that the law and all that it calls make is longer than what came in: it says more and counts as full. Else prove '..UptoSaid'. A law counts once. -/
mutual
def uptoBulk {H : Type} : DataW H → Nat
  | .lit (.string bytes) => bytes.length + 1
  | .lit _ => 1
  | .nil => 1
  | .ptr d => uptoBulk d + 1
  | .slice elems spare => uptoBulkAll elems + uptoBulkAll spare + 1
  | .agg parts => uptoBulkAll parts + 1
  | .iface _ d => uptoBulk d + 1
  | .map entries => uptoBulkEntries entries + 1
  | .held _ => 1
def uptoBulkAll {H : Type} : List (DataW H) → Nat
  | [] => 0
  | d :: r => uptoBulk d + uptoBulkAll r
def uptoBulkEntries {H : Type} : List (Lit × DataW H) → Nat
  | [] => 0
  | x :: r => uptoBulkEntry x + uptoBulkEntries r
def uptoBulkEntry {H : Type} : Lit × DataW H → Nat
  | (.string bytes, d) => bytes.length + uptoBulk d + 1
  | (_, d) => uptoBulk d + 1
 end
def uptoSmall : (H : Type) → List (DataW H) → Bool := fun _ ds => decide (uptoBulkAll ds ≤ 1048576)
def OpenSpec.upto (s : _root_.Go.ChangeSpec) : _root_.Go.OpenSpec := { _root_.Go.OpenSpec.ofChange s with cond := some uptoSmall }

/-- 'thunklaw12.GcSelectors', WHERE WHAT IT READS IS OF BULK AT MOST 1048576: true; the input reads as it did. -/
def gcSelectorsUptoRow : OpenClaim := { program := "ytjhdnbediipibaa", sum := "511a0f2aeebf6ffadc4360fb7f0934824c20ad061c2d8877c92bd18367baebe3", func := "thunk/thunklaw12.GcSelectors", spec := "gcSelectors", recurses := true, apart := false, narrowed := true }
def GcSelectorsUptoSaid : Prop := gcSelectorsUptoRow.holds Try.pinned (OpenSpec.upto gcSelectorsSpec)

/-- 'thunklaw12.GcLeak', WHERE WHAT IT READS IS OF BULK AT MOST 1048576: true; the input reads as it did. -/
def gcLeakUptoRow : OpenClaim := { program := "ytjhdnbediipibaa", sum := "511a0f2aeebf6ffadc4360fb7f0934824c20ad061c2d8877c92bd18367baebe3", func := "thunk/thunklaw12.GcLeak", spec := "gcLeak", recurses := true, apart := false, narrowed := true }
def GcLeakUptoSaid : Prop := gcLeakUptoRow.holds Try.pinned (OpenSpec.upto gcLeakSpec)

/-- 'thunklaw12.GcRoots', WHERE WHAT IT READS IS OF BULK AT MOST 1048576: true; the input reads as it did. -/
def gcRootsUptoRow : OpenClaim := { program := "ytjhdnbediipibaa", sum := "511a0f2aeebf6ffadc4360fb7f0934824c20ad061c2d8877c92bd18367baebe3", func := "thunk/thunklaw12.GcRoots", spec := "gcRoots", recurses := true, apart := false, narrowed := true }
def GcRootsUptoSaid : Prop := gcRootsUptoRow.holds Try.pinned (OpenSpec.upto gcRootsSpec)

/-- 'thunklaw12.GcRings', WHERE WHAT IT READS IS OF BULK AT MOST 1048576: true; the input reads as it did. -/
def gcRingsUptoRow : OpenClaim := { program := "ytjhdnbediipibaa", sum := "511a0f2aeebf6ffadc4360fb7f0934824c20ad061c2d8877c92bd18367baebe3", func := "thunk/thunklaw12.GcRings", spec := "gcRings", recurses := true, apart := false, narrowed := true }
def GcRingsUptoSaid : Prop := gcRingsUptoRow.holds Try.pinned (OpenSpec.upto gcRingsSpec)

/-- 'thunklaw12.GcSame', WHERE WHAT IT READS IS OF BULK AT MOST 1048576: true; the input reads as it did. -/
def gcSameUptoRow : OpenClaim := { program := "ytjhdnbediipibaa", sum := "511a0f2aeebf6ffadc4360fb7f0934824c20ad061c2d8877c92bd18367baebe3", func := "thunk/thunklaw12.GcSame", spec := "gcSame", recurses := true, apart := false, narrowed := true }
def GcSameUptoSaid : Prop := gcSameUptoRow.holds Try.pinned (OpenSpec.upto gcSameSpec)

/-- 'thunklaw12.GcDeeper', WHERE WHAT IT READS IS OF BULK AT MOST 1048576: true; the input reads as it did. -/
def gcDeeperUptoRow : OpenClaim := { program := "ytjhdnbediipibaa", sum := "511a0f2aeebf6ffadc4360fb7f0934824c20ad061c2d8877c92bd18367baebe3", func := "thunk/thunklaw12.GcDeeper", spec := "gcDeeper", recurses := true, apart := false, narrowed := true }
def GcDeeperUptoSaid : Prop := gcDeeperUptoRow.holds Try.pinned (OpenSpec.upto gcDeeperSpec)

/-- 'thunklaw11.HeapRoom', WHERE WHAT IT READS IS OF BULK AT MOST 1048576: true; the input reads as it did. -/
def heapRoomUptoRow : OpenClaim := { program := "ytjhdnbediipibaa", sum := "511a0f2aeebf6ffadc4360fb7f0934824c20ad061c2d8877c92bd18367baebe3", func := "thunk/thunklaw11.HeapRoom", spec := "heapRoom", unfollowed := true, recurses := true, apart := false, narrowed := true }
def HeapRoomUptoSaid : Prop := heapRoomUptoRow.holds Try.pinned (OpenSpec.upto heapRoomSpec)

/-- 'thunklaw11.HeapShapes', WHERE WHAT IT READS IS OF BULK AT MOST 1048576: true; the input reads as it did. -/
def heapShapesUptoRow : OpenClaim := { program := "ytjhdnbediipibaa", sum := "511a0f2aeebf6ffadc4360fb7f0934824c20ad061c2d8877c92bd18367baebe3", func := "thunk/thunklaw11.HeapShapes", spec := "heapShapes", unfollowed := true, recurses := true, apart := false, narrowed := true }
def HeapShapesUptoSaid : Prop := heapShapesUptoRow.holds Try.pinned (OpenSpec.upto heapShapesSpec)

/-- 'thunklaw11.HeapOwn', WHERE WHAT IT READS IS OF BULK AT MOST 1048576: true; the input reads as it did. -/
def heapOwnUptoRow : OpenClaim := { program := "ytjhdnbediipibaa", sum := "511a0f2aeebf6ffadc4360fb7f0934824c20ad061c2d8877c92bd18367baebe3", func := "thunk/thunklaw11.HeapOwn", spec := "heapOwn", unfollowed := true, recurses := true, apart := false, narrowed := true }
def HeapOwnUptoSaid : Prop := heapOwnUptoRow.holds Try.pinned (OpenSpec.upto heapOwnSpec)

/-- 'thunklaw11.HeapSets', WHERE WHAT IT READS IS OF BULK AT MOST 1048576: true; the input reads as it did. -/
def heapSetsUptoRow : OpenClaim := { program := "ytjhdnbediipibaa", sum := "511a0f2aeebf6ffadc4360fb7f0934824c20ad061c2d8877c92bd18367baebe3", func := "thunk/thunklaw11.HeapSets", spec := "heapSets", unfollowed := true, recurses := true, apart := false, narrowed := true }
def HeapSetsUptoSaid : Prop := heapSetsUptoRow.holds Try.pinned (OpenSpec.upto heapSetsSpec)

/-- 'thunklaw11.HeapSelf', WHERE WHAT IT READS IS OF BULK AT MOST 1048576: true; the input reads as it did. -/
def heapSelfUptoRow : OpenClaim := { program := "ytjhdnbediipibaa", sum := "511a0f2aeebf6ffadc4360fb7f0934824c20ad061c2d8877c92bd18367baebe3", func := "thunk/thunklaw11.HeapSelf", spec := "heapSelf", unfollowed := true, recurses := true, apart := false, narrowed := true }
def HeapSelfUptoSaid : Prop := heapSelfUptoRow.holds Try.pinned (OpenSpec.upto heapSelfSpec)

/-- 'thunklaw11.HeapFollows', WHERE WHAT IT READS IS OF BULK AT MOST 1048576: true; the input reads as it did. -/
def heapFollowsUptoRow : OpenClaim := { program := "ytjhdnbediipibaa", sum := "511a0f2aeebf6ffadc4360fb7f0934824c20ad061c2d8877c92bd18367baebe3", func := "thunk/thunklaw11.HeapFollows", spec := "heapFollows", unfollowed := true, recurses := true, apart := false, narrowed := true }
def HeapFollowsUptoSaid : Prop := heapFollowsUptoRow.holds Try.pinned (OpenSpec.upto heapFollowsSpec)

/-- 'thunklaw11.HeapPlays', WHERE WHAT IT READS IS OF BULK AT MOST 1048576: true; the input reads as it did. -/
def heapPlaysUptoRow : OpenClaim := { program := "ytjhdnbediipibaa", sum := "511a0f2aeebf6ffadc4360fb7f0934824c20ad061c2d8877c92bd18367baebe3", func := "thunk/thunklaw11.HeapPlays", spec := "heapPlays", unfollowed := true, recurses := true, apart := false, narrowed := true }
def HeapPlaysUptoSaid : Prop := heapPlaysUptoRow.holds Try.pinned (OpenSpec.upto heapPlaysSpec)

/-- 'thunklaw11.HeapOver', WHERE WHAT IT READS IS OF BULK AT MOST 1048576: true; the input reads as it did. -/
def heapOverUptoRow : OpenClaim := { program := "ytjhdnbediipibaa", sum := "511a0f2aeebf6ffadc4360fb7f0934824c20ad061c2d8877c92bd18367baebe3", func := "thunk/thunklaw11.HeapOver", spec := "heapOver", unfollowed := true, recurses := true, apart := false, narrowed := true }
def HeapOverUptoSaid : Prop := heapOverUptoRow.holds Try.pinned (OpenSpec.upto heapOverSpec)

/-- 'thunklaw11.HeapApart', WHERE WHAT IT READS IS OF BULK AT MOST 1048576: true; the input reads as it did. -/
def heapApartUptoRow : OpenClaim := { program := "ytjhdnbediipibaa", sum := "511a0f2aeebf6ffadc4360fb7f0934824c20ad061c2d8877c92bd18367baebe3", func := "thunk/thunklaw11.HeapApart", spec := "heapApart", unfollowed := true, recurses := true, apart := false, narrowed := true }
def HeapApartUptoSaid : Prop := heapApartUptoRow.holds Try.pinned (OpenSpec.upto heapApartSpec)

/-- 'thunklaw12.GcAll', WHERE WHAT IT READS IS OF BULK AT MOST 1048576: true; the input reads as it did. -/
def gcAllUptoRow : OpenClaim := { program := "ytjhdnbediipibaa", sum := "511a0f2aeebf6ffadc4360fb7f0934824c20ad061c2d8877c92bd18367baebe3", func := "thunk/thunklaw12.GcAll", spec := "gcAll", unfollowed := true, recurses := true, apart := false, narrowed := true }
def GcAllUptoSaid : Prop := gcAllUptoRow.holds Try.pinned (OpenSpec.upto gcAllSpec)

/-- 'thunklaw12.GcAgain', WHERE WHAT IT READS IS OF BULK AT MOST 1048576: true; the input reads as it did. -/
def gcAgainUptoRow : OpenClaim := { program := "ytjhdnbediipibaa", sum := "511a0f2aeebf6ffadc4360fb7f0934824c20ad061c2d8877c92bd18367baebe3", func := "thunk/thunklaw12.GcAgain", spec := "gcAgain", unfollowed := true, recurses := true, apart := false, narrowed := true }
def GcAgainUptoSaid : Prop := gcAgainUptoRow.holds Try.pinned (OpenSpec.upto gcAgainSpec)

/-- 'thunklaw12.GcReach', WHERE WHAT IT READS IS OF BULK AT MOST 1048576: true; the input reads as it did. -/
def gcReachUptoRow : OpenClaim := { program := "ytjhdnbediipibaa", sum := "511a0f2aeebf6ffadc4360fb7f0934824c20ad061c2d8877c92bd18367baebe3", func := "thunk/thunklaw12.GcReach", spec := "gcReach", unfollowed := true, recurses := true, apart := false, narrowed := true }
def GcReachUptoSaid : Prop := gcReachUptoRow.holds Try.pinned (OpenSpec.upto gcReachSpec)

end Rows
end Go.Proofs.Ytjhdnbediipibaa
