/-
  NARROWER THAN 'FOR EVERY INPUT', by the rows' own cells (each row's printed sentence says how): StrictNeeds: loops · StrictFixed: loops · StrictMore: loops · StrictBoth: loops · CoreRight: loops · CoreSize: loops · CoreFree: loops · CoreAll: loops · CoreBinds: loops.
  DERIVED. THE GIVEN ROWS OF THIS SEAT. 13 by the template 'for every input the law returns true; each argument reads behind the call as it read before'; 0 by the template 'total and deterministic' (their statements: YtddcfnjmppijjaaTotals.lean).
  GIVEN WITH THE SEED: the statements are not yours to turn. If you find one false, say at which input.
  Laid BY PROGRAM, IN A SANDBOX (cutbox-rows.mjs): the forced cells as the released guide's own fill.sh prints them over the translation e4a19fe66a8a7615… (all of the seat's roots in one cut). By AI agents, Wed Nov 11 2026. No macro, syntax, notation, axiom, sorry.
-/
import Derived.Test.YtddcfnjmppijjaaChecked
import GoSem.Claim
import GoSem.ClaimJoined
import GoSem.ClaimMapViews
import Derived.JoinedTies
import Derived.KernelRfl
namespace Go.Proofs.Ytddcfnjmppijjaa
/- THE CELL 'sum', in the pinned program and in every row, IS THE sha256 OF THE DUMP (.gsa) THAT YtddcfnjmppijjaaProg.lean LOADS. Nothing in Lean hashes anything: it is a label: what it is worth is what the hold of that sum in a sandbox is worth. -/
noncomputable def Try.pinned : Pinned := { name := "ytddcfnjmppijjaa", sum := "e4a19fe66a8a7615285c0d80866115e374aa482d156ce74eb75a7d6b4700906c", checked := Try.checked }
namespace Rows
def none {H : Type} : Left H := { results := [], args := [] }

/-- 'thunklaw8.StrictNeeds': WHATEVER THE INPUT: true; the input reads as it did. -/
def strictNeedsSpec : ChangeSpec := { name := "strictNeeds", fn := fun _ => fun
  | [d] => { results := [.lit (.bool true)], args := [d] }
  | _ => none }
def strictNeedsRow : OpenClaim := { program := "ytddcfnjmppijjaa", sum := "e4a19fe66a8a7615285c0d80866115e374aa482d156ce74eb75a7d6b4700906c", func := "thunk/thunklaw8.StrictNeeds", spec := "strictNeeds", inPlace := ["maps.clone"], unfollowed := true, recurses := true, loops := true, apart := false }
def StrictNeedsSaid : Prop := strictNeedsRow.holds Try.pinned (OpenSpec.ofChange strictNeedsSpec)

/-- ITS FALSE NEIGHBOUR: 'it returns false'. Refute it at one input. -/
def strictNeedsWrong : ChangeSpec := { name := "strictNeeds", fn := fun _ => fun
  | [d] => { results := [.lit (.bool false)], args := [d] }
  | _ => none }
def StrictNeedsWrongFalsely : Prop := strictNeedsRow.holds Try.pinned (OpenSpec.ofChange strictNeedsWrong)

/-- 'thunklaw8.StrictFixed': WHATEVER THE INPUT: true; the input reads as it did. -/
def strictFixedSpec : ChangeSpec := { name := "strictFixed", fn := fun _ => fun
  | [d] => { results := [.lit (.bool true)], args := [d] }
  | _ => none }
def strictFixedRow : OpenClaim := { program := "ytddcfnjmppijjaa", sum := "e4a19fe66a8a7615285c0d80866115e374aa482d156ce74eb75a7d6b4700906c", func := "thunk/thunklaw8.StrictFixed", spec := "strictFixed", inPlace := ["maps.clone"], unfollowed := true, recurses := true, loops := true, apart := false }
def StrictFixedSaid : Prop := strictFixedRow.holds Try.pinned (OpenSpec.ofChange strictFixedSpec)

/-- ITS FALSE NEIGHBOUR: 'it returns false'. Refute it at one input. -/
def strictFixedWrong : ChangeSpec := { name := "strictFixed", fn := fun _ => fun
  | [d] => { results := [.lit (.bool false)], args := [d] }
  | _ => none }
def StrictFixedWrongFalsely : Prop := strictFixedRow.holds Try.pinned (OpenSpec.ofChange strictFixedWrong)

/-- 'thunklaw8.StrictMore': WHATEVER THE INPUT: true; the input reads as it did. -/
def strictMoreSpec : ChangeSpec := { name := "strictMore", fn := fun _ => fun
  | [d1, d2, d3] => { results := [.lit (.bool true)], args := [d1, d2, d3] }
  | _ => none }
def strictMoreRow : OpenClaim := { program := "ytddcfnjmppijjaa", sum := "e4a19fe66a8a7615285c0d80866115e374aa482d156ce74eb75a7d6b4700906c", func := "thunk/thunklaw8.StrictMore", spec := "strictMore", inPlace := ["maps.clone"], unfollowed := true, recurses := true, loops := true, apart := false }
def StrictMoreSaid : Prop := strictMoreRow.holds Try.pinned (OpenSpec.ofChange strictMoreSpec)

/-- ITS FALSE NEIGHBOUR: 'it returns false'. Refute it at one input. -/
def strictMoreWrong : ChangeSpec := { name := "strictMore", fn := fun _ => fun
  | [d1, d2, d3] => { results := [.lit (.bool false)], args := [d1, d2, d3] }
  | _ => none }
def StrictMoreWrongFalsely : Prop := strictMoreRow.holds Try.pinned (OpenSpec.ofChange strictMoreWrong)

/-- 'thunklaw8.StrictKnown': WHATEVER THE INPUT: true; the input reads as it did. -/
def strictKnownSpec : ChangeSpec := { name := "strictKnown", fn := fun _ => fun
  | [d] => { results := [.lit (.bool true)], args := [d] }
  | _ => none }
def strictKnownRow : OpenClaim := { program := "ytddcfnjmppijjaa", sum := "e4a19fe66a8a7615285c0d80866115e374aa482d156ce74eb75a7d6b4700906c", func := "thunk/thunklaw8.StrictKnown", spec := "strictKnown", inPlace := ["maps.clone"], unfollowed := true, recurses := true, apart := false }
def StrictKnownSaid : Prop := strictKnownRow.holds Try.pinned (OpenSpec.ofChange strictKnownSpec)

/-- ITS FALSE NEIGHBOUR: 'it returns false'. Refute it at one input. -/
def strictKnownWrong : ChangeSpec := { name := "strictKnown", fn := fun _ => fun
  | [d] => { results := [.lit (.bool false)], args := [d] }
  | _ => none }
def StrictKnownWrongFalsely : Prop := strictKnownRow.holds Try.pinned (OpenSpec.ofChange strictKnownWrong)

/-- 'thunklaw8.StrictBoth': WHATEVER THE INPUT: true; the input reads as it did. -/
def strictBothSpec : ChangeSpec := { name := "strictBoth", fn := fun _ => fun
  | [d1, d2, d3] => { results := [.lit (.bool true)], args := [d1, d2, d3] }
  | _ => none }
def strictBothRow : OpenClaim := { program := "ytddcfnjmppijjaa", sum := "e4a19fe66a8a7615285c0d80866115e374aa482d156ce74eb75a7d6b4700906c", func := "thunk/thunklaw8.StrictBoth", spec := "strictBoth", inPlace := ["maps.clone"], unfollowed := true, recurses := true, loops := true, apart := false }
def StrictBothSaid : Prop := strictBothRow.holds Try.pinned (OpenSpec.ofChange strictBothSpec)

/-- ITS FALSE NEIGHBOUR: 'it returns false'. Refute it at one input. -/
def strictBothWrong : ChangeSpec := { name := "strictBoth", fn := fun _ => fun
  | [d1, d2, d3] => { results := [.lit (.bool false)], args := [d1, d2, d3] }
  | _ => none }
def StrictBothWrongFalsely : Prop := strictBothRow.holds Try.pinned (OpenSpec.ofChange strictBothWrong)

/-- 'thunklaw5.CoreRight': WHATEVER THE INPUT: true; the input reads as it did. -/
def coreRightSpec : ChangeSpec := { name := "coreRight", fn := fun _ => fun
  | [d1, d2, d3, d4] => { results := [.lit (.bool true)], args := [d1, d2, d3, d4] }
  | _ => none }
def coreRightRow : OpenClaim := { program := "ytddcfnjmppijjaa", sum := "e4a19fe66a8a7615285c0d80866115e374aa482d156ce74eb75a7d6b4700906c", func := "thunk/thunklaw5.CoreRight", spec := "coreRight", inPlace := ["internal/abi.NoEscape", "internal/bytealg.MakeNoZero", "internal/bytealg.IndexByteString", "internal/bytealg.IndexString"], recurses := true, named := ["internal/bytealg.MaxLen"], loops := true, apart := false }
def CoreRightSaid : Prop := coreRightRow.holds Try.pinned (OpenSpec.ofChange coreRightSpec)

/-- ITS FALSE NEIGHBOUR: 'it returns false'. Refute it at one input. -/
def coreRightWrong : ChangeSpec := { name := "coreRight", fn := fun _ => fun
  | [d1, d2, d3, d4] => { results := [.lit (.bool false)], args := [d1, d2, d3, d4] }
  | _ => none }
def CoreRightWrongFalsely : Prop := coreRightRow.holds Try.pinned (OpenSpec.ofChange coreRightWrong)

/-- 'thunklaw5.CoreTable': WHATEVER THE INPUT: true; the input reads as it did. -/
def coreTableSpec : ChangeSpec := { name := "coreTable", fn := fun _ => fun
  | [d] => { results := [.lit (.bool true)], args := [d] }
  | _ => none }
def coreTableRow : OpenClaim := { program := "ytddcfnjmppijjaa", sum := "e4a19fe66a8a7615285c0d80866115e374aa482d156ce74eb75a7d6b4700906c", func := "thunk/thunklaw5.CoreTable", spec := "coreTable", inPlace := ["internal/abi.NoEscape", "internal/bytealg.MakeNoZero", "internal/bytealg.IndexByteString", "internal/bytealg.IndexString"], recurses := true, named := ["internal/bytealg.MaxLen"], apart := false }
def CoreTableSaid : Prop := coreTableRow.holds Try.pinned (OpenSpec.ofChange coreTableSpec)

/-- ITS FALSE NEIGHBOUR: 'it returns false'. Refute it at one input. -/
def coreTableWrong : ChangeSpec := { name := "coreTable", fn := fun _ => fun
  | [d] => { results := [.lit (.bool false)], args := [d] }
  | _ => none }
def CoreTableWrongFalsely : Prop := coreTableRow.holds Try.pinned (OpenSpec.ofChange coreTableWrong)

/-- 'thunklaw5.CoreShapes': WHATEVER THE INPUT: true; the input reads as it did. -/
def coreShapesSpec : ChangeSpec := { name := "coreShapes", fn := fun _ => fun
  | [d1, d2, d3, d4] => { results := [.lit (.bool true)], args := [d1, d2, d3, d4] }
  | _ => none }
def coreShapesRow : OpenClaim := { program := "ytddcfnjmppijjaa", sum := "e4a19fe66a8a7615285c0d80866115e374aa482d156ce74eb75a7d6b4700906c", func := "thunk/thunklaw5.CoreShapes", spec := "coreShapes", inPlace := ["internal/abi.NoEscape", "internal/bytealg.MakeNoZero", "internal/bytealg.IndexByteString", "internal/bytealg.IndexString"], recurses := true, named := ["internal/bytealg.MaxLen"], apart := false }
def CoreShapesSaid : Prop := coreShapesRow.holds Try.pinned (OpenSpec.ofChange coreShapesSpec)

/-- ITS FALSE NEIGHBOUR: 'it returns false'. Refute it at one input. -/
def coreShapesWrong : ChangeSpec := { name := "coreShapes", fn := fun _ => fun
  | [d1, d2, d3, d4] => { results := [.lit (.bool false)], args := [d1, d2, d3, d4] }
  | _ => none }
def CoreShapesWrongFalsely : Prop := coreShapesRow.holds Try.pinned (OpenSpec.ofChange coreShapesWrong)

/-- 'thunklaw5.CoreSize': WHATEVER THE INPUT: true; the input reads as it did. -/
def coreSizeSpec : ChangeSpec := { name := "coreSize", fn := fun _ => fun
  | [d] => { results := [.lit (.bool true)], args := [d] }
  | _ => none }
def coreSizeRow : OpenClaim := { program := "ytddcfnjmppijjaa", sum := "e4a19fe66a8a7615285c0d80866115e374aa482d156ce74eb75a7d6b4700906c", func := "thunk/thunklaw5.CoreSize", spec := "coreSize", inPlace := ["internal/abi.NoEscape", "internal/bytealg.MakeNoZero", "internal/bytealg.IndexByteString", "internal/bytealg.IndexString"], recurses := true, named := ["internal/bytealg.MaxLen"], loops := true, apart := false }
def CoreSizeSaid : Prop := coreSizeRow.holds Try.pinned (OpenSpec.ofChange coreSizeSpec)

/-- ITS FALSE NEIGHBOUR: 'it returns false'. Refute it at one input. -/
def coreSizeWrong : ChangeSpec := { name := "coreSize", fn := fun _ => fun
  | [d] => { results := [.lit (.bool false)], args := [d] }
  | _ => none }
def CoreSizeWrongFalsely : Prop := coreSizeRow.holds Try.pinned (OpenSpec.ofChange coreSizeWrong)

/-- 'thunklaw5.CoreFree': WHATEVER THE INPUT: true; the input reads as it did. -/
def coreFreeSpec : ChangeSpec := { name := "coreFree", fn := fun _ => fun
  | [d1, d2] => { results := [.lit (.bool true)], args := [d1, d2] }
  | _ => none }
def coreFreeRow : OpenClaim := { program := "ytddcfnjmppijjaa", sum := "e4a19fe66a8a7615285c0d80866115e374aa482d156ce74eb75a7d6b4700906c", func := "thunk/thunklaw5.CoreFree", spec := "coreFree", inPlace := ["internal/abi.NoEscape", "internal/bytealg.MakeNoZero", "internal/bytealg.IndexByteString", "internal/bytealg.IndexString"], recurses := true, named := ["internal/bytealg.MaxLen"], loops := true, apart := false }
def CoreFreeSaid : Prop := coreFreeRow.holds Try.pinned (OpenSpec.ofChange coreFreeSpec)

/-- ITS FALSE NEIGHBOUR: 'it returns false'. Refute it at one input. -/
def coreFreeWrong : ChangeSpec := { name := "coreFree", fn := fun _ => fun
  | [d1, d2] => { results := [.lit (.bool false)], args := [d1, d2] }
  | _ => none }
def CoreFreeWrongFalsely : Prop := coreFreeRow.holds Try.pinned (OpenSpec.ofChange coreFreeWrong)

/-- 'thunklaw5.CoreKnown': WHATEVER THE INPUT: true; the input reads as it did. -/
def coreKnownSpec : ChangeSpec := { name := "coreKnown", fn := fun _ => fun
  | [d] => { results := [.lit (.bool true)], args := [d] }
  | _ => none }
def coreKnownRow : OpenClaim := { program := "ytddcfnjmppijjaa", sum := "e4a19fe66a8a7615285c0d80866115e374aa482d156ce74eb75a7d6b4700906c", func := "thunk/thunklaw5.CoreKnown", spec := "coreKnown", inPlace := ["internal/abi.NoEscape", "internal/bytealg.MakeNoZero", "internal/bytealg.IndexByteString", "internal/bytealg.IndexString"], recurses := true, named := ["internal/bytealg.MaxLen"], apart := false }
def CoreKnownSaid : Prop := coreKnownRow.holds Try.pinned (OpenSpec.ofChange coreKnownSpec)

/-- ITS FALSE NEIGHBOUR: 'it returns false'. Refute it at one input. -/
def coreKnownWrong : ChangeSpec := { name := "coreKnown", fn := fun _ => fun
  | [d] => { results := [.lit (.bool false)], args := [d] }
  | _ => none }
def CoreKnownWrongFalsely : Prop := coreKnownRow.holds Try.pinned (OpenSpec.ofChange coreKnownWrong)

/-- 'thunklaw5.CoreAll': WHATEVER THE INPUT: true; the input reads as it did. -/
def coreAllSpec : ChangeSpec := { name := "coreAll", fn := fun _ => fun
  | [d1, d2] => { results := [.lit (.bool true)], args := [d1, d2] }
  | _ => none }
def coreAllRow : OpenClaim := { program := "ytddcfnjmppijjaa", sum := "e4a19fe66a8a7615285c0d80866115e374aa482d156ce74eb75a7d6b4700906c", func := "thunk/thunklaw5.CoreAll", spec := "coreAll", inPlace := ["internal/abi.NoEscape", "internal/bytealg.MakeNoZero", "internal/bytealg.IndexByteString", "internal/bytealg.IndexString"], recurses := true, named := ["internal/bytealg.MaxLen"], loops := true, apart := false }
def CoreAllSaid : Prop := coreAllRow.holds Try.pinned (OpenSpec.ofChange coreAllSpec)

/-- ITS FALSE NEIGHBOUR: 'it returns false'. Refute it at one input. -/
def coreAllWrong : ChangeSpec := { name := "coreAll", fn := fun _ => fun
  | [d1, d2] => { results := [.lit (.bool false)], args := [d1, d2] }
  | _ => none }
def CoreAllWrongFalsely : Prop := coreAllRow.holds Try.pinned (OpenSpec.ofChange coreAllWrong)

/-- 'thunklaw5.CoreBinds': WHATEVER THE INPUT: true; the input reads as it did. -/
def coreBindsSpec : ChangeSpec := { name := "coreBinds", fn := fun _ => fun
  | [d1, d2, d3] => { results := [.lit (.bool true)], args := [d1, d2, d3] }
  | _ => none }
def coreBindsRow : OpenClaim := { program := "ytddcfnjmppijjaa", sum := "e4a19fe66a8a7615285c0d80866115e374aa482d156ce74eb75a7d6b4700906c", func := "thunk/thunklaw5.CoreBinds", spec := "coreBinds", inPlace := ["internal/abi.NoEscape", "internal/bytealg.MakeNoZero", "internal/bytealg.IndexByteString", "internal/bytealg.IndexString"], recurses := true, named := ["internal/bytealg.MaxLen"], loops := true, apart := false }
def CoreBindsSaid : Prop := coreBindsRow.holds Try.pinned (OpenSpec.ofChange coreBindsSpec)

/-- ITS FALSE NEIGHBOUR: 'it returns false'. Refute it at one input. -/
def coreBindsWrong : ChangeSpec := { name := "coreBinds", fn := fun _ => fun
  | [d1, d2, d3] => { results := [.lit (.bool false)], args := [d1, d2, d3] }
  | _ => none }
def CoreBindsWrongFalsely : Prop := coreBindsRow.holds Try.pinned (OpenSpec.ofChange coreBindsWrong)

/- THE SECOND FORM. 'bulk': how many values and letters a reading holds, each counted each time it is reached (what is shared counts as often as it is met; a slice's spare places count too). A statement '..UptoSaid' is the law's where the arguments, and the package variables that the reading takes, are together of bulk at most 1048576: NARROWER than '..Said'. Prove '..Said' where nothing that the law and all that it calls make is longer than what came in: it says more and counts as full. Else prove '..UptoSaid'. A law counts once. -/
mutual
def uptoBulk {H : Type} : DataW H → Nat
  | .lit (.string bytes) => bytes.length + 1
  | .lit _ => 1
  | .nil => 1
  | .ptr d => uptoBulk d + 1
  | .slice elems spare => uptoBulkAll elems + uptoBulkAll spare + 1
  | .agg parts => uptoBulkAll parts + 1
  | .iface _ d => uptoBulk d + 1
  | .map entries => uptoBulkEntries entries + 1
  | .held _ => 1
def uptoBulkAll {H : Type} : List (DataW H) → Nat
  | [] => 0
  | d :: r => uptoBulk d + uptoBulkAll r
def uptoBulkEntries {H : Type} : List (Lit × DataW H) → Nat
  | [] => 0
  | x :: r => uptoBulkEntry x + uptoBulkEntries r
def uptoBulkEntry {H : Type} : Lit × DataW H → Nat
  | (.string bytes, d) => bytes.length + uptoBulk d + 1
  | (_, d) => uptoBulk d + 1
 end
def uptoSmall : (H : Type) → List (DataW H) → Bool := fun _ ds => decide (uptoBulkAll ds ≤ 1048576)
def OpenSpec.upto (s : _root_.Go.ChangeSpec) : _root_.Go.OpenSpec := { _root_.Go.OpenSpec.ofChange s with cond := some uptoSmall }

/-- 'thunklaw8.StrictNeeds', WHERE WHAT IT READS IS OF BULK AT MOST 1048576: true; the input reads as it did. -/
def strictNeedsUptoRow : OpenClaim := { program := "ytddcfnjmppijjaa", sum := "e4a19fe66a8a7615285c0d80866115e374aa482d156ce74eb75a7d6b4700906c", func := "thunk/thunklaw8.StrictNeeds", spec := "strictNeeds", inPlace := ["maps.clone"], unfollowed := true, recurses := true, loops := true, apart := false, narrowed := true }
def StrictNeedsUptoSaid : Prop := strictNeedsUptoRow.holds Try.pinned (OpenSpec.upto strictNeedsSpec)

/-- 'thunklaw8.StrictFixed', WHERE WHAT IT READS IS OF BULK AT MOST 1048576: true; the input reads as it did. -/
def strictFixedUptoRow : OpenClaim := { program := "ytddcfnjmppijjaa", sum := "e4a19fe66a8a7615285c0d80866115e374aa482d156ce74eb75a7d6b4700906c", func := "thunk/thunklaw8.StrictFixed", spec := "strictFixed", inPlace := ["maps.clone"], unfollowed := true, recurses := true, loops := true, apart := false, narrowed := true }
def StrictFixedUptoSaid : Prop := strictFixedUptoRow.holds Try.pinned (OpenSpec.upto strictFixedSpec)

/-- 'thunklaw8.StrictMore', WHERE WHAT IT READS IS OF BULK AT MOST 1048576: true; the input reads as it did. -/
def strictMoreUptoRow : OpenClaim := { program := "ytddcfnjmppijjaa", sum := "e4a19fe66a8a7615285c0d80866115e374aa482d156ce74eb75a7d6b4700906c", func := "thunk/thunklaw8.StrictMore", spec := "strictMore", inPlace := ["maps.clone"], unfollowed := true, recurses := true, loops := true, apart := false, narrowed := true }
def StrictMoreUptoSaid : Prop := strictMoreUptoRow.holds Try.pinned (OpenSpec.upto strictMoreSpec)

/-- 'thunklaw8.StrictKnown', WHERE WHAT IT READS IS OF BULK AT MOST 1048576: true; the input reads as it did. -/
def strictKnownUptoRow : OpenClaim := { program := "ytddcfnjmppijjaa", sum := "e4a19fe66a8a7615285c0d80866115e374aa482d156ce74eb75a7d6b4700906c", func := "thunk/thunklaw8.StrictKnown", spec := "strictKnown", inPlace := ["maps.clone"], unfollowed := true, recurses := true, apart := false, narrowed := true }
def StrictKnownUptoSaid : Prop := strictKnownUptoRow.holds Try.pinned (OpenSpec.upto strictKnownSpec)

/-- 'thunklaw8.StrictBoth', WHERE WHAT IT READS IS OF BULK AT MOST 1048576: true; the input reads as it did. -/
def strictBothUptoRow : OpenClaim := { program := "ytddcfnjmppijjaa", sum := "e4a19fe66a8a7615285c0d80866115e374aa482d156ce74eb75a7d6b4700906c", func := "thunk/thunklaw8.StrictBoth", spec := "strictBoth", inPlace := ["maps.clone"], unfollowed := true, recurses := true, loops := true, apart := false, narrowed := true }
def StrictBothUptoSaid : Prop := strictBothUptoRow.holds Try.pinned (OpenSpec.upto strictBothSpec)

/-- 'thunklaw5.CoreRight', WHERE WHAT IT READS IS OF BULK AT MOST 1048576: true; the input reads as it did. -/
def coreRightUptoRow : OpenClaim := { program := "ytddcfnjmppijjaa", sum := "e4a19fe66a8a7615285c0d80866115e374aa482d156ce74eb75a7d6b4700906c", func := "thunk/thunklaw5.CoreRight", spec := "coreRight", inPlace := ["internal/abi.NoEscape", "internal/bytealg.MakeNoZero", "internal/bytealg.IndexByteString", "internal/bytealg.IndexString"], recurses := true, named := ["internal/bytealg.MaxLen"], loops := true, apart := false, narrowed := true }
def CoreRightUptoSaid : Prop := coreRightUptoRow.holds Try.pinned (OpenSpec.upto coreRightSpec)

/-- 'thunklaw5.CoreTable', WHERE WHAT IT READS IS OF BULK AT MOST 1048576: true; the input reads as it did. -/
def coreTableUptoRow : OpenClaim := { program := "ytddcfnjmppijjaa", sum := "e4a19fe66a8a7615285c0d80866115e374aa482d156ce74eb75a7d6b4700906c", func := "thunk/thunklaw5.CoreTable", spec := "coreTable", inPlace := ["internal/abi.NoEscape", "internal/bytealg.MakeNoZero", "internal/bytealg.IndexByteString", "internal/bytealg.IndexString"], recurses := true, named := ["internal/bytealg.MaxLen"], apart := false, narrowed := true }
def CoreTableUptoSaid : Prop := coreTableUptoRow.holds Try.pinned (OpenSpec.upto coreTableSpec)

/-- 'thunklaw5.CoreShapes', WHERE WHAT IT READS IS OF BULK AT MOST 1048576: true; the input reads as it did. -/
def coreShapesUptoRow : OpenClaim := { program := "ytddcfnjmppijjaa", sum := "e4a19fe66a8a7615285c0d80866115e374aa482d156ce74eb75a7d6b4700906c", func := "thunk/thunklaw5.CoreShapes", spec := "coreShapes", inPlace := ["internal/abi.NoEscape", "internal/bytealg.MakeNoZero", "internal/bytealg.IndexByteString", "internal/bytealg.IndexString"], recurses := true, named := ["internal/bytealg.MaxLen"], apart := false, narrowed := true }
def CoreShapesUptoSaid : Prop := coreShapesUptoRow.holds Try.pinned (OpenSpec.upto coreShapesSpec)

/-- 'thunklaw5.CoreSize', WHERE WHAT IT READS IS OF BULK AT MOST 1048576: true; the input reads as it did. -/
def coreSizeUptoRow : OpenClaim := { program := "ytddcfnjmppijjaa", sum := "e4a19fe66a8a7615285c0d80866115e374aa482d156ce74eb75a7d6b4700906c", func := "thunk/thunklaw5.CoreSize", spec := "coreSize", inPlace := ["internal/abi.NoEscape", "internal/bytealg.MakeNoZero", "internal/bytealg.IndexByteString", "internal/bytealg.IndexString"], recurses := true, named := ["internal/bytealg.MaxLen"], loops := true, apart := false, narrowed := true }
def CoreSizeUptoSaid : Prop := coreSizeUptoRow.holds Try.pinned (OpenSpec.upto coreSizeSpec)

/-- 'thunklaw5.CoreFree', WHERE WHAT IT READS IS OF BULK AT MOST 1048576: true; the input reads as it did. -/
def coreFreeUptoRow : OpenClaim := { program := "ytddcfnjmppijjaa", sum := "e4a19fe66a8a7615285c0d80866115e374aa482d156ce74eb75a7d6b4700906c", func := "thunk/thunklaw5.CoreFree", spec := "coreFree", inPlace := ["internal/abi.NoEscape", "internal/bytealg.MakeNoZero", "internal/bytealg.IndexByteString", "internal/bytealg.IndexString"], recurses := true, named := ["internal/bytealg.MaxLen"], loops := true, apart := false, narrowed := true }
def CoreFreeUptoSaid : Prop := coreFreeUptoRow.holds Try.pinned (OpenSpec.upto coreFreeSpec)

/-- 'thunklaw5.CoreKnown', WHERE WHAT IT READS IS OF BULK AT MOST 1048576: true; the input reads as it did. -/
def coreKnownUptoRow : OpenClaim := { program := "ytddcfnjmppijjaa", sum := "e4a19fe66a8a7615285c0d80866115e374aa482d156ce74eb75a7d6b4700906c", func := "thunk/thunklaw5.CoreKnown", spec := "coreKnown", inPlace := ["internal/abi.NoEscape", "internal/bytealg.MakeNoZero", "internal/bytealg.IndexByteString", "internal/bytealg.IndexString"], recurses := true, named := ["internal/bytealg.MaxLen"], apart := false, narrowed := true }
def CoreKnownUptoSaid : Prop := coreKnownUptoRow.holds Try.pinned (OpenSpec.upto coreKnownSpec)

/-- 'thunklaw5.CoreAll', WHERE WHAT IT READS IS OF BULK AT MOST 1048576: true; the input reads as it did. -/
def coreAllUptoRow : OpenClaim := { program := "ytddcfnjmppijjaa", sum := "e4a19fe66a8a7615285c0d80866115e374aa482d156ce74eb75a7d6b4700906c", func := "thunk/thunklaw5.CoreAll", spec := "coreAll", inPlace := ["internal/abi.NoEscape", "internal/bytealg.MakeNoZero", "internal/bytealg.IndexByteString", "internal/bytealg.IndexString"], recurses := true, named := ["internal/bytealg.MaxLen"], loops := true, apart := false, narrowed := true }
def CoreAllUptoSaid : Prop := coreAllUptoRow.holds Try.pinned (OpenSpec.upto coreAllSpec)

/-- 'thunklaw5.CoreBinds', WHERE WHAT IT READS IS OF BULK AT MOST 1048576: true; the input reads as it did. -/
def coreBindsUptoRow : OpenClaim := { program := "ytddcfnjmppijjaa", sum := "e4a19fe66a8a7615285c0d80866115e374aa482d156ce74eb75a7d6b4700906c", func := "thunk/thunklaw5.CoreBinds", spec := "coreBinds", inPlace := ["internal/abi.NoEscape", "internal/bytealg.MakeNoZero", "internal/bytealg.IndexByteString", "internal/bytealg.IndexString"], recurses := true, named := ["internal/bytealg.MaxLen"], loops := true, apart := false, narrowed := true }
def CoreBindsUptoSaid : Prop := coreBindsUptoRow.holds Try.pinned (OpenSpec.upto coreBindsSpec)

end Rows
end Go.Proofs.Ytddcfnjmppijjaa
