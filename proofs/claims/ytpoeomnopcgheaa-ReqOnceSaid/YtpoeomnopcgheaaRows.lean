/-
  No cell of these rows narrows 'for every input' (looked for: loops, veiled, ifaces, maps, wideKeys, modest, calm, conditions, laid).
  DERIVED. THE GIVEN ROWS OF THIS SEAT. 15 by the template 'for every input the law returns true; each argument reads behind the call as it read before'; 0 by the template 'total and deterministic' (their statements: YtpoeomnopcgheaaTotals.lean).
  GIVEN WITH THE SEED: the statements are not yours to turn. If you find one false, say at which input.
  Laid BY PROGRAM, IN A SANDBOX (cutbox-rows.mjs): the forced cells as the released guide's own fill.sh prints them over the translation c5b61237155df89c… (all of the seat's roots in one cut). By AI agents, Wed Nov 11 2026. No macro, syntax, notation, axiom, sorry.
-/
import Derived.Test.YtpoeomnopcgheaaChecked
import GoSem.Claim
import GoSem.ClaimJoined
import GoSem.ClaimMapViews
import Derived.JoinedTies
import Derived.KernelRfl
namespace Go.Proofs.Ytpoeomnopcgheaa
/- THE CELL 'sum', in the pinned program and in every row, IS THE sha256 OF THE DUMP (.gsa) THAT YtpoeomnopcgheaaProg.lean LOADS. Nothing in Lean hashes anything: it is a label: what it is worth is what the hold of that sum in a sandbox is worth. -/
noncomputable def Try.pinned : Pinned := { name := "ytpoeomnopcgheaa", sum := "c5b61237155df89c3d4287a8d667ab1fb495fe6e3db68afd534e14df110c3b09", checked := Try.checked }
namespace Rows
def none {H : Type} : Left H := { results := [], args := [] }

/-- 'forerunnerlaw17.ReqPlays': WHATEVER THE INPUT: true; the input reads as it did. -/
def reqPlaysSpec : ChangeSpec := { name := "reqPlays", fn := fun _ => fun
  | [d1, d2] => { results := [.lit (.bool true)], args := [d1, d2] }
  | _ => none }
def reqPlaysRow : OpenClaim := { program := "ytpoeomnopcgheaa", sum := "c5b61237155df89c3d4287a8d667ab1fb495fe6e3db68afd534e14df110c3b09", func := "forerunner/forerunnerlaw17.ReqPlays", spec := "reqPlays", unfollowed := true, recurses := true, plainKeys := false, apart := false }
def ReqPlaysSaid : Prop := reqPlaysRow.holds Try.pinned (OpenSpec.ofChange reqPlaysSpec)

/-- ITS FALSE NEIGHBOUR: 'it returns false'. Refute it at one input. -/
def reqPlaysWrong : ChangeSpec := { name := "reqPlays", fn := fun _ => fun
  | [d1, d2] => { results := [.lit (.bool false)], args := [d1, d2] }
  | _ => none }
def ReqPlaysWrongFalsely : Prop := reqPlaysRow.holds Try.pinned (OpenSpec.ofChange reqPlaysWrong)

/-- 'forerunnerlaw17.ReqOnce': WHATEVER THE INPUT: true; the input reads as it did. -/
def reqOnceSpec : ChangeSpec := { name := "reqOnce", fn := fun _ => fun
  | [d] => { results := [.lit (.bool true)], args := [d] }
  | _ => none }
def reqOnceRow : OpenClaim := { program := "ytpoeomnopcgheaa", sum := "c5b61237155df89c3d4287a8d667ab1fb495fe6e3db68afd534e14df110c3b09", func := "forerunner/forerunnerlaw17.ReqOnce", spec := "reqOnce", unfollowed := true, recurses := true, plainKeys := false, apart := false }
def ReqOnceSaid : Prop := reqOnceRow.holds Try.pinned (OpenSpec.ofChange reqOnceSpec)

/-- ITS FALSE NEIGHBOUR: 'it returns false'. Refute it at one input. -/
def reqOnceWrong : ChangeSpec := { name := "reqOnce", fn := fun _ => fun
  | [d] => { results := [.lit (.bool false)], args := [d] }
  | _ => none }
def ReqOnceWrongFalsely : Prop := reqOnceRow.holds Try.pinned (OpenSpec.ofChange reqOnceWrong)

/-- 'forerunnerlaw17.ReqOthers': WHATEVER THE INPUT: true; the input reads as it did. -/
def reqOthersSpec : ChangeSpec := { name := "reqOthers", fn := fun _ => fun
  | [d1, d2] => { results := [.lit (.bool true)], args := [d1, d2] }
  | _ => none }
def reqOthersRow : OpenClaim := { program := "ytpoeomnopcgheaa", sum := "c5b61237155df89c3d4287a8d667ab1fb495fe6e3db68afd534e14df110c3b09", func := "forerunner/forerunnerlaw17.ReqOthers", spec := "reqOthers", unfollowed := true, recurses := true, plainKeys := false, apart := false }
def ReqOthersSaid : Prop := reqOthersRow.holds Try.pinned (OpenSpec.ofChange reqOthersSpec)

/-- ITS FALSE NEIGHBOUR: 'it returns false'. Refute it at one input. -/
def reqOthersWrong : ChangeSpec := { name := "reqOthers", fn := fun _ => fun
  | [d1, d2] => { results := [.lit (.bool false)], args := [d1, d2] }
  | _ => none }
def ReqOthersWrongFalsely : Prop := reqOthersRow.holds Try.pinned (OpenSpec.ofChange reqOthersWrong)

/-- 'forerunnerlaw17.ReqOrder': WHATEVER THE INPUT: true; the input reads as it did. -/
def reqOrderSpec : ChangeSpec := { name := "reqOrder", fn := fun _ => fun
  | [d1, d2] => { results := [.lit (.bool true)], args := [d1, d2] }
  | _ => none }
def reqOrderRow : OpenClaim := { program := "ytpoeomnopcgheaa", sum := "c5b61237155df89c3d4287a8d667ab1fb495fe6e3db68afd534e14df110c3b09", func := "forerunner/forerunnerlaw17.ReqOrder", spec := "reqOrder", unfollowed := true, recurses := true, plainKeys := false, apart := false }
def ReqOrderSaid : Prop := reqOrderRow.holds Try.pinned (OpenSpec.ofChange reqOrderSpec)

/-- ITS FALSE NEIGHBOUR: 'it returns false'. Refute it at one input. -/
def reqOrderWrong : ChangeSpec := { name := "reqOrder", fn := fun _ => fun
  | [d1, d2] => { results := [.lit (.bool false)], args := [d1, d2] }
  | _ => none }
def ReqOrderWrongFalsely : Prop := reqOrderRow.holds Try.pinned (OpenSpec.ofChange reqOrderWrong)

/-- 'forerunnerlaw17.ReqValues': WHATEVER THE INPUT: true; the input reads as it did. -/
def reqValuesSpec : ChangeSpec := { name := "reqValues", fn := fun _ => fun
  | [d1, d2, d3] => { results := [.lit (.bool true)], args := [d1, d2, d3] }
  | _ => none }
def reqValuesRow : OpenClaim := { program := "ytpoeomnopcgheaa", sum := "c5b61237155df89c3d4287a8d667ab1fb495fe6e3db68afd534e14df110c3b09", func := "forerunner/forerunnerlaw17.ReqValues", spec := "reqValues", unfollowed := true, recurses := true, plainKeys := false, apart := false }
def ReqValuesSaid : Prop := reqValuesRow.holds Try.pinned (OpenSpec.ofChange reqValuesSpec)

/-- ITS FALSE NEIGHBOUR: 'it returns false'. Refute it at one input. -/
def reqValuesWrong : ChangeSpec := { name := "reqValues", fn := fun _ => fun
  | [d1, d2, d3] => { results := [.lit (.bool false)], args := [d1, d2, d3] }
  | _ => none }
def ReqValuesWrongFalsely : Prop := reqValuesRow.holds Try.pinned (OpenSpec.ofChange reqValuesWrong)

/-- 'forerunnerlaw10.StreamPlays': WHATEVER THE INPUT: true; the input reads as it did. -/
def streamPlaysSpec : ChangeSpec := { name := "streamPlays", fn := fun _ => fun
  | [d1, d2] => { results := [.lit (.bool true)], args := [d1, d2] }
  | _ => none }
def streamPlaysRow : OpenClaim := { program := "ytpoeomnopcgheaa", sum := "c5b61237155df89c3d4287a8d667ab1fb495fe6e3db68afd534e14df110c3b09", func := "forerunner/forerunnerlaw10.StreamPlays", spec := "streamPlays", unfollowed := true, recurses := true, plainKeys := false, apart := false }
def StreamPlaysSaid : Prop := streamPlaysRow.holds Try.pinned (OpenSpec.ofChange streamPlaysSpec)

/-- ITS FALSE NEIGHBOUR: 'it returns false'. Refute it at one input. -/
def streamPlaysWrong : ChangeSpec := { name := "streamPlays", fn := fun _ => fun
  | [d1, d2] => { results := [.lit (.bool false)], args := [d1, d2] }
  | _ => none }
def StreamPlaysWrongFalsely : Prop := streamPlaysRow.holds Try.pinned (OpenSpec.ofChange streamPlaysWrong)

/-- 'forerunnerlaw10.StreamNumbers': WHATEVER THE INPUT: true; the input reads as it did. -/
def streamNumbersSpec : ChangeSpec := { name := "streamNumbers", fn := fun _ => fun
  | [d1, d2] => { results := [.lit (.bool true)], args := [d1, d2] }
  | _ => none }
def streamNumbersRow : OpenClaim := { program := "ytpoeomnopcgheaa", sum := "c5b61237155df89c3d4287a8d667ab1fb495fe6e3db68afd534e14df110c3b09", func := "forerunner/forerunnerlaw10.StreamNumbers", spec := "streamNumbers", unfollowed := true, recurses := true, plainKeys := false, apart := false }
def StreamNumbersSaid : Prop := streamNumbersRow.holds Try.pinned (OpenSpec.ofChange streamNumbersSpec)

/-- ITS FALSE NEIGHBOUR: 'it returns false'. Refute it at one input. -/
def streamNumbersWrong : ChangeSpec := { name := "streamNumbers", fn := fun _ => fun
  | [d1, d2] => { results := [.lit (.bool false)], args := [d1, d2] }
  | _ => none }
def StreamNumbersWrongFalsely : Prop := streamNumbersRow.holds Try.pinned (OpenSpec.ofChange streamNumbersWrong)

/-- 'forerunnerlaw10.StreamReads': WHATEVER THE INPUT: true; the input reads as it did. -/
def streamReadsSpec : ChangeSpec := { name := "streamReads", fn := fun _ => fun
  | [d1, d2, d3] => { results := [.lit (.bool true)], args := [d1, d2, d3] }
  | _ => none }
def streamReadsRow : OpenClaim := { program := "ytpoeomnopcgheaa", sum := "c5b61237155df89c3d4287a8d667ab1fb495fe6e3db68afd534e14df110c3b09", func := "forerunner/forerunnerlaw10.StreamReads", spec := "streamReads", unfollowed := true, recurses := true, plainKeys := false, apart := false }
def StreamReadsSaid : Prop := streamReadsRow.holds Try.pinned (OpenSpec.ofChange streamReadsSpec)

/-- ITS FALSE NEIGHBOUR: 'it returns false'. Refute it at one input. -/
def streamReadsWrong : ChangeSpec := { name := "streamReads", fn := fun _ => fun
  | [d1, d2, d3] => { results := [.lit (.bool false)], args := [d1, d2, d3] }
  | _ => none }
def StreamReadsWrongFalsely : Prop := streamReadsRow.holds Try.pinned (OpenSpec.ofChange streamReadsWrong)

/-- 'forerunnerlaw10.StreamOldest': WHATEVER THE INPUT: true; the input reads as it did. -/
def streamOldestSpec : ChangeSpec := { name := "streamOldest", fn := fun _ => fun
  | [d1, d2] => { results := [.lit (.bool true)], args := [d1, d2] }
  | _ => none }
def streamOldestRow : OpenClaim := { program := "ytpoeomnopcgheaa", sum := "c5b61237155df89c3d4287a8d667ab1fb495fe6e3db68afd534e14df110c3b09", func := "forerunner/forerunnerlaw10.StreamOldest", spec := "streamOldest", unfollowed := true, recurses := true, plainKeys := false, apart := false }
def StreamOldestSaid : Prop := streamOldestRow.holds Try.pinned (OpenSpec.ofChange streamOldestSpec)

/-- ITS FALSE NEIGHBOUR: 'it returns false'. Refute it at one input. -/
def streamOldestWrong : ChangeSpec := { name := "streamOldest", fn := fun _ => fun
  | [d1, d2] => { results := [.lit (.bool false)], args := [d1, d2] }
  | _ => none }
def StreamOldestWrongFalsely : Prop := streamOldestRow.holds Try.pinned (OpenSpec.ofChange streamOldestWrong)

/-- 'forerunnerlaw10.StreamRefuses': WHATEVER THE INPUT: true; the input reads as it did. -/
def streamRefusesSpec : ChangeSpec := { name := "streamRefuses", fn := fun _ => fun
  | [d1, d2, d3] => { results := [.lit (.bool true)], args := [d1, d2, d3] }
  | _ => none }
def streamRefusesRow : OpenClaim := { program := "ytpoeomnopcgheaa", sum := "c5b61237155df89c3d4287a8d667ab1fb495fe6e3db68afd534e14df110c3b09", func := "forerunner/forerunnerlaw10.StreamRefuses", spec := "streamRefuses", unfollowed := true, recurses := true, plainKeys := false, apart := false }
def StreamRefusesSaid : Prop := streamRefusesRow.holds Try.pinned (OpenSpec.ofChange streamRefusesSpec)

/-- ITS FALSE NEIGHBOUR: 'it returns false'. Refute it at one input. -/
def streamRefusesWrong : ChangeSpec := { name := "streamRefuses", fn := fun _ => fun
  | [d1, d2, d3] => { results := [.lit (.bool false)], args := [d1, d2, d3] }
  | _ => none }
def StreamRefusesWrongFalsely : Prop := streamRefusesRow.holds Try.pinned (OpenSpec.ofChange streamRefusesWrong)

/-- 'forerunnerlaw14.WaitOthers': WHATEVER THE INPUT: true; the input reads as it did. -/
def waitOthersSpec : ChangeSpec := { name := "waitOthers", fn := fun _ => fun
  | [d1, d2, d3] => { results := [.lit (.bool true)], args := [d1, d2, d3] }
  | _ => none }
def waitOthersRow : OpenClaim := { program := "ytpoeomnopcgheaa", sum := "c5b61237155df89c3d4287a8d667ab1fb495fe6e3db68afd534e14df110c3b09", func := "forerunner/forerunnerlaw14.WaitOthers", spec := "waitOthers", unfollowed := true, recurses := true, plainKeys := false, apart := false }
def WaitOthersSaid : Prop := waitOthersRow.holds Try.pinned (OpenSpec.ofChange waitOthersSpec)

/-- ITS FALSE NEIGHBOUR: 'it returns false'. Refute it at one input. -/
def waitOthersWrong : ChangeSpec := { name := "waitOthers", fn := fun _ => fun
  | [d1, d2, d3] => { results := [.lit (.bool false)], args := [d1, d2, d3] }
  | _ => none }
def WaitOthersWrongFalsely : Prop := waitOthersRow.holds Try.pinned (OpenSpec.ofChange waitOthersWrong)

/-- 'forerunnerlaw14.WaitPlays': WHATEVER THE INPUT: true; the input reads as it did. -/
def waitPlaysSpec : ChangeSpec := { name := "waitPlays", fn := fun _ => fun
  | [d1, d2] => { results := [.lit (.bool true)], args := [d1, d2] }
  | _ => none }
def waitPlaysRow : OpenClaim := { program := "ytpoeomnopcgheaa", sum := "c5b61237155df89c3d4287a8d667ab1fb495fe6e3db68afd534e14df110c3b09", func := "forerunner/forerunnerlaw14.WaitPlays", spec := "waitPlays", unfollowed := true, recurses := true, plainKeys := false, apart := false }
def WaitPlaysSaid : Prop := waitPlaysRow.holds Try.pinned (OpenSpec.ofChange waitPlaysSpec)

/-- ITS FALSE NEIGHBOUR: 'it returns false'. Refute it at one input. -/
def waitPlaysWrong : ChangeSpec := { name := "waitPlays", fn := fun _ => fun
  | [d1, d2] => { results := [.lit (.bool false)], args := [d1, d2] }
  | _ => none }
def WaitPlaysWrongFalsely : Prop := waitPlaysRow.holds Try.pinned (OpenSpec.ofChange waitPlaysWrong)

/-- 'forerunnerlaw14.WaitTakes': WHATEVER THE INPUT: true; the input reads as it did. -/
def waitTakesSpec : ChangeSpec := { name := "waitTakes", fn := fun _ => fun
  | [d1, d2, d3] => { results := [.lit (.bool true)], args := [d1, d2, d3] }
  | _ => none }
def waitTakesRow : OpenClaim := { program := "ytpoeomnopcgheaa", sum := "c5b61237155df89c3d4287a8d667ab1fb495fe6e3db68afd534e14df110c3b09", func := "forerunner/forerunnerlaw14.WaitTakes", spec := "waitTakes", unfollowed := true, recurses := true, plainKeys := false, apart := false }
def WaitTakesSaid : Prop := waitTakesRow.holds Try.pinned (OpenSpec.ofChange waitTakesSpec)

/-- ITS FALSE NEIGHBOUR: 'it returns false'. Refute it at one input. -/
def waitTakesWrong : ChangeSpec := { name := "waitTakes", fn := fun _ => fun
  | [d1, d2, d3] => { results := [.lit (.bool false)], args := [d1, d2, d3] }
  | _ => none }
def WaitTakesWrongFalsely : Prop := waitTakesRow.holds Try.pinned (OpenSpec.ofChange waitTakesWrong)

/-- 'forerunnerlaw14.WaitRoom': WHATEVER THE INPUT: true; the input reads as it did. -/
def waitRoomSpec : ChangeSpec := { name := "waitRoom", fn := fun _ => fun
  | [d1, d2, d3] => { results := [.lit (.bool true)], args := [d1, d2, d3] }
  | _ => none }
def waitRoomRow : OpenClaim := { program := "ytpoeomnopcgheaa", sum := "c5b61237155df89c3d4287a8d667ab1fb495fe6e3db68afd534e14df110c3b09", func := "forerunner/forerunnerlaw14.WaitRoom", spec := "waitRoom", unfollowed := true, recurses := true, plainKeys := false, apart := false }
def WaitRoomSaid : Prop := waitRoomRow.holds Try.pinned (OpenSpec.ofChange waitRoomSpec)

/-- ITS FALSE NEIGHBOUR: 'it returns false'. Refute it at one input. -/
def waitRoomWrong : ChangeSpec := { name := "waitRoom", fn := fun _ => fun
  | [d1, d2, d3] => { results := [.lit (.bool false)], args := [d1, d2, d3] }
  | _ => none }
def WaitRoomWrongFalsely : Prop := waitRoomRow.holds Try.pinned (OpenSpec.ofChange waitRoomWrong)

/-- 'forerunnerlaw14.WaitOrder': WHATEVER THE INPUT: true; the input reads as it did. -/
def waitOrderSpec : ChangeSpec := { name := "waitOrder", fn := fun _ => fun
  | [d] => { results := [.lit (.bool true)], args := [d] }
  | _ => none }
def waitOrderRow : OpenClaim := { program := "ytpoeomnopcgheaa", sum := "c5b61237155df89c3d4287a8d667ab1fb495fe6e3db68afd534e14df110c3b09", func := "forerunner/forerunnerlaw14.WaitOrder", spec := "waitOrder", unfollowed := true, recurses := true, plainKeys := false, apart := false }
def WaitOrderSaid : Prop := waitOrderRow.holds Try.pinned (OpenSpec.ofChange waitOrderSpec)

/-- ITS FALSE NEIGHBOUR: 'it returns false'. Refute it at one input. -/
def waitOrderWrong : ChangeSpec := { name := "waitOrder", fn := fun _ => fun
  | [d] => { results := [.lit (.bool false)], args := [d] }
  | _ => none }
def WaitOrderWrongFalsely : Prop := waitOrderRow.holds Try.pinned (OpenSpec.ofChange waitOrderWrong)

/- THE SECOND FORM. 'bulk': how many values and letters a reading holds, each counted each time it is reached (what is shared counts as often as it is met; a slice's spare places count too). A statement '..UptoSaid' is the law's where the arguments, and the package variables that the reading takes, are together of bulk at most 1048576: NARROWER than '..Said'. Prove '..Said' where nothing that the law and all that it calls make is longer than what came in: it says more and counts as full. Else prove '..UptoSaid'. A law counts once. -/
mutual
def uptoBulk {H : Type} : DataW H → Nat
  | .lit (.string bytes) => bytes.length + 1
  | .lit _ => 1
  | .nil => 1
  | .ptr d => uptoBulk d + 1
  | .slice elems spare => uptoBulkAll elems + uptoBulkAll spare + 1
  | .agg parts => uptoBulkAll parts + 1
  | .iface _ d => uptoBulk d + 1
  | .map entries => uptoBulkEntries entries + 1
  | .held _ => 1
def uptoBulkAll {H : Type} : List (DataW H) → Nat
  | [] => 0
  | d :: r => uptoBulk d + uptoBulkAll r
def uptoBulkEntries {H : Type} : List (Lit × DataW H) → Nat
  | [] => 0
  | x :: r => uptoBulkEntry x + uptoBulkEntries r
def uptoBulkEntry {H : Type} : Lit × DataW H → Nat
  | (.string bytes, d) => bytes.length + uptoBulk d + 1
  | (_, d) => uptoBulk d + 1
 end
def uptoSmall : (H : Type) → List (DataW H) → Bool := fun _ ds => decide (uptoBulkAll ds ≤ 1048576)
def OpenSpec.upto (s : _root_.Go.ChangeSpec) : _root_.Go.OpenSpec := { _root_.Go.OpenSpec.ofChange s with cond := some uptoSmall }

/-- 'forerunnerlaw17.ReqPlays', WHERE WHAT IT READS IS OF BULK AT MOST 1048576: true; the input reads as it did. -/
def reqPlaysUptoRow : OpenClaim := { program := "ytpoeomnopcgheaa", sum := "c5b61237155df89c3d4287a8d667ab1fb495fe6e3db68afd534e14df110c3b09", func := "forerunner/forerunnerlaw17.ReqPlays", spec := "reqPlays", unfollowed := true, recurses := true, plainKeys := false, apart := false, narrowed := true }
def ReqPlaysUptoSaid : Prop := reqPlaysUptoRow.holds Try.pinned (OpenSpec.upto reqPlaysSpec)

/-- 'forerunnerlaw17.ReqOnce', WHERE WHAT IT READS IS OF BULK AT MOST 1048576: true; the input reads as it did. -/
def reqOnceUptoRow : OpenClaim := { program := "ytpoeomnopcgheaa", sum := "c5b61237155df89c3d4287a8d667ab1fb495fe6e3db68afd534e14df110c3b09", func := "forerunner/forerunnerlaw17.ReqOnce", spec := "reqOnce", unfollowed := true, recurses := true, plainKeys := false, apart := false, narrowed := true }
def ReqOnceUptoSaid : Prop := reqOnceUptoRow.holds Try.pinned (OpenSpec.upto reqOnceSpec)

/-- 'forerunnerlaw17.ReqOthers', WHERE WHAT IT READS IS OF BULK AT MOST 1048576: true; the input reads as it did. -/
def reqOthersUptoRow : OpenClaim := { program := "ytpoeomnopcgheaa", sum := "c5b61237155df89c3d4287a8d667ab1fb495fe6e3db68afd534e14df110c3b09", func := "forerunner/forerunnerlaw17.ReqOthers", spec := "reqOthers", unfollowed := true, recurses := true, plainKeys := false, apart := false, narrowed := true }
def ReqOthersUptoSaid : Prop := reqOthersUptoRow.holds Try.pinned (OpenSpec.upto reqOthersSpec)

/-- 'forerunnerlaw17.ReqOrder', WHERE WHAT IT READS IS OF BULK AT MOST 1048576: true; the input reads as it did. -/
def reqOrderUptoRow : OpenClaim := { program := "ytpoeomnopcgheaa", sum := "c5b61237155df89c3d4287a8d667ab1fb495fe6e3db68afd534e14df110c3b09", func := "forerunner/forerunnerlaw17.ReqOrder", spec := "reqOrder", unfollowed := true, recurses := true, plainKeys := false, apart := false, narrowed := true }
def ReqOrderUptoSaid : Prop := reqOrderUptoRow.holds Try.pinned (OpenSpec.upto reqOrderSpec)

/-- 'forerunnerlaw17.ReqValues', WHERE WHAT IT READS IS OF BULK AT MOST 1048576: true; the input reads as it did. -/
def reqValuesUptoRow : OpenClaim := { program := "ytpoeomnopcgheaa", sum := "c5b61237155df89c3d4287a8d667ab1fb495fe6e3db68afd534e14df110c3b09", func := "forerunner/forerunnerlaw17.ReqValues", spec := "reqValues", unfollowed := true, recurses := true, plainKeys := false, apart := false, narrowed := true }
def ReqValuesUptoSaid : Prop := reqValuesUptoRow.holds Try.pinned (OpenSpec.upto reqValuesSpec)

/-- 'forerunnerlaw10.StreamPlays', WHERE WHAT IT READS IS OF BULK AT MOST 1048576: true; the input reads as it did. -/
def streamPlaysUptoRow : OpenClaim := { program := "ytpoeomnopcgheaa", sum := "c5b61237155df89c3d4287a8d667ab1fb495fe6e3db68afd534e14df110c3b09", func := "forerunner/forerunnerlaw10.StreamPlays", spec := "streamPlays", unfollowed := true, recurses := true, plainKeys := false, apart := false, narrowed := true }
def StreamPlaysUptoSaid : Prop := streamPlaysUptoRow.holds Try.pinned (OpenSpec.upto streamPlaysSpec)

/-- 'forerunnerlaw10.StreamNumbers', WHERE WHAT IT READS IS OF BULK AT MOST 1048576: true; the input reads as it did. -/
def streamNumbersUptoRow : OpenClaim := { program := "ytpoeomnopcgheaa", sum := "c5b61237155df89c3d4287a8d667ab1fb495fe6e3db68afd534e14df110c3b09", func := "forerunner/forerunnerlaw10.StreamNumbers", spec := "streamNumbers", unfollowed := true, recurses := true, plainKeys := false, apart := false, narrowed := true }
def StreamNumbersUptoSaid : Prop := streamNumbersUptoRow.holds Try.pinned (OpenSpec.upto streamNumbersSpec)

/-- 'forerunnerlaw10.StreamReads', WHERE WHAT IT READS IS OF BULK AT MOST 1048576: true; the input reads as it did. -/
def streamReadsUptoRow : OpenClaim := { program := "ytpoeomnopcgheaa", sum := "c5b61237155df89c3d4287a8d667ab1fb495fe6e3db68afd534e14df110c3b09", func := "forerunner/forerunnerlaw10.StreamReads", spec := "streamReads", unfollowed := true, recurses := true, plainKeys := false, apart := false, narrowed := true }
def StreamReadsUptoSaid : Prop := streamReadsUptoRow.holds Try.pinned (OpenSpec.upto streamReadsSpec)

/-- 'forerunnerlaw10.StreamOldest', WHERE WHAT IT READS IS OF BULK AT MOST 1048576: true; the input reads as it did. -/
def streamOldestUptoRow : OpenClaim := { program := "ytpoeomnopcgheaa", sum := "c5b61237155df89c3d4287a8d667ab1fb495fe6e3db68afd534e14df110c3b09", func := "forerunner/forerunnerlaw10.StreamOldest", spec := "streamOldest", unfollowed := true, recurses := true, plainKeys := false, apart := false, narrowed := true }
def StreamOldestUptoSaid : Prop := streamOldestUptoRow.holds Try.pinned (OpenSpec.upto streamOldestSpec)

/-- 'forerunnerlaw10.StreamRefuses', WHERE WHAT IT READS IS OF BULK AT MOST 1048576: true; the input reads as it did. -/
def streamRefusesUptoRow : OpenClaim := { program := "ytpoeomnopcgheaa", sum := "c5b61237155df89c3d4287a8d667ab1fb495fe6e3db68afd534e14df110c3b09", func := "forerunner/forerunnerlaw10.StreamRefuses", spec := "streamRefuses", unfollowed := true, recurses := true, plainKeys := false, apart := false, narrowed := true }
def StreamRefusesUptoSaid : Prop := streamRefusesUptoRow.holds Try.pinned (OpenSpec.upto streamRefusesSpec)

/-- 'forerunnerlaw14.WaitOthers', WHERE WHAT IT READS IS OF BULK AT MOST 1048576: true; the input reads as it did. -/
def waitOthersUptoRow : OpenClaim := { program := "ytpoeomnopcgheaa", sum := "c5b61237155df89c3d4287a8d667ab1fb495fe6e3db68afd534e14df110c3b09", func := "forerunner/forerunnerlaw14.WaitOthers", spec := "waitOthers", unfollowed := true, recurses := true, plainKeys := false, apart := false, narrowed := true }
def WaitOthersUptoSaid : Prop := waitOthersUptoRow.holds Try.pinned (OpenSpec.upto waitOthersSpec)

/-- 'forerunnerlaw14.WaitPlays', WHERE WHAT IT READS IS OF BULK AT MOST 1048576: true; the input reads as it did. -/
def waitPlaysUptoRow : OpenClaim := { program := "ytpoeomnopcgheaa", sum := "c5b61237155df89c3d4287a8d667ab1fb495fe6e3db68afd534e14df110c3b09", func := "forerunner/forerunnerlaw14.WaitPlays", spec := "waitPlays", unfollowed := true, recurses := true, plainKeys := false, apart := false, narrowed := true }
def WaitPlaysUptoSaid : Prop := waitPlaysUptoRow.holds Try.pinned (OpenSpec.upto waitPlaysSpec)

/-- 'forerunnerlaw14.WaitTakes', WHERE WHAT IT READS IS OF BULK AT MOST 1048576: true; the input reads as it did. -/
def waitTakesUptoRow : OpenClaim := { program := "ytpoeomnopcgheaa", sum := "c5b61237155df89c3d4287a8d667ab1fb495fe6e3db68afd534e14df110c3b09", func := "forerunner/forerunnerlaw14.WaitTakes", spec := "waitTakes", unfollowed := true, recurses := true, plainKeys := false, apart := false, narrowed := true }
def WaitTakesUptoSaid : Prop := waitTakesUptoRow.holds Try.pinned (OpenSpec.upto waitTakesSpec)

/-- 'forerunnerlaw14.WaitRoom', WHERE WHAT IT READS IS OF BULK AT MOST 1048576: true; the input reads as it did. -/
def waitRoomUptoRow : OpenClaim := { program := "ytpoeomnopcgheaa", sum := "c5b61237155df89c3d4287a8d667ab1fb495fe6e3db68afd534e14df110c3b09", func := "forerunner/forerunnerlaw14.WaitRoom", spec := "waitRoom", unfollowed := true, recurses := true, plainKeys := false, apart := false, narrowed := true }
def WaitRoomUptoSaid : Prop := waitRoomUptoRow.holds Try.pinned (OpenSpec.upto waitRoomSpec)

/-- 'forerunnerlaw14.WaitOrder', WHERE WHAT IT READS IS OF BULK AT MOST 1048576: true; the input reads as it did. -/
def waitOrderUptoRow : OpenClaim := { program := "ytpoeomnopcgheaa", sum := "c5b61237155df89c3d4287a8d667ab1fb495fe6e3db68afd534e14df110c3b09", func := "forerunner/forerunnerlaw14.WaitOrder", spec := "waitOrder", unfollowed := true, recurses := true, plainKeys := false, apart := false, narrowed := true }
def WaitOrderUptoSaid : Prop := waitOrderUptoRow.holds Try.pinned (OpenSpec.upto waitOrderSpec)

end Rows
end Go.Proofs.Ytpoeomnopcgheaa
