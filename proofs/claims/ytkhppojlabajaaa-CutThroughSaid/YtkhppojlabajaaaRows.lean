/-
  No cell of these rows narrows 'for every input' (looked for: loops, veiled, ifaces, maps, wideKeys, modest, calm, conditions, laid).
  DERIVED. THE GIVEN ROWS OF THIS SEAT. 14 by the template 'for every input the law returns true; each argument reads behind the call as it read before'; 0 by the template 'total and deterministic' (their statements: YtkhppojlabajaaaTotals.lean).
  GIVEN WITH THE SEED: the statements are not yours to turn. If you find one false, say at which input.
  Laid BY PROGRAM, IN A SANDBOX (cutbox-rows.mjs): the forced cells as the released guide's own fill.sh prints them over the translation 34906a44206c1f8e… (all of the seat's roots in one cut). By AI agents, Wed Nov 11 2026. No macro, syntax, notation, axiom, sorry.
-/
import Derived.Test.YtkhppojlabajaaaChecked
import GoSem.Claim
import GoSem.ClaimJoined
import GoSem.ClaimMapViews
import Derived.JoinedTies
import Derived.KernelRfl
namespace Go.Proofs.Ytkhppojlabajaaa
/- THE CELL 'sum', in the pinned program and in every row, IS THE sha256 OF THE DUMP (.gsa) THAT YtkhppojlabajaaaProg.lean LOADS. Nothing in Lean hashes anything: it is a label: what it is worth is what the hold of that sum in a sandbox is worth. -/
noncomputable def Try.pinned : Pinned := { name := "ytkhppojlabajaaa", sum := "34906a44206c1f8eb8de5118114a358c25684137036fb458b93122b7d35d9bf3", checked := Try.checked }
namespace Rows
def none {H : Type} : Left H := { results := [], args := [] }

/-- 'pendentivelaw13.CutFrames': WHATEVER THE INPUT: true; the input reads as it did. -/
def cutFramesSpec : ChangeSpec := { name := "cutFrames", fn := fun _ => fun
  | [d1, d2, d3] => { results := [.lit (.bool true)], args := [d1, d2, d3] }
  | _ => none }
def cutFramesRow : OpenClaim := { program := "ytkhppojlabajaaa", sum := "34906a44206c1f8eb8de5118114a358c25684137036fb458b93122b7d35d9bf3", func := "pendentive/pendentivelaw13.CutFrames", spec := "cutFrames", inPlace := ["internal/abi.NoEscape"], unfollowed := true, recurses := true, apart := false }
def CutFramesSaid : Prop := cutFramesRow.holds Try.pinned (OpenSpec.ofChange cutFramesSpec)

/-- ITS FALSE NEIGHBOUR: 'it returns false'. Refute it at one input. -/
def cutFramesWrong : ChangeSpec := { name := "cutFrames", fn := fun _ => fun
  | [d1, d2, d3] => { results := [.lit (.bool false)], args := [d1, d2, d3] }
  | _ => none }
def CutFramesWrongFalsely : Prop := cutFramesRow.holds Try.pinned (OpenSpec.ofChange cutFramesWrong)

/-- 'pendentivelaw13.CutJoins': WHATEVER THE INPUT: true; the input reads as it did. -/
def cutJoinsSpec : ChangeSpec := { name := "cutJoins", fn := fun _ => fun
  | [d1, d2] => { results := [.lit (.bool true)], args := [d1, d2] }
  | _ => none }
def cutJoinsRow : OpenClaim := { program := "ytkhppojlabajaaa", sum := "34906a44206c1f8eb8de5118114a358c25684137036fb458b93122b7d35d9bf3", func := "pendentive/pendentivelaw13.CutJoins", spec := "cutJoins", inPlace := ["internal/abi.NoEscape"], unfollowed := true, recurses := true, apart := false }
def CutJoinsSaid : Prop := cutJoinsRow.holds Try.pinned (OpenSpec.ofChange cutJoinsSpec)

/-- ITS FALSE NEIGHBOUR: 'it returns false'. Refute it at one input. -/
def cutJoinsWrong : ChangeSpec := { name := "cutJoins", fn := fun _ => fun
  | [d1, d2] => { results := [.lit (.bool false)], args := [d1, d2] }
  | _ => none }
def CutJoinsWrongFalsely : Prop := cutJoinsRow.holds Try.pinned (OpenSpec.ofChange cutJoinsWrong)

/-- 'pendentivelaw13.CutCounts': WHATEVER THE INPUT: true; the input reads as it did. -/
def cutCountsSpec : ChangeSpec := { name := "cutCounts", fn := fun _ => fun
  | [d1, d2] => { results := [.lit (.bool true)], args := [d1, d2] }
  | _ => none }
def cutCountsRow : OpenClaim := { program := "ytkhppojlabajaaa", sum := "34906a44206c1f8eb8de5118114a358c25684137036fb458b93122b7d35d9bf3", func := "pendentive/pendentivelaw13.CutCounts", spec := "cutCounts", inPlace := ["internal/abi.NoEscape"], unfollowed := true, recurses := true, apart := false }
def CutCountsSaid : Prop := cutCountsRow.holds Try.pinned (OpenSpec.ofChange cutCountsSpec)

/-- ITS FALSE NEIGHBOUR: 'it returns false'. Refute it at one input. -/
def cutCountsWrong : ChangeSpec := { name := "cutCounts", fn := fun _ => fun
  | [d1, d2] => { results := [.lit (.bool false)], args := [d1, d2] }
  | _ => none }
def CutCountsWrongFalsely : Prop := cutCountsRow.holds Try.pinned (OpenSpec.ofChange cutCountsWrong)

/-- 'pendentivelaw13.CutMasks': WHATEVER THE INPUT: true; the input reads as it did. -/
def cutMasksSpec : ChangeSpec := { name := "cutMasks", fn := fun _ => fun
  | [d1, d2] => { results := [.lit (.bool true)], args := [d1, d2] }
  | _ => none }
def cutMasksRow : OpenClaim := { program := "ytkhppojlabajaaa", sum := "34906a44206c1f8eb8de5118114a358c25684137036fb458b93122b7d35d9bf3", func := "pendentive/pendentivelaw13.CutMasks", spec := "cutMasks", inPlace := ["internal/abi.NoEscape"], unfollowed := true, recurses := true, apart := false }
def CutMasksSaid : Prop := cutMasksRow.holds Try.pinned (OpenSpec.ofChange cutMasksSpec)

/-- ITS FALSE NEIGHBOUR: 'it returns false'. Refute it at one input. -/
def cutMasksWrong : ChangeSpec := { name := "cutMasks", fn := fun _ => fun
  | [d1, d2] => { results := [.lit (.bool false)], args := [d1, d2] }
  | _ => none }
def CutMasksWrongFalsely : Prop := cutMasksRow.holds Try.pinned (OpenSpec.ofChange cutMasksWrong)

/-- 'pendentivelaw13.CutSizes': WHATEVER THE INPUT: true; the input reads as it did. -/
def cutSizesSpec : ChangeSpec := { name := "cutSizes", fn := fun _ => fun
  | [d1, d2] => { results := [.lit (.bool true)], args := [d1, d2] }
  | _ => none }
def cutSizesRow : OpenClaim := { program := "ytkhppojlabajaaa", sum := "34906a44206c1f8eb8de5118114a358c25684137036fb458b93122b7d35d9bf3", func := "pendentive/pendentivelaw13.CutSizes", spec := "cutSizes", inPlace := ["internal/abi.NoEscape"], unfollowed := true, recurses := true, apart := false }
def CutSizesSaid : Prop := cutSizesRow.holds Try.pinned (OpenSpec.ofChange cutSizesSpec)

/-- ITS FALSE NEIGHBOUR: 'it returns false'. Refute it at one input. -/
def cutSizesWrong : ChangeSpec := { name := "cutSizes", fn := fun _ => fun
  | [d1, d2] => { results := [.lit (.bool false)], args := [d1, d2] }
  | _ => none }
def CutSizesWrongFalsely : Prop := cutSizesRow.holds Try.pinned (OpenSpec.ofChange cutSizesWrong)

/-- 'pendentivelaw13.CutBytes': WHATEVER THE INPUT: true; the input reads as it did. -/
def cutBytesSpec : ChangeSpec := { name := "cutBytes", fn := fun _ => fun
  | [d1, d2] => { results := [.lit (.bool true)], args := [d1, d2] }
  | _ => none }
def cutBytesRow : OpenClaim := { program := "ytkhppojlabajaaa", sum := "34906a44206c1f8eb8de5118114a358c25684137036fb458b93122b7d35d9bf3", func := "pendentive/pendentivelaw13.CutBytes", spec := "cutBytes", inPlace := ["internal/abi.NoEscape"], unfollowed := true, recurses := true, apart := false }
def CutBytesSaid : Prop := cutBytesRow.holds Try.pinned (OpenSpec.ofChange cutBytesSpec)

/-- ITS FALSE NEIGHBOUR: 'it returns false'. Refute it at one input. -/
def cutBytesWrong : ChangeSpec := { name := "cutBytes", fn := fun _ => fun
  | [d1, d2] => { results := [.lit (.bool false)], args := [d1, d2] }
  | _ => none }
def CutBytesWrongFalsely : Prop := cutBytesRow.holds Try.pinned (OpenSpec.ofChange cutBytesWrong)

/-- 'pendentivelaw13.CutOnce': WHATEVER THE INPUT: true; the input reads as it did. -/
def cutOnceSpec : ChangeSpec := { name := "cutOnce", fn := fun _ => fun
  | [d1, d2, d3] => { results := [.lit (.bool true)], args := [d1, d2, d3] }
  | _ => none }
def cutOnceRow : OpenClaim := { program := "ytkhppojlabajaaa", sum := "34906a44206c1f8eb8de5118114a358c25684137036fb458b93122b7d35d9bf3", func := "pendentive/pendentivelaw13.CutOnce", spec := "cutOnce", inPlace := ["internal/abi.NoEscape"], unfollowed := true, recurses := true, apart := false }
def CutOnceSaid : Prop := cutOnceRow.holds Try.pinned (OpenSpec.ofChange cutOnceSpec)

/-- ITS FALSE NEIGHBOUR: 'it returns false'. Refute it at one input. -/
def cutOnceWrong : ChangeSpec := { name := "cutOnce", fn := fun _ => fun
  | [d1, d2, d3] => { results := [.lit (.bool false)], args := [d1, d2, d3] }
  | _ => none }
def CutOnceWrongFalsely : Prop := cutOnceRow.holds Try.pinned (OpenSpec.ofChange cutOnceWrong)

/-- 'pendentivelaw12.MsgCuts': WHATEVER THE INPUT: true; the input reads as it did. -/
def msgCutsSpec : ChangeSpec := { name := "msgCuts", fn := fun _ => fun
  | [d1, d2, d3, d4] => { results := [.lit (.bool true)], args := [d1, d2, d3, d4] }
  | _ => none }
def msgCutsRow : OpenClaim := { program := "ytkhppojlabajaaa", sum := "34906a44206c1f8eb8de5118114a358c25684137036fb458b93122b7d35d9bf3", func := "pendentive/pendentivelaw12.MsgCuts", spec := "msgCuts", unfollowed := true, recurses := true, apart := false }
def MsgCutsSaid : Prop := msgCutsRow.holds Try.pinned (OpenSpec.ofChange msgCutsSpec)

/-- ITS FALSE NEIGHBOUR: 'it returns false'. Refute it at one input. -/
def msgCutsWrong : ChangeSpec := { name := "msgCuts", fn := fun _ => fun
  | [d1, d2, d3, d4] => { results := [.lit (.bool false)], args := [d1, d2, d3, d4] }
  | _ => none }
def MsgCutsWrongFalsely : Prop := msgCutsRow.holds Try.pinned (OpenSpec.ofChange msgCutsWrong)

/-- 'pendentivelaw12.MsgStops': WHATEVER THE INPUT: true; the input reads as it did. -/
def msgStopsSpec : ChangeSpec := { name := "msgStops", fn := fun _ => fun
  | [d1, d2] => { results := [.lit (.bool true)], args := [d1, d2] }
  | _ => none }
def msgStopsRow : OpenClaim := { program := "ytkhppojlabajaaa", sum := "34906a44206c1f8eb8de5118114a358c25684137036fb458b93122b7d35d9bf3", func := "pendentive/pendentivelaw12.MsgStops", spec := "msgStops", unfollowed := true, recurses := true, apart := false }
def MsgStopsSaid : Prop := msgStopsRow.holds Try.pinned (OpenSpec.ofChange msgStopsSpec)

/-- ITS FALSE NEIGHBOUR: 'it returns false'. Refute it at one input. -/
def msgStopsWrong : ChangeSpec := { name := "msgStops", fn := fun _ => fun
  | [d1, d2] => { results := [.lit (.bool false)], args := [d1, d2] }
  | _ => none }
def MsgStopsWrongFalsely : Prop := msgStopsRow.holds Try.pinned (OpenSpec.ofChange msgStopsWrong)

/-- 'pendentivelaw12.MsgWhole': WHATEVER THE INPUT: true; the input reads as it did. -/
def msgWholeSpec : ChangeSpec := { name := "msgWhole", fn := fun _ => fun
  | [d1, d2] => { results := [.lit (.bool true)], args := [d1, d2] }
  | _ => none }
def msgWholeRow : OpenClaim := { program := "ytkhppojlabajaaa", sum := "34906a44206c1f8eb8de5118114a358c25684137036fb458b93122b7d35d9bf3", func := "pendentive/pendentivelaw12.MsgWhole", spec := "msgWhole", unfollowed := true, recurses := true, apart := false }
def MsgWholeSaid : Prop := msgWholeRow.holds Try.pinned (OpenSpec.ofChange msgWholeSpec)

/-- ITS FALSE NEIGHBOUR: 'it returns false'. Refute it at one input. -/
def msgWholeWrong : ChangeSpec := { name := "msgWhole", fn := fun _ => fun
  | [d1, d2] => { results := [.lit (.bool false)], args := [d1, d2] }
  | _ => none }
def MsgWholeWrongFalsely : Prop := msgWholeRow.holds Try.pinned (OpenSpec.ofChange msgWholeWrong)

/-- 'pendentivelaw12.MsgBound': WHATEVER THE INPUT: true; the input reads as it did. -/
def msgBoundSpec : ChangeSpec := { name := "msgBound", fn := fun _ => fun
  | [d1, d2, d3] => { results := [.lit (.bool true)], args := [d1, d2, d3] }
  | _ => none }
def msgBoundRow : OpenClaim := { program := "ytkhppojlabajaaa", sum := "34906a44206c1f8eb8de5118114a358c25684137036fb458b93122b7d35d9bf3", func := "pendentive/pendentivelaw12.MsgBound", spec := "msgBound", unfollowed := true, recurses := true, apart := false }
def MsgBoundSaid : Prop := msgBoundRow.holds Try.pinned (OpenSpec.ofChange msgBoundSpec)

/-- ITS FALSE NEIGHBOUR: 'it returns false'. Refute it at one input. -/
def msgBoundWrong : ChangeSpec := { name := "msgBound", fn := fun _ => fun
  | [d1, d2, d3] => { results := [.lit (.bool false)], args := [d1, d2, d3] }
  | _ => none }
def MsgBoundWrongFalsely : Prop := msgBoundRow.holds Try.pinned (OpenSpec.ofChange msgBoundWrong)

/-- 'pendentivelaw12.MsgMasks': WHATEVER THE INPUT: true; the input reads as it did. -/
def msgMasksSpec : ChangeSpec := { name := "msgMasks", fn := fun _ => fun
  | [d1, d2] => { results := [.lit (.bool true)], args := [d1, d2] }
  | _ => none }
def msgMasksRow : OpenClaim := { program := "ytkhppojlabajaaa", sum := "34906a44206c1f8eb8de5118114a358c25684137036fb458b93122b7d35d9bf3", func := "pendentive/pendentivelaw12.MsgMasks", spec := "msgMasks", unfollowed := true, recurses := true, apart := false }
def MsgMasksSaid : Prop := msgMasksRow.holds Try.pinned (OpenSpec.ofChange msgMasksSpec)

/-- ITS FALSE NEIGHBOUR: 'it returns false'. Refute it at one input. -/
def msgMasksWrong : ChangeSpec := { name := "msgMasks", fn := fun _ => fun
  | [d1, d2] => { results := [.lit (.bool false)], args := [d1, d2] }
  | _ => none }
def MsgMasksWrongFalsely : Prop := msgMasksRow.holds Try.pinned (OpenSpec.ofChange msgMasksWrong)

/-- 'pendentivelaw12.MsgOrder': WHATEVER THE INPUT: true; the input reads as it did. -/
def msgOrderSpec : ChangeSpec := { name := "msgOrder", fn := fun _ => fun
  | [d1, d2, d3] => { results := [.lit (.bool true)], args := [d1, d2, d3] }
  | _ => none }
def msgOrderRow : OpenClaim := { program := "ytkhppojlabajaaa", sum := "34906a44206c1f8eb8de5118114a358c25684137036fb458b93122b7d35d9bf3", func := "pendentive/pendentivelaw12.MsgOrder", spec := "msgOrder", unfollowed := true, recurses := true, apart := false }
def MsgOrderSaid : Prop := msgOrderRow.holds Try.pinned (OpenSpec.ofChange msgOrderSpec)

/-- ITS FALSE NEIGHBOUR: 'it returns false'. Refute it at one input. -/
def msgOrderWrong : ChangeSpec := { name := "msgOrder", fn := fun _ => fun
  | [d1, d2, d3] => { results := [.lit (.bool false)], args := [d1, d2, d3] }
  | _ => none }
def MsgOrderWrongFalsely : Prop := msgOrderRow.holds Try.pinned (OpenSpec.ofChange msgOrderWrong)

/-- 'pendentivelaw13.CutThrough': WHATEVER THE INPUT: true; the input reads as it did. -/
def cutThroughSpec : ChangeSpec := { name := "cutThrough", fn := fun _ => fun
  | [d1, d2, d3, d4, d5] => { results := [.lit (.bool true)], args := [d1, d2, d3, d4, d5] }
  | _ => none }
def cutThroughRow : OpenClaim := { program := "ytkhppojlabajaaa", sum := "34906a44206c1f8eb8de5118114a358c25684137036fb458b93122b7d35d9bf3", func := "pendentive/pendentivelaw13.CutThrough", spec := "cutThrough", inPlace := ["internal/abi.NoEscape"], unfollowed := true, recurses := true, apart := false }
def CutThroughSaid : Prop := cutThroughRow.holds Try.pinned (OpenSpec.ofChange cutThroughSpec)

/-- ITS FALSE NEIGHBOUR: 'it returns false'. Refute it at one input. -/
def cutThroughWrong : ChangeSpec := { name := "cutThrough", fn := fun _ => fun
  | [d1, d2, d3, d4, d5] => { results := [.lit (.bool false)], args := [d1, d2, d3, d4, d5] }
  | _ => none }
def CutThroughWrongFalsely : Prop := cutThroughRow.holds Try.pinned (OpenSpec.ofChange cutThroughWrong)

/- THE SECOND FORM. 'bulk': how many values and letters a reading holds, each counted each time it is reached (what is shared counts as often as it is met; a slice's spare places count too). A statement '..UptoSaid' is the law's where the arguments, and the package variables that the reading takes, are together of bulk at most 1048576: NARROWER than '..Said'. Prove '..Said' where nothing that the law and all that it calls make is longer than what came in: it says more and counts as full. Else prove '..UptoSaid'. A law counts once. -/
mutual
def uptoBulk {H : Type} : DataW H → Nat
  | .lit (.string bytes) => bytes.length + 1
  | .lit _ => 1
  | .nil => 1
  | .ptr d => uptoBulk d + 1
  | .slice elems spare => uptoBulkAll elems + uptoBulkAll spare + 1
  | .agg parts => uptoBulkAll parts + 1
  | .iface _ d => uptoBulk d + 1
  | .map entries => uptoBulkEntries entries + 1
  | .held _ => 1
def uptoBulkAll {H : Type} : List (DataW H) → Nat
  | [] => 0
  | d :: r => uptoBulk d + uptoBulkAll r
def uptoBulkEntries {H : Type} : List (Lit × DataW H) → Nat
  | [] => 0
  | x :: r => uptoBulkEntry x + uptoBulkEntries r
def uptoBulkEntry {H : Type} : Lit × DataW H → Nat
  | (.string bytes, d) => bytes.length + uptoBulk d + 1
  | (_, d) => uptoBulk d + 1
 end
def uptoSmall : (H : Type) → List (DataW H) → Bool := fun _ ds => decide (uptoBulkAll ds ≤ 1048576)
def OpenSpec.upto (s : _root_.Go.ChangeSpec) : _root_.Go.OpenSpec := { _root_.Go.OpenSpec.ofChange s with cond := some uptoSmall }

/-- 'pendentivelaw13.CutFrames', WHERE WHAT IT READS IS OF BULK AT MOST 1048576: true; the input reads as it did. -/
def cutFramesUptoRow : OpenClaim := { program := "ytkhppojlabajaaa", sum := "34906a44206c1f8eb8de5118114a358c25684137036fb458b93122b7d35d9bf3", func := "pendentive/pendentivelaw13.CutFrames", spec := "cutFrames", inPlace := ["internal/abi.NoEscape"], unfollowed := true, recurses := true, apart := false, narrowed := true }
def CutFramesUptoSaid : Prop := cutFramesUptoRow.holds Try.pinned (OpenSpec.upto cutFramesSpec)

/-- 'pendentivelaw13.CutJoins', WHERE WHAT IT READS IS OF BULK AT MOST 1048576: true; the input reads as it did. -/
def cutJoinsUptoRow : OpenClaim := { program := "ytkhppojlabajaaa", sum := "34906a44206c1f8eb8de5118114a358c25684137036fb458b93122b7d35d9bf3", func := "pendentive/pendentivelaw13.CutJoins", spec := "cutJoins", inPlace := ["internal/abi.NoEscape"], unfollowed := true, recurses := true, apart := false, narrowed := true }
def CutJoinsUptoSaid : Prop := cutJoinsUptoRow.holds Try.pinned (OpenSpec.upto cutJoinsSpec)

/-- 'pendentivelaw13.CutCounts', WHERE WHAT IT READS IS OF BULK AT MOST 1048576: true; the input reads as it did. -/
def cutCountsUptoRow : OpenClaim := { program := "ytkhppojlabajaaa", sum := "34906a44206c1f8eb8de5118114a358c25684137036fb458b93122b7d35d9bf3", func := "pendentive/pendentivelaw13.CutCounts", spec := "cutCounts", inPlace := ["internal/abi.NoEscape"], unfollowed := true, recurses := true, apart := false, narrowed := true }
def CutCountsUptoSaid : Prop := cutCountsUptoRow.holds Try.pinned (OpenSpec.upto cutCountsSpec)

/-- 'pendentivelaw13.CutMasks', WHERE WHAT IT READS IS OF BULK AT MOST 1048576: true; the input reads as it did. -/
def cutMasksUptoRow : OpenClaim := { program := "ytkhppojlabajaaa", sum := "34906a44206c1f8eb8de5118114a358c25684137036fb458b93122b7d35d9bf3", func := "pendentive/pendentivelaw13.CutMasks", spec := "cutMasks", inPlace := ["internal/abi.NoEscape"], unfollowed := true, recurses := true, apart := false, narrowed := true }
def CutMasksUptoSaid : Prop := cutMasksUptoRow.holds Try.pinned (OpenSpec.upto cutMasksSpec)

/-- 'pendentivelaw13.CutSizes', WHERE WHAT IT READS IS OF BULK AT MOST 1048576: true; the input reads as it did. -/
def cutSizesUptoRow : OpenClaim := { program := "ytkhppojlabajaaa", sum := "34906a44206c1f8eb8de5118114a358c25684137036fb458b93122b7d35d9bf3", func := "pendentive/pendentivelaw13.CutSizes", spec := "cutSizes", inPlace := ["internal/abi.NoEscape"], unfollowed := true, recurses := true, apart := false, narrowed := true }
def CutSizesUptoSaid : Prop := cutSizesUptoRow.holds Try.pinned (OpenSpec.upto cutSizesSpec)

/-- 'pendentivelaw13.CutBytes', WHERE WHAT IT READS IS OF BULK AT MOST 1048576: true; the input reads as it did. -/
def cutBytesUptoRow : OpenClaim := { program := "ytkhppojlabajaaa", sum := "34906a44206c1f8eb8de5118114a358c25684137036fb458b93122b7d35d9bf3", func := "pendentive/pendentivelaw13.CutBytes", spec := "cutBytes", inPlace := ["internal/abi.NoEscape"], unfollowed := true, recurses := true, apart := false, narrowed := true }
def CutBytesUptoSaid : Prop := cutBytesUptoRow.holds Try.pinned (OpenSpec.upto cutBytesSpec)

/-- 'pendentivelaw13.CutOnce', WHERE WHAT IT READS IS OF BULK AT MOST 1048576: true; the input reads as it did. -/
def cutOnceUptoRow : OpenClaim := { program := "ytkhppojlabajaaa", sum := "34906a44206c1f8eb8de5118114a358c25684137036fb458b93122b7d35d9bf3", func := "pendentive/pendentivelaw13.CutOnce", spec := "cutOnce", inPlace := ["internal/abi.NoEscape"], unfollowed := true, recurses := true, apart := false, narrowed := true }
def CutOnceUptoSaid : Prop := cutOnceUptoRow.holds Try.pinned (OpenSpec.upto cutOnceSpec)

/-- 'pendentivelaw12.MsgCuts', WHERE WHAT IT READS IS OF BULK AT MOST 1048576: true; the input reads as it did. -/
def msgCutsUptoRow : OpenClaim := { program := "ytkhppojlabajaaa", sum := "34906a44206c1f8eb8de5118114a358c25684137036fb458b93122b7d35d9bf3", func := "pendentive/pendentivelaw12.MsgCuts", spec := "msgCuts", unfollowed := true, recurses := true, apart := false, narrowed := true }
def MsgCutsUptoSaid : Prop := msgCutsUptoRow.holds Try.pinned (OpenSpec.upto msgCutsSpec)

/-- 'pendentivelaw12.MsgStops', WHERE WHAT IT READS IS OF BULK AT MOST 1048576: true; the input reads as it did. -/
def msgStopsUptoRow : OpenClaim := { program := "ytkhppojlabajaaa", sum := "34906a44206c1f8eb8de5118114a358c25684137036fb458b93122b7d35d9bf3", func := "pendentive/pendentivelaw12.MsgStops", spec := "msgStops", unfollowed := true, recurses := true, apart := false, narrowed := true }
def MsgStopsUptoSaid : Prop := msgStopsUptoRow.holds Try.pinned (OpenSpec.upto msgStopsSpec)

/-- 'pendentivelaw12.MsgWhole', WHERE WHAT IT READS IS OF BULK AT MOST 1048576: true; the input reads as it did. -/
def msgWholeUptoRow : OpenClaim := { program := "ytkhppojlabajaaa", sum := "34906a44206c1f8eb8de5118114a358c25684137036fb458b93122b7d35d9bf3", func := "pendentive/pendentivelaw12.MsgWhole", spec := "msgWhole", unfollowed := true, recurses := true, apart := false, narrowed := true }
def MsgWholeUptoSaid : Prop := msgWholeUptoRow.holds Try.pinned (OpenSpec.upto msgWholeSpec)

/-- 'pendentivelaw12.MsgBound', WHERE WHAT IT READS IS OF BULK AT MOST 1048576: true; the input reads as it did. -/
def msgBoundUptoRow : OpenClaim := { program := "ytkhppojlabajaaa", sum := "34906a44206c1f8eb8de5118114a358c25684137036fb458b93122b7d35d9bf3", func := "pendentive/pendentivelaw12.MsgBound", spec := "msgBound", unfollowed := true, recurses := true, apart := false, narrowed := true }
def MsgBoundUptoSaid : Prop := msgBoundUptoRow.holds Try.pinned (OpenSpec.upto msgBoundSpec)

/-- 'pendentivelaw12.MsgMasks', WHERE WHAT IT READS IS OF BULK AT MOST 1048576: true; the input reads as it did. -/
def msgMasksUptoRow : OpenClaim := { program := "ytkhppojlabajaaa", sum := "34906a44206c1f8eb8de5118114a358c25684137036fb458b93122b7d35d9bf3", func := "pendentive/pendentivelaw12.MsgMasks", spec := "msgMasks", unfollowed := true, recurses := true, apart := false, narrowed := true }
def MsgMasksUptoSaid : Prop := msgMasksUptoRow.holds Try.pinned (OpenSpec.upto msgMasksSpec)

/-- 'pendentivelaw12.MsgOrder', WHERE WHAT IT READS IS OF BULK AT MOST 1048576: true; the input reads as it did. -/
def msgOrderUptoRow : OpenClaim := { program := "ytkhppojlabajaaa", sum := "34906a44206c1f8eb8de5118114a358c25684137036fb458b93122b7d35d9bf3", func := "pendentive/pendentivelaw12.MsgOrder", spec := "msgOrder", unfollowed := true, recurses := true, apart := false, narrowed := true }
def MsgOrderUptoSaid : Prop := msgOrderUptoRow.holds Try.pinned (OpenSpec.upto msgOrderSpec)

/-- 'pendentivelaw13.CutThrough', WHERE WHAT IT READS IS OF BULK AT MOST 1048576: true; the input reads as it did. -/
def cutThroughUptoRow : OpenClaim := { program := "ytkhppojlabajaaa", sum := "34906a44206c1f8eb8de5118114a358c25684137036fb458b93122b7d35d9bf3", func := "pendentive/pendentivelaw13.CutThrough", spec := "cutThrough", inPlace := ["internal/abi.NoEscape"], unfollowed := true, recurses := true, apart := false, narrowed := true }
def CutThroughUptoSaid : Prop := cutThroughUptoRow.holds Try.pinned (OpenSpec.upto cutThroughSpec)

end Rows
end Go.Proofs.Ytkhppojlabajaaa
