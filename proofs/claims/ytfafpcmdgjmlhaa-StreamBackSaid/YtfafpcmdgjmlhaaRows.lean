/-
  No cell of these rows narrows 'for every input' (looked for: loops, veiled, ifaces, maps, wideKeys, modest, calm, conditions, laid).
  DERIVED. THE GIVEN ROWS OF THIS SEAT. 19 by the template 'for every input the law returns true; each argument reads behind the call as it read before'; 0 by the template 'total and deterministic' (their statements: YtfafpcmdgjmlhaaTotals.lean).
  GIVEN WITH THE SEED: the statements are not yours to turn. If you find one false, say at which input.
  Laid BY PROGRAM, IN A SANDBOX (cutbox-rows.mjs): the forced cells as the released guide's own fill.sh prints them over the translation e8e404156a27d8bf… (all of the seat's roots in one cut). By AI agents, Wed Nov 11 2026. No macro, syntax, notation, axiom, sorry.
-/
import Derived.Test.YtfafpcmdgjmlhaaChecked
import GoSem.Claim
import GoSem.ClaimJoined
import GoSem.ClaimMapViews
import Derived.JoinedTies
import Derived.KernelRfl
namespace Go.Proofs.Ytfafpcmdgjmlhaa
/- THE CELL 'sum', in the pinned program and in every row, IS THE sha256 OF THE DUMP (.gsa) THAT YtfafpcmdgjmlhaaProg.lean LOADS. Nothing in Lean hashes anything: it is a label: what it is worth is what the hold of that sum in a sandbox is worth. -/
noncomputable def Try.pinned : Pinned := { name := "ytfafpcmdgjmlhaa", sum := "e8e404156a27d8bfc7fb0dbf0f60e28e4180fce2a46462403ce404df08d978a3", checked := Try.checked }
namespace Rows
def none {H : Type} : Left H := { results := [], args := [] }

/-- 'pendentivelaw10.StreamFeeds': WHATEVER THE INPUT: true; the input reads as it did. -/
def streamFeedsSpec : ChangeSpec := { name := "streamFeeds", fn := fun _ => fun
  | [d1, d2, d3] => { results := [.lit (.bool true)], args := [d1, d2, d3] }
  | _ => none }
def streamFeedsRow : OpenClaim := { program := "ytfafpcmdgjmlhaa", sum := "e8e404156a27d8bfc7fb0dbf0f60e28e4180fce2a46462403ce404df08d978a3", func := "pendentive/pendentivelaw10.StreamFeeds", spec := "streamFeeds", unfollowed := true, recurses := true, apart := false }
def StreamFeedsSaid : Prop := streamFeedsRow.holds Try.pinned (OpenSpec.ofChange streamFeedsSpec)

/-- ITS FALSE NEIGHBOUR: 'it returns false'. Refute it at one input. -/
def streamFeedsWrong : ChangeSpec := { name := "streamFeeds", fn := fun _ => fun
  | [d1, d2, d3] => { results := [.lit (.bool false)], args := [d1, d2, d3] }
  | _ => none }
def StreamFeedsWrongFalsely : Prop := streamFeedsRow.holds Try.pinned (OpenSpec.ofChange streamFeedsWrong)

/-- 'pendentivelaw10.StreamCuts': WHATEVER THE INPUT: true; the input reads as it did. -/
def streamCutsSpec : ChangeSpec := { name := "streamCuts", fn := fun _ => fun
  | [d1, d2, d3] => { results := [.lit (.bool true)], args := [d1, d2, d3] }
  | _ => none }
def streamCutsRow : OpenClaim := { program := "ytfafpcmdgjmlhaa", sum := "e8e404156a27d8bfc7fb0dbf0f60e28e4180fce2a46462403ce404df08d978a3", func := "pendentive/pendentivelaw10.StreamCuts", spec := "streamCuts", unfollowed := true, recurses := true, apart := false }
def StreamCutsSaid : Prop := streamCutsRow.holds Try.pinned (OpenSpec.ofChange streamCutsSpec)

/-- ITS FALSE NEIGHBOUR: 'it returns false'. Refute it at one input. -/
def streamCutsWrong : ChangeSpec := { name := "streamCuts", fn := fun _ => fun
  | [d1, d2, d3] => { results := [.lit (.bool false)], args := [d1, d2, d3] }
  | _ => none }
def StreamCutsWrongFalsely : Prop := streamCutsRow.holds Try.pinned (OpenSpec.ofChange streamCutsWrong)

/-- 'pendentivelaw10.StreamBack': WHATEVER THE INPUT: true; the input reads as it did. -/
def streamBackSpec : ChangeSpec := { name := "streamBack", fn := fun _ => fun
  | [d1, d2, d3] => { results := [.lit (.bool true)], args := [d1, d2, d3] }
  | _ => none }
def streamBackRow : OpenClaim := { program := "ytfafpcmdgjmlhaa", sum := "e8e404156a27d8bfc7fb0dbf0f60e28e4180fce2a46462403ce404df08d978a3", func := "pendentive/pendentivelaw10.StreamBack", spec := "streamBack", unfollowed := true, recurses := true, apart := false }
def StreamBackSaid : Prop := streamBackRow.holds Try.pinned (OpenSpec.ofChange streamBackSpec)

/-- ITS FALSE NEIGHBOUR: 'it returns false'. Refute it at one input. -/
def streamBackWrong : ChangeSpec := { name := "streamBack", fn := fun _ => fun
  | [d1, d2, d3] => { results := [.lit (.bool false)], args := [d1, d2, d3] }
  | _ => none }
def StreamBackWrongFalsely : Prop := streamBackRow.holds Try.pinned (OpenSpec.ofChange streamBackWrong)

/-- 'pendentivelaw10.StreamStops': WHATEVER THE INPUT: true; the input reads as it did. -/
def streamStopsSpec : ChangeSpec := { name := "streamStops", fn := fun _ => fun
  | [d1, d2, d3] => { results := [.lit (.bool true)], args := [d1, d2, d3] }
  | _ => none }
def streamStopsRow : OpenClaim := { program := "ytfafpcmdgjmlhaa", sum := "e8e404156a27d8bfc7fb0dbf0f60e28e4180fce2a46462403ce404df08d978a3", func := "pendentive/pendentivelaw10.StreamStops", spec := "streamStops", unfollowed := true, recurses := true, apart := false }
def StreamStopsSaid : Prop := streamStopsRow.holds Try.pinned (OpenSpec.ofChange streamStopsSpec)

/-- ITS FALSE NEIGHBOUR: 'it returns false'. Refute it at one input. -/
def streamStopsWrong : ChangeSpec := { name := "streamStops", fn := fun _ => fun
  | [d1, d2, d3] => { results := [.lit (.bool false)], args := [d1, d2, d3] }
  | _ => none }
def StreamStopsWrongFalsely : Prop := streamStopsRow.holds Try.pinned (OpenSpec.ofChange streamStopsWrong)

/-- 'pendentivelaw10.StreamPart': WHATEVER THE INPUT: true; the input reads as it did. -/
def streamPartSpec : ChangeSpec := { name := "streamPart", fn := fun _ => fun
  | [d1, d2] => { results := [.lit (.bool true)], args := [d1, d2] }
  | _ => none }
def streamPartRow : OpenClaim := { program := "ytfafpcmdgjmlhaa", sum := "e8e404156a27d8bfc7fb0dbf0f60e28e4180fce2a46462403ce404df08d978a3", func := "pendentive/pendentivelaw10.StreamPart", spec := "streamPart", unfollowed := true, recurses := true, apart := false }
def StreamPartSaid : Prop := streamPartRow.holds Try.pinned (OpenSpec.ofChange streamPartSpec)

/-- ITS FALSE NEIGHBOUR: 'it returns false'. Refute it at one input. -/
def streamPartWrong : ChangeSpec := { name := "streamPart", fn := fun _ => fun
  | [d1, d2] => { results := [.lit (.bool false)], args := [d1, d2] }
  | _ => none }
def StreamPartWrongFalsely : Prop := streamPartRow.holds Try.pinned (OpenSpec.ofChange streamPartWrong)

/-- 'pendentivelaw10.StreamEach': WHATEVER THE INPUT: true; the input reads as it did. -/
def streamEachSpec : ChangeSpec := { name := "streamEach", fn := fun _ => fun
  | [d1, d2] => { results := [.lit (.bool true)], args := [d1, d2] }
  | _ => none }
def streamEachRow : OpenClaim := { program := "ytfafpcmdgjmlhaa", sum := "e8e404156a27d8bfc7fb0dbf0f60e28e4180fce2a46462403ce404df08d978a3", func := "pendentive/pendentivelaw10.StreamEach", spec := "streamEach", unfollowed := true, recurses := true, apart := false }
def StreamEachSaid : Prop := streamEachRow.holds Try.pinned (OpenSpec.ofChange streamEachSpec)

/-- ITS FALSE NEIGHBOUR: 'it returns false'. Refute it at one input. -/
def streamEachWrong : ChangeSpec := { name := "streamEach", fn := fun _ => fun
  | [d1, d2] => { results := [.lit (.bool false)], args := [d1, d2] }
  | _ => none }
def StreamEachWrongFalsely : Prop := streamEachRow.holds Try.pinned (OpenSpec.ofChange streamEachWrong)

/-- 'pendentivelaw11.ClosePuts': WHATEVER THE INPUT: true; the input reads as it did. -/
def closePutsSpec : ChangeSpec := { name := "closePuts", fn := fun _ => fun
  | [d1, d2] => { results := [.lit (.bool true)], args := [d1, d2] }
  | _ => none }
def closePutsRow : OpenClaim := { program := "ytfafpcmdgjmlhaa", sum := "e8e404156a27d8bfc7fb0dbf0f60e28e4180fce2a46462403ce404df08d978a3", func := "pendentive/pendentivelaw11.ClosePuts", spec := "closePuts", unfollowed := true, recurses := true, apart := false }
def ClosePutsSaid : Prop := closePutsRow.holds Try.pinned (OpenSpec.ofChange closePutsSpec)

/-- ITS FALSE NEIGHBOUR: 'it returns false'. Refute it at one input. -/
def closePutsWrong : ChangeSpec := { name := "closePuts", fn := fun _ => fun
  | [d1, d2] => { results := [.lit (.bool false)], args := [d1, d2] }
  | _ => none }
def ClosePutsWrongFalsely : Prop := closePutsRow.holds Try.pinned (OpenSpec.ofChange closePutsWrong)

/-- 'pendentivelaw11.CloseGets': WHATEVER THE INPUT: true; the input reads as it did. -/
def closeGetsSpec : ChangeSpec := { name := "closeGets", fn := fun _ => fun
  | [d] => { results := [.lit (.bool true)], args := [d] }
  | _ => none }
def closeGetsRow : OpenClaim := { program := "ytfafpcmdgjmlhaa", sum := "e8e404156a27d8bfc7fb0dbf0f60e28e4180fce2a46462403ce404df08d978a3", func := "pendentive/pendentivelaw11.CloseGets", spec := "closeGets", unfollowed := true, recurses := true, apart := false }
def CloseGetsSaid : Prop := closeGetsRow.holds Try.pinned (OpenSpec.ofChange closeGetsSpec)

/-- ITS FALSE NEIGHBOUR: 'it returns false'. Refute it at one input. -/
def closeGetsWrong : ChangeSpec := { name := "closeGets", fn := fun _ => fun
  | [d] => { results := [.lit (.bool false)], args := [d] }
  | _ => none }
def CloseGetsWrongFalsely : Prop := closeGetsRow.holds Try.pinned (OpenSpec.ofChange closeGetsWrong)

/-- 'pendentivelaw11.CloseCodes': WHATEVER THE INPUT: true; the input reads as it did. -/
def closeCodesSpec : ChangeSpec := { name := "closeCodes", fn := fun _ => fun
  | [d1, d2] => { results := [.lit (.bool true)], args := [d1, d2] }
  | _ => none }
def closeCodesRow : OpenClaim := { program := "ytfafpcmdgjmlhaa", sum := "e8e404156a27d8bfc7fb0dbf0f60e28e4180fce2a46462403ce404df08d978a3", func := "pendentive/pendentivelaw11.CloseCodes", spec := "closeCodes", unfollowed := true, recurses := true, apart := false }
def CloseCodesSaid : Prop := closeCodesRow.holds Try.pinned (OpenSpec.ofChange closeCodesSpec)

/-- ITS FALSE NEIGHBOUR: 'it returns false'. Refute it at one input. -/
def closeCodesWrong : ChangeSpec := { name := "closeCodes", fn := fun _ => fun
  | [d1, d2] => { results := [.lit (.bool false)], args := [d1, d2] }
  | _ => none }
def CloseCodesWrongFalsely : Prop := closeCodesRow.holds Try.pinned (OpenSpec.ofChange closeCodesWrong)

/-- 'pendentivelaw11.CloseApart': WHATEVER THE INPUT: true; the input reads as it did. -/
def closeApartSpec : ChangeSpec := { name := "closeApart", fn := fun _ => fun
  | [d1, d2, d3, d4] => { results := [.lit (.bool true)], args := [d1, d2, d3, d4] }
  | _ => none }
def closeApartRow : OpenClaim := { program := "ytfafpcmdgjmlhaa", sum := "e8e404156a27d8bfc7fb0dbf0f60e28e4180fce2a46462403ce404df08d978a3", func := "pendentive/pendentivelaw11.CloseApart", spec := "closeApart", unfollowed := true, recurses := true, apart := false }
def CloseApartSaid : Prop := closeApartRow.holds Try.pinned (OpenSpec.ofChange closeApartSpec)

/-- ITS FALSE NEIGHBOUR: 'it returns false'. Refute it at one input. -/
def closeApartWrong : ChangeSpec := { name := "closeApart", fn := fun _ => fun
  | [d1, d2, d3, d4] => { results := [.lit (.bool false)], args := [d1, d2, d3, d4] }
  | _ => none }
def CloseApartWrongFalsely : Prop := closeApartRow.holds Try.pinned (OpenSpec.ofChange closeApartWrong)

/-- 'pendentivelaw11.CloseSizes': WHATEVER THE INPUT: true; the input reads as it did. -/
def closeSizesSpec : ChangeSpec := { name := "closeSizes", fn := fun _ => fun
  | [d1, d2] => { results := [.lit (.bool true)], args := [d1, d2] }
  | _ => none }
def closeSizesRow : OpenClaim := { program := "ytfafpcmdgjmlhaa", sum := "e8e404156a27d8bfc7fb0dbf0f60e28e4180fce2a46462403ce404df08d978a3", func := "pendentive/pendentivelaw11.CloseSizes", spec := "closeSizes", unfollowed := true, recurses := true, apart := false }
def CloseSizesSaid : Prop := closeSizesRow.holds Try.pinned (OpenSpec.ofChange closeSizesSpec)

/-- ITS FALSE NEIGHBOUR: 'it returns false'. Refute it at one input. -/
def closeSizesWrong : ChangeSpec := { name := "closeSizes", fn := fun _ => fun
  | [d1, d2] => { results := [.lit (.bool false)], args := [d1, d2] }
  | _ => none }
def CloseSizesWrongFalsely : Prop := closeSizesRow.holds Try.pinned (OpenSpec.ofChange closeSizesWrong)

/-- 'pendentivelaw11.CloseEvery': WHATEVER THE INPUT: true; the input reads as it did. -/
def closeEverySpec : ChangeSpec := { name := "closeEvery", fn := fun _ => fun
  | [d] => { results := [.lit (.bool true)], args := [d] }
  | _ => none }
def closeEveryRow : OpenClaim := { program := "ytfafpcmdgjmlhaa", sum := "e8e404156a27d8bfc7fb0dbf0f60e28e4180fce2a46462403ce404df08d978a3", func := "pendentive/pendentivelaw11.CloseEvery", spec := "closeEvery", unfollowed := true, recurses := true, apart := false }
def CloseEverySaid : Prop := closeEveryRow.holds Try.pinned (OpenSpec.ofChange closeEverySpec)

/-- ITS FALSE NEIGHBOUR: 'it returns false'. Refute it at one input. -/
def closeEveryWrong : ChangeSpec := { name := "closeEvery", fn := fun _ => fun
  | [d] => { results := [.lit (.bool false)], args := [d] }
  | _ => none }
def CloseEveryWrongFalsely : Prop := closeEveryRow.holds Try.pinned (OpenSpec.ofChange closeEveryWrong)

/-- 'pendentivelaw09.FramePuts': WHATEVER THE INPUT: true; the input reads as it did. -/
def framePutsSpec : ChangeSpec := { name := "framePuts", fn := fun _ => fun
  | [d1, d2, d3] => { results := [.lit (.bool true)], args := [d1, d2, d3] }
  | _ => none }
def framePutsRow : OpenClaim := { program := "ytfafpcmdgjmlhaa", sum := "e8e404156a27d8bfc7fb0dbf0f60e28e4180fce2a46462403ce404df08d978a3", func := "pendentive/pendentivelaw09.FramePuts", spec := "framePuts", apart := false }
def FramePutsSaid : Prop := framePutsRow.holds Try.pinned (OpenSpec.ofChange framePutsSpec)

/-- ITS FALSE NEIGHBOUR: 'it returns false'. Refute it at one input. -/
def framePutsWrong : ChangeSpec := { name := "framePuts", fn := fun _ => fun
  | [d1, d2, d3] => { results := [.lit (.bool false)], args := [d1, d2, d3] }
  | _ => none }
def FramePutsWrongFalsely : Prop := framePutsRow.holds Try.pinned (OpenSpec.ofChange framePutsWrong)

/-- 'pendentivelaw09.FrameGets': WHATEVER THE INPUT: true; the input reads as it did. -/
def frameGetsSpec : ChangeSpec := { name := "frameGets", fn := fun _ => fun
  | [d1, d2] => { results := [.lit (.bool true)], args := [d1, d2] }
  | _ => none }
def frameGetsRow : OpenClaim := { program := "ytfafpcmdgjmlhaa", sum := "e8e404156a27d8bfc7fb0dbf0f60e28e4180fce2a46462403ce404df08d978a3", func := "pendentive/pendentivelaw09.FrameGets", spec := "frameGets", apart := false }
def FrameGetsSaid : Prop := frameGetsRow.holds Try.pinned (OpenSpec.ofChange frameGetsSpec)

/-- ITS FALSE NEIGHBOUR: 'it returns false'. Refute it at one input. -/
def frameGetsWrong : ChangeSpec := { name := "frameGets", fn := fun _ => fun
  | [d1, d2] => { results := [.lit (.bool false)], args := [d1, d2] }
  | _ => none }
def FrameGetsWrongFalsely : Prop := frameGetsRow.holds Try.pinned (OpenSpec.ofChange frameGetsWrong)

/-- 'pendentivelaw09.FrameSoon': WHATEVER THE INPUT: true; the input reads as it did. -/
def frameSoonSpec : ChangeSpec := { name := "frameSoon", fn := fun _ => fun
  | [d1, d2] => { results := [.lit (.bool true)], args := [d1, d2] }
  | _ => none }
def frameSoonRow : OpenClaim := { program := "ytfafpcmdgjmlhaa", sum := "e8e404156a27d8bfc7fb0dbf0f60e28e4180fce2a46462403ce404df08d978a3", func := "pendentive/pendentivelaw09.FrameSoon", spec := "frameSoon", apart := false }
def FrameSoonSaid : Prop := frameSoonRow.holds Try.pinned (OpenSpec.ofChange frameSoonSpec)

/-- ITS FALSE NEIGHBOUR: 'it returns false'. Refute it at one input. -/
def frameSoonWrong : ChangeSpec := { name := "frameSoon", fn := fun _ => fun
  | [d1, d2] => { results := [.lit (.bool false)], args := [d1, d2] }
  | _ => none }
def FrameSoonWrongFalsely : Prop := frameSoonRow.holds Try.pinned (OpenSpec.ofChange frameSoonWrong)

/-- 'pendentivelaw09.FrameBack': WHATEVER THE INPUT: true; the input reads as it did. -/
def frameBackSpec : ChangeSpec := { name := "frameBack", fn := fun _ => fun
  | [d] => { results := [.lit (.bool true)], args := [d] }
  | _ => none }
def frameBackRow : OpenClaim := { program := "ytfafpcmdgjmlhaa", sum := "e8e404156a27d8bfc7fb0dbf0f60e28e4180fce2a46462403ce404df08d978a3", func := "pendentive/pendentivelaw09.FrameBack", spec := "frameBack", apart := false }
def FrameBackSaid : Prop := frameBackRow.holds Try.pinned (OpenSpec.ofChange frameBackSpec)

/-- ITS FALSE NEIGHBOUR: 'it returns false'. Refute it at one input. -/
def frameBackWrong : ChangeSpec := { name := "frameBack", fn := fun _ => fun
  | [d] => { results := [.lit (.bool false)], args := [d] }
  | _ => none }
def FrameBackWrongFalsely : Prop := frameBackRow.holds Try.pinned (OpenSpec.ofChange frameBackWrong)

/-- 'pendentivelaw09.FrameMasks': WHATEVER THE INPUT: true; the input reads as it did. -/
def frameMasksSpec : ChangeSpec := { name := "frameMasks", fn := fun _ => fun
  | [d1, d2] => { results := [.lit (.bool true)], args := [d1, d2] }
  | _ => none }
def frameMasksRow : OpenClaim := { program := "ytfafpcmdgjmlhaa", sum := "e8e404156a27d8bfc7fb0dbf0f60e28e4180fce2a46462403ce404df08d978a3", func := "pendentive/pendentivelaw09.FrameMasks", spec := "frameMasks", apart := false }
def FrameMasksSaid : Prop := frameMasksRow.holds Try.pinned (OpenSpec.ofChange frameMasksSpec)

/-- ITS FALSE NEIGHBOUR: 'it returns false'. Refute it at one input. -/
def frameMasksWrong : ChangeSpec := { name := "frameMasks", fn := fun _ => fun
  | [d1, d2] => { results := [.lit (.bool false)], args := [d1, d2] }
  | _ => none }
def FrameMasksWrongFalsely : Prop := frameMasksRow.holds Try.pinned (OpenSpec.ofChange frameMasksWrong)

/-- 'pendentivelaw09.FrameTwo': WHATEVER THE INPUT: true; the input reads as it did. -/
def frameTwoSpec : ChangeSpec := { name := "frameTwo", fn := fun _ => fun
  | [d1, d2] => { results := [.lit (.bool true)], args := [d1, d2] }
  | _ => none }
def frameTwoRow : OpenClaim := { program := "ytfafpcmdgjmlhaa", sum := "e8e404156a27d8bfc7fb0dbf0f60e28e4180fce2a46462403ce404df08d978a3", func := "pendentive/pendentivelaw09.FrameTwo", spec := "frameTwo", apart := false }
def FrameTwoSaid : Prop := frameTwoRow.holds Try.pinned (OpenSpec.ofChange frameTwoSpec)

/-- ITS FALSE NEIGHBOUR: 'it returns false'. Refute it at one input. -/
def frameTwoWrong : ChangeSpec := { name := "frameTwo", fn := fun _ => fun
  | [d1, d2] => { results := [.lit (.bool false)], args := [d1, d2] }
  | _ => none }
def FrameTwoWrongFalsely : Prop := frameTwoRow.holds Try.pinned (OpenSpec.ofChange frameTwoWrong)

/-- 'pendentivelaw09.FrameOver': WHATEVER THE INPUT: true; the input reads as it did. -/
def frameOverSpec : ChangeSpec := { name := "frameOver", fn := fun _ => fun
  | [d1, d2] => { results := [.lit (.bool true)], args := [d1, d2] }
  | _ => none }
def frameOverRow : OpenClaim := { program := "ytfafpcmdgjmlhaa", sum := "e8e404156a27d8bfc7fb0dbf0f60e28e4180fce2a46462403ce404df08d978a3", func := "pendentive/pendentivelaw09.FrameOver", spec := "frameOver", apart := false }
def FrameOverSaid : Prop := frameOverRow.holds Try.pinned (OpenSpec.ofChange frameOverSpec)

/-- ITS FALSE NEIGHBOUR: 'it returns false'. Refute it at one input. -/
def frameOverWrong : ChangeSpec := { name := "frameOver", fn := fun _ => fun
  | [d1, d2] => { results := [.lit (.bool false)], args := [d1, d2] }
  | _ => none }
def FrameOverWrongFalsely : Prop := frameOverRow.holds Try.pinned (OpenSpec.ofChange frameOverWrong)

/- THE SECOND FORM. 'bulk': how many values and letters a reading holds, each counted each time it is reached (what is shared counts as often as it is met; a slice's spare places count too). A statement '..UptoSaid' is the law's where the arguments, and the package variables that the reading takes, are together of bulk at most 1048576: NARROWER than '..Said'. Prove '..Said' where nothing that the law and all that it calls make is longer than what came in: it says more and counts as full. Else prove '..UptoSaid'. A law counts once. -/
mutual
def uptoBulk {H : Type} : DataW H → Nat
  | .lit (.string bytes) => bytes.length + 1
  | .lit _ => 1
  | .nil => 1
  | .ptr d => uptoBulk d + 1
  | .slice elems spare => uptoBulkAll elems + uptoBulkAll spare + 1
  | .agg parts => uptoBulkAll parts + 1
  | .iface _ d => uptoBulk d + 1
  | .map entries => uptoBulkEntries entries + 1
  | .held _ => 1
def uptoBulkAll {H : Type} : List (DataW H) → Nat
  | [] => 0
  | d :: r => uptoBulk d + uptoBulkAll r
def uptoBulkEntries {H : Type} : List (Lit × DataW H) → Nat
  | [] => 0
  | x :: r => uptoBulkEntry x + uptoBulkEntries r
def uptoBulkEntry {H : Type} : Lit × DataW H → Nat
  | (.string bytes, d) => bytes.length + uptoBulk d + 1
  | (_, d) => uptoBulk d + 1
 end
def uptoSmall : (H : Type) → List (DataW H) → Bool := fun _ ds => decide (uptoBulkAll ds ≤ 1048576)
def OpenSpec.upto (s : _root_.Go.ChangeSpec) : _root_.Go.OpenSpec := { _root_.Go.OpenSpec.ofChange s with cond := some uptoSmall }

/-- 'pendentivelaw10.StreamFeeds', WHERE WHAT IT READS IS OF BULK AT MOST 1048576: true; the input reads as it did. -/
def streamFeedsUptoRow : OpenClaim := { program := "ytfafpcmdgjmlhaa", sum := "e8e404156a27d8bfc7fb0dbf0f60e28e4180fce2a46462403ce404df08d978a3", func := "pendentive/pendentivelaw10.StreamFeeds", spec := "streamFeeds", unfollowed := true, recurses := true, apart := false, narrowed := true }
def StreamFeedsUptoSaid : Prop := streamFeedsUptoRow.holds Try.pinned (OpenSpec.upto streamFeedsSpec)

/-- 'pendentivelaw10.StreamCuts', WHERE WHAT IT READS IS OF BULK AT MOST 1048576: true; the input reads as it did. -/
def streamCutsUptoRow : OpenClaim := { program := "ytfafpcmdgjmlhaa", sum := "e8e404156a27d8bfc7fb0dbf0f60e28e4180fce2a46462403ce404df08d978a3", func := "pendentive/pendentivelaw10.StreamCuts", spec := "streamCuts", unfollowed := true, recurses := true, apart := false, narrowed := true }
def StreamCutsUptoSaid : Prop := streamCutsUptoRow.holds Try.pinned (OpenSpec.upto streamCutsSpec)

/-- 'pendentivelaw10.StreamBack', WHERE WHAT IT READS IS OF BULK AT MOST 1048576: true; the input reads as it did. -/
def streamBackUptoRow : OpenClaim := { program := "ytfafpcmdgjmlhaa", sum := "e8e404156a27d8bfc7fb0dbf0f60e28e4180fce2a46462403ce404df08d978a3", func := "pendentive/pendentivelaw10.StreamBack", spec := "streamBack", unfollowed := true, recurses := true, apart := false, narrowed := true }
def StreamBackUptoSaid : Prop := streamBackUptoRow.holds Try.pinned (OpenSpec.upto streamBackSpec)

/-- 'pendentivelaw10.StreamStops', WHERE WHAT IT READS IS OF BULK AT MOST 1048576: true; the input reads as it did. -/
def streamStopsUptoRow : OpenClaim := { program := "ytfafpcmdgjmlhaa", sum := "e8e404156a27d8bfc7fb0dbf0f60e28e4180fce2a46462403ce404df08d978a3", func := "pendentive/pendentivelaw10.StreamStops", spec := "streamStops", unfollowed := true, recurses := true, apart := false, narrowed := true }
def StreamStopsUptoSaid : Prop := streamStopsUptoRow.holds Try.pinned (OpenSpec.upto streamStopsSpec)

/-- 'pendentivelaw10.StreamPart', WHERE WHAT IT READS IS OF BULK AT MOST 1048576: true; the input reads as it did. -/
def streamPartUptoRow : OpenClaim := { program := "ytfafpcmdgjmlhaa", sum := "e8e404156a27d8bfc7fb0dbf0f60e28e4180fce2a46462403ce404df08d978a3", func := "pendentive/pendentivelaw10.StreamPart", spec := "streamPart", unfollowed := true, recurses := true, apart := false, narrowed := true }
def StreamPartUptoSaid : Prop := streamPartUptoRow.holds Try.pinned (OpenSpec.upto streamPartSpec)

/-- 'pendentivelaw10.StreamEach', WHERE WHAT IT READS IS OF BULK AT MOST 1048576: true; the input reads as it did. -/
def streamEachUptoRow : OpenClaim := { program := "ytfafpcmdgjmlhaa", sum := "e8e404156a27d8bfc7fb0dbf0f60e28e4180fce2a46462403ce404df08d978a3", func := "pendentive/pendentivelaw10.StreamEach", spec := "streamEach", unfollowed := true, recurses := true, apart := false, narrowed := true }
def StreamEachUptoSaid : Prop := streamEachUptoRow.holds Try.pinned (OpenSpec.upto streamEachSpec)

/-- 'pendentivelaw11.ClosePuts', WHERE WHAT IT READS IS OF BULK AT MOST 1048576: true; the input reads as it did. -/
def closePutsUptoRow : OpenClaim := { program := "ytfafpcmdgjmlhaa", sum := "e8e404156a27d8bfc7fb0dbf0f60e28e4180fce2a46462403ce404df08d978a3", func := "pendentive/pendentivelaw11.ClosePuts", spec := "closePuts", unfollowed := true, recurses := true, apart := false, narrowed := true }
def ClosePutsUptoSaid : Prop := closePutsUptoRow.holds Try.pinned (OpenSpec.upto closePutsSpec)

/-- 'pendentivelaw11.CloseGets', WHERE WHAT IT READS IS OF BULK AT MOST 1048576: true; the input reads as it did. -/
def closeGetsUptoRow : OpenClaim := { program := "ytfafpcmdgjmlhaa", sum := "e8e404156a27d8bfc7fb0dbf0f60e28e4180fce2a46462403ce404df08d978a3", func := "pendentive/pendentivelaw11.CloseGets", spec := "closeGets", unfollowed := true, recurses := true, apart := false, narrowed := true }
def CloseGetsUptoSaid : Prop := closeGetsUptoRow.holds Try.pinned (OpenSpec.upto closeGetsSpec)

/-- 'pendentivelaw11.CloseCodes', WHERE WHAT IT READS IS OF BULK AT MOST 1048576: true; the input reads as it did. -/
def closeCodesUptoRow : OpenClaim := { program := "ytfafpcmdgjmlhaa", sum := "e8e404156a27d8bfc7fb0dbf0f60e28e4180fce2a46462403ce404df08d978a3", func := "pendentive/pendentivelaw11.CloseCodes", spec := "closeCodes", unfollowed := true, recurses := true, apart := false, narrowed := true }
def CloseCodesUptoSaid : Prop := closeCodesUptoRow.holds Try.pinned (OpenSpec.upto closeCodesSpec)

/-- 'pendentivelaw11.CloseApart', WHERE WHAT IT READS IS OF BULK AT MOST 1048576: true; the input reads as it did. -/
def closeApartUptoRow : OpenClaim := { program := "ytfafpcmdgjmlhaa", sum := "e8e404156a27d8bfc7fb0dbf0f60e28e4180fce2a46462403ce404df08d978a3", func := "pendentive/pendentivelaw11.CloseApart", spec := "closeApart", unfollowed := true, recurses := true, apart := false, narrowed := true }
def CloseApartUptoSaid : Prop := closeApartUptoRow.holds Try.pinned (OpenSpec.upto closeApartSpec)

/-- 'pendentivelaw11.CloseSizes', WHERE WHAT IT READS IS OF BULK AT MOST 1048576: true; the input reads as it did. -/
def closeSizesUptoRow : OpenClaim := { program := "ytfafpcmdgjmlhaa", sum := "e8e404156a27d8bfc7fb0dbf0f60e28e4180fce2a46462403ce404df08d978a3", func := "pendentive/pendentivelaw11.CloseSizes", spec := "closeSizes", unfollowed := true, recurses := true, apart := false, narrowed := true }
def CloseSizesUptoSaid : Prop := closeSizesUptoRow.holds Try.pinned (OpenSpec.upto closeSizesSpec)

/-- 'pendentivelaw11.CloseEvery', WHERE WHAT IT READS IS OF BULK AT MOST 1048576: true; the input reads as it did. -/
def closeEveryUptoRow : OpenClaim := { program := "ytfafpcmdgjmlhaa", sum := "e8e404156a27d8bfc7fb0dbf0f60e28e4180fce2a46462403ce404df08d978a3", func := "pendentive/pendentivelaw11.CloseEvery", spec := "closeEvery", unfollowed := true, recurses := true, apart := false, narrowed := true }
def CloseEveryUptoSaid : Prop := closeEveryUptoRow.holds Try.pinned (OpenSpec.upto closeEverySpec)

/-- 'pendentivelaw09.FramePuts', WHERE WHAT IT READS IS OF BULK AT MOST 1048576: true; the input reads as it did. -/
def framePutsUptoRow : OpenClaim := { program := "ytfafpcmdgjmlhaa", sum := "e8e404156a27d8bfc7fb0dbf0f60e28e4180fce2a46462403ce404df08d978a3", func := "pendentive/pendentivelaw09.FramePuts", spec := "framePuts", apart := false, narrowed := true }
def FramePutsUptoSaid : Prop := framePutsUptoRow.holds Try.pinned (OpenSpec.upto framePutsSpec)

/-- 'pendentivelaw09.FrameGets', WHERE WHAT IT READS IS OF BULK AT MOST 1048576: true; the input reads as it did. -/
def frameGetsUptoRow : OpenClaim := { program := "ytfafpcmdgjmlhaa", sum := "e8e404156a27d8bfc7fb0dbf0f60e28e4180fce2a46462403ce404df08d978a3", func := "pendentive/pendentivelaw09.FrameGets", spec := "frameGets", apart := false, narrowed := true }
def FrameGetsUptoSaid : Prop := frameGetsUptoRow.holds Try.pinned (OpenSpec.upto frameGetsSpec)

/-- 'pendentivelaw09.FrameSoon', WHERE WHAT IT READS IS OF BULK AT MOST 1048576: true; the input reads as it did. -/
def frameSoonUptoRow : OpenClaim := { program := "ytfafpcmdgjmlhaa", sum := "e8e404156a27d8bfc7fb0dbf0f60e28e4180fce2a46462403ce404df08d978a3", func := "pendentive/pendentivelaw09.FrameSoon", spec := "frameSoon", apart := false, narrowed := true }
def FrameSoonUptoSaid : Prop := frameSoonUptoRow.holds Try.pinned (OpenSpec.upto frameSoonSpec)

/-- 'pendentivelaw09.FrameBack', WHERE WHAT IT READS IS OF BULK AT MOST 1048576: true; the input reads as it did. -/
def frameBackUptoRow : OpenClaim := { program := "ytfafpcmdgjmlhaa", sum := "e8e404156a27d8bfc7fb0dbf0f60e28e4180fce2a46462403ce404df08d978a3", func := "pendentive/pendentivelaw09.FrameBack", spec := "frameBack", apart := false, narrowed := true }
def FrameBackUptoSaid : Prop := frameBackUptoRow.holds Try.pinned (OpenSpec.upto frameBackSpec)

/-- 'pendentivelaw09.FrameMasks', WHERE WHAT IT READS IS OF BULK AT MOST 1048576: true; the input reads as it did. -/
def frameMasksUptoRow : OpenClaim := { program := "ytfafpcmdgjmlhaa", sum := "e8e404156a27d8bfc7fb0dbf0f60e28e4180fce2a46462403ce404df08d978a3", func := "pendentive/pendentivelaw09.FrameMasks", spec := "frameMasks", apart := false, narrowed := true }
def FrameMasksUptoSaid : Prop := frameMasksUptoRow.holds Try.pinned (OpenSpec.upto frameMasksSpec)

/-- 'pendentivelaw09.FrameTwo', WHERE WHAT IT READS IS OF BULK AT MOST 1048576: true; the input reads as it did. -/
def frameTwoUptoRow : OpenClaim := { program := "ytfafpcmdgjmlhaa", sum := "e8e404156a27d8bfc7fb0dbf0f60e28e4180fce2a46462403ce404df08d978a3", func := "pendentive/pendentivelaw09.FrameTwo", spec := "frameTwo", apart := false, narrowed := true }
def FrameTwoUptoSaid : Prop := frameTwoUptoRow.holds Try.pinned (OpenSpec.upto frameTwoSpec)

/-- 'pendentivelaw09.FrameOver', WHERE WHAT IT READS IS OF BULK AT MOST 1048576: true; the input reads as it did. -/
def frameOverUptoRow : OpenClaim := { program := "ytfafpcmdgjmlhaa", sum := "e8e404156a27d8bfc7fb0dbf0f60e28e4180fce2a46462403ce404df08d978a3", func := "pendentive/pendentivelaw09.FrameOver", spec := "frameOver", apart := false, narrowed := true }
def FrameOverUptoSaid : Prop := frameOverUptoRow.holds Try.pinned (OpenSpec.upto frameOverSpec)

end Rows
end Go.Proofs.Ytfafpcmdgjmlhaa
