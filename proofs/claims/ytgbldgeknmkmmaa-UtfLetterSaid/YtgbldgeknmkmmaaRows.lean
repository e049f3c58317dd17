/-
  No cell of these rows narrows 'for every input' (looked for: loops, veiled, ifaces, maps, wideKeys, modest, calm, conditions, laid).
  DERIVED. THE GIVEN ROWS OF THIS SEAT. 12 by the template 'for every input the law returns true; each argument reads behind the call as it read before'; 0 by the template 'total and deterministic' (their statements: YtgbldgeknmkmmaaTotals.lean).
  GIVEN WITH THE SEED: the statements are not yours to turn. If you find one false, say at which input.
  Laid BY PROGRAM, IN A SANDBOX (cutbox-rows.mjs): the forced cells as the released guide's own fill.sh prints them over the translation df1ba31df9e1b234… (all of the seat's roots in one cut). By AI agents, Wed Nov 11 2026. No macro, syntax, notation, axiom, sorry.
-/
import Derived.Test.YtgbldgeknmkmmaaChecked
import GoSem.Claim
import GoSem.ClaimJoined
import GoSem.ClaimMapViews
import Derived.JoinedTies
import Derived.KernelRfl
namespace Go.Proofs.Ytgbldgeknmkmmaa
/- THE CELL 'sum', in the pinned program and in every row, IS THE sha256 OF THE DUMP (.gsa) THAT YtgbldgeknmkmmaaProg.lean LOADS. Nothing in Lean hashes anything: it is a label: what it is worth is what the hold of that sum in a sandbox is worth. -/
noncomputable def Try.pinned : Pinned := { name := "ytgbldgeknmkmmaa", sum := "df1ba31df9e1b2348b9eee4b4acf6b54bd6cf9f177855a69e48f96f4c5f7d19b", checked := Try.checked }
namespace Rows
def none {H : Type} : Left H := { results := [], args := [] }

/-- 'pendentivelaw14.QueuePlays': WHATEVER THE INPUT: true; the input reads as it did. -/
def queuePlaysSpec : ChangeSpec := { name := "queuePlays", fn := fun _ => fun
  | [d1, d2, d3] => { results := [.lit (.bool true)], args := [d1, d2, d3] }
  | _ => none }
def queuePlaysRow : OpenClaim := { program := "ytgbldgeknmkmmaa", sum := "df1ba31df9e1b2348b9eee4b4acf6b54bd6cf9f177855a69e48f96f4c5f7d19b", func := "pendentive/pendentivelaw14.QueuePlays", spec := "queuePlays", apart := false }
def QueuePlaysSaid : Prop := queuePlaysRow.holds Try.pinned (OpenSpec.ofChange queuePlaysSpec)

/-- ITS FALSE NEIGHBOUR: 'it returns false'. Refute it at one input. -/
def queuePlaysWrong : ChangeSpec := { name := "queuePlays", fn := fun _ => fun
  | [d1, d2, d3] => { results := [.lit (.bool false)], args := [d1, d2, d3] }
  | _ => none }
def QueuePlaysWrongFalsely : Prop := queuePlaysRow.holds Try.pinned (OpenSpec.ofChange queuePlaysWrong)

/-- 'pendentivelaw14.QueueFlows': WHATEVER THE INPUT: true; the input reads as it did. -/
def queueFlowsSpec : ChangeSpec := { name := "queueFlows", fn := fun _ => fun
  | [d1, d2, d3, d4] => { results := [.lit (.bool true)], args := [d1, d2, d3, d4] }
  | _ => none }
def queueFlowsRow : OpenClaim := { program := "ytgbldgeknmkmmaa", sum := "df1ba31df9e1b2348b9eee4b4acf6b54bd6cf9f177855a69e48f96f4c5f7d19b", func := "pendentive/pendentivelaw14.QueueFlows", spec := "queueFlows", apart := false }
def QueueFlowsSaid : Prop := queueFlowsRow.holds Try.pinned (OpenSpec.ofChange queueFlowsSpec)

/-- ITS FALSE NEIGHBOUR: 'it returns false'. Refute it at one input. -/
def queueFlowsWrong : ChangeSpec := { name := "queueFlows", fn := fun _ => fun
  | [d1, d2, d3, d4] => { results := [.lit (.bool false)], args := [d1, d2, d3, d4] }
  | _ => none }
def QueueFlowsWrongFalsely : Prop := queueFlowsRow.holds Try.pinned (OpenSpec.ofChange queueFlowsWrong)

/-- 'pendentivelaw14.QueueRoom': WHATEVER THE INPUT: true; the input reads as it did. -/
def queueRoomSpec : ChangeSpec := { name := "queueRoom", fn := fun _ => fun
  | [d1, d2, d3, d4, d5] => { results := [.lit (.bool true)], args := [d1, d2, d3, d4, d5] }
  | _ => none }
def queueRoomRow : OpenClaim := { program := "ytgbldgeknmkmmaa", sum := "df1ba31df9e1b2348b9eee4b4acf6b54bd6cf9f177855a69e48f96f4c5f7d19b", func := "pendentive/pendentivelaw14.QueueRoom", spec := "queueRoom", apart := false }
def QueueRoomSaid : Prop := queueRoomRow.holds Try.pinned (OpenSpec.ofChange queueRoomSpec)

/-- ITS FALSE NEIGHBOUR: 'it returns false'. Refute it at one input. -/
def queueRoomWrong : ChangeSpec := { name := "queueRoom", fn := fun _ => fun
  | [d1, d2, d3, d4, d5] => { results := [.lit (.bool false)], args := [d1, d2, d3, d4, d5] }
  | _ => none }
def QueueRoomWrongFalsely : Prop := queueRoomRow.holds Try.pinned (OpenSpec.ofChange queueRoomWrong)

/-- 'pendentivelaw14.QueueTwo': WHATEVER THE INPUT: true; the input reads as it did. -/
def queueTwoSpec : ChangeSpec := { name := "queueTwo", fn := fun _ => fun
  | [d] => { results := [.lit (.bool true)], args := [d] }
  | _ => none }
def queueTwoRow : OpenClaim := { program := "ytgbldgeknmkmmaa", sum := "df1ba31df9e1b2348b9eee4b4acf6b54bd6cf9f177855a69e48f96f4c5f7d19b", func := "pendentive/pendentivelaw14.QueueTwo", spec := "queueTwo", apart := false }
def QueueTwoSaid : Prop := queueTwoRow.holds Try.pinned (OpenSpec.ofChange queueTwoSpec)

/-- ITS FALSE NEIGHBOUR: 'it returns false'. Refute it at one input. -/
def queueTwoWrong : ChangeSpec := { name := "queueTwo", fn := fun _ => fun
  | [d] => { results := [.lit (.bool false)], args := [d] }
  | _ => none }
def QueueTwoWrongFalsely : Prop := queueTwoRow.holds Try.pinned (OpenSpec.ofChange queueTwoWrong)

/-- 'pendentivelaw14.QueueOrder': WHATEVER THE INPUT: true; the input reads as it did. -/
def queueOrderSpec : ChangeSpec := { name := "queueOrder", fn := fun _ => fun
  | [d] => { results := [.lit (.bool true)], args := [d] }
  | _ => none }
def queueOrderRow : OpenClaim := { program := "ytgbldgeknmkmmaa", sum := "df1ba31df9e1b2348b9eee4b4acf6b54bd6cf9f177855a69e48f96f4c5f7d19b", func := "pendentive/pendentivelaw14.QueueOrder", spec := "queueOrder", apart := false }
def QueueOrderSaid : Prop := queueOrderRow.holds Try.pinned (OpenSpec.ofChange queueOrderSpec)

/-- ITS FALSE NEIGHBOUR: 'it returns false'. Refute it at one input. -/
def queueOrderWrong : ChangeSpec := { name := "queueOrder", fn := fun _ => fun
  | [d] => { results := [.lit (.bool false)], args := [d] }
  | _ => none }
def QueueOrderWrongFalsely : Prop := queueOrderRow.holds Try.pinned (OpenSpec.ofChange queueOrderWrong)

/-- 'pendentivelaw03.UtfReads': WHATEVER THE INPUT: true; the input reads as it did. -/
def utfReadsSpec : ChangeSpec := { name := "utfReads", fn := fun _ => fun
  | [d] => { results := [.lit (.bool true)], args := [d] }
  | _ => none }
def utfReadsRow : OpenClaim := { program := "ytgbldgeknmkmmaa", sum := "df1ba31df9e1b2348b9eee4b4acf6b54bd6cf9f177855a69e48f96f4c5f7d19b", func := "pendentive/pendentivelaw03.UtfReads", spec := "utfReads", apart := false }
def UtfReadsSaid : Prop := utfReadsRow.holds Try.pinned (OpenSpec.ofChange utfReadsSpec)

/-- ITS FALSE NEIGHBOUR: 'it returns false'. Refute it at one input. -/
def utfReadsWrong : ChangeSpec := { name := "utfReads", fn := fun _ => fun
  | [d] => { results := [.lit (.bool false)], args := [d] }
  | _ => none }
def UtfReadsWrongFalsely : Prop := utfReadsRow.holds Try.pinned (OpenSpec.ofChange utfReadsWrong)

/-- 'pendentivelaw03.UtfLetter': WHATEVER THE INPUT: true; the input reads as it did. -/
def utfLetterSpec : ChangeSpec := { name := "utfLetter", fn := fun _ => fun
  | [d1, d2] => { results := [.lit (.bool true)], args := [d1, d2] }
  | _ => none }
def utfLetterRow : OpenClaim := { program := "ytgbldgeknmkmmaa", sum := "df1ba31df9e1b2348b9eee4b4acf6b54bd6cf9f177855a69e48f96f4c5f7d19b", func := "pendentive/pendentivelaw03.UtfLetter", spec := "utfLetter", apart := false }
def UtfLetterSaid : Prop := utfLetterRow.holds Try.pinned (OpenSpec.ofChange utfLetterSpec)

/-- ITS FALSE NEIGHBOUR: 'it returns false'. Refute it at one input. -/
def utfLetterWrong : ChangeSpec := { name := "utfLetter", fn := fun _ => fun
  | [d1, d2] => { results := [.lit (.bool false)], args := [d1, d2] }
  | _ => none }
def UtfLetterWrongFalsely : Prop := utfLetterRow.holds Try.pinned (OpenSpec.ofChange utfLetterWrong)

/-- 'pendentivelaw03.UtfJoins': WHATEVER THE INPUT: true; the input reads as it did. -/
def utfJoinsSpec : ChangeSpec := { name := "utfJoins", fn := fun _ => fun
  | [d1, d2] => { results := [.lit (.bool true)], args := [d1, d2] }
  | _ => none }
def utfJoinsRow : OpenClaim := { program := "ytgbldgeknmkmmaa", sum := "df1ba31df9e1b2348b9eee4b4acf6b54bd6cf9f177855a69e48f96f4c5f7d19b", func := "pendentive/pendentivelaw03.UtfJoins", spec := "utfJoins", apart := false }
def UtfJoinsSaid : Prop := utfJoinsRow.holds Try.pinned (OpenSpec.ofChange utfJoinsSpec)

/-- ITS FALSE NEIGHBOUR: 'it returns false'. Refute it at one input. -/
def utfJoinsWrong : ChangeSpec := { name := "utfJoins", fn := fun _ => fun
  | [d1, d2] => { results := [.lit (.bool false)], args := [d1, d2] }
  | _ => none }
def UtfJoinsWrongFalsely : Prop := utfJoinsRow.holds Try.pinned (OpenSpec.ofChange utfJoinsWrong)

/-- 'pendentivelaw03.UtfBegins': WHATEVER THE INPUT: true; the input reads as it did. -/
def utfBeginsSpec : ChangeSpec := { name := "utfBegins", fn := fun _ => fun
  | [d] => { results := [.lit (.bool true)], args := [d] }
  | _ => none }
def utfBeginsRow : OpenClaim := { program := "ytgbldgeknmkmmaa", sum := "df1ba31df9e1b2348b9eee4b4acf6b54bd6cf9f177855a69e48f96f4c5f7d19b", func := "pendentive/pendentivelaw03.UtfBegins", spec := "utfBegins", apart := false }
def UtfBeginsSaid : Prop := utfBeginsRow.holds Try.pinned (OpenSpec.ofChange utfBeginsSpec)

/-- ITS FALSE NEIGHBOUR: 'it returns false'. Refute it at one input. -/
def utfBeginsWrong : ChangeSpec := { name := "utfBegins", fn := fun _ => fun
  | [d] => { results := [.lit (.bool false)], args := [d] }
  | _ => none }
def UtfBeginsWrongFalsely : Prop := utfBeginsRow.holds Try.pinned (OpenSpec.ofChange utfBeginsWrong)

/-- 'pendentivelaw03.UtfCounts': WHATEVER THE INPUT: true; the input reads as it did. -/
def utfCountsSpec : ChangeSpec := { name := "utfCounts", fn := fun _ => fun
  | [d] => { results := [.lit (.bool true)], args := [d] }
  | _ => none }
def utfCountsRow : OpenClaim := { program := "ytgbldgeknmkmmaa", sum := "df1ba31df9e1b2348b9eee4b4acf6b54bd6cf9f177855a69e48f96f4c5f7d19b", func := "pendentive/pendentivelaw03.UtfCounts", spec := "utfCounts", apart := false }
def UtfCountsSaid : Prop := utfCountsRow.holds Try.pinned (OpenSpec.ofChange utfCountsSpec)

/-- ITS FALSE NEIGHBOUR: 'it returns false'. Refute it at one input. -/
def utfCountsWrong : ChangeSpec := { name := "utfCounts", fn := fun _ => fun
  | [d] => { results := [.lit (.bool false)], args := [d] }
  | _ => none }
def UtfCountsWrongFalsely : Prop := utfCountsRow.holds Try.pinned (OpenSpec.ofChange utfCountsWrong)

/-- 'pendentivelaw03.UtfAscii': WHATEVER THE INPUT: true; the input reads as it did. -/
def utfAsciiSpec : ChangeSpec := { name := "utfAscii", fn := fun _ => fun
  | [d1, d2] => { results := [.lit (.bool true)], args := [d1, d2] }
  | _ => none }
def utfAsciiRow : OpenClaim := { program := "ytgbldgeknmkmmaa", sum := "df1ba31df9e1b2348b9eee4b4acf6b54bd6cf9f177855a69e48f96f4c5f7d19b", func := "pendentive/pendentivelaw03.UtfAscii", spec := "utfAscii", apart := false }
def UtfAsciiSaid : Prop := utfAsciiRow.holds Try.pinned (OpenSpec.ofChange utfAsciiSpec)

/-- ITS FALSE NEIGHBOUR: 'it returns false'. Refute it at one input. -/
def utfAsciiWrong : ChangeSpec := { name := "utfAscii", fn := fun _ => fun
  | [d1, d2] => { results := [.lit (.bool false)], args := [d1, d2] }
  | _ => none }
def UtfAsciiWrongFalsely : Prop := utfAsciiRow.holds Try.pinned (OpenSpec.ofChange utfAsciiWrong)

/-- 'pendentivelaw03.UtfCuts': WHATEVER THE INPUT: true; the input reads as it did. -/
def utfCutsSpec : ChangeSpec := { name := "utfCuts", fn := fun _ => fun
  | [d] => { results := [.lit (.bool true)], args := [d] }
  | _ => none }
def utfCutsRow : OpenClaim := { program := "ytgbldgeknmkmmaa", sum := "df1ba31df9e1b2348b9eee4b4acf6b54bd6cf9f177855a69e48f96f4c5f7d19b", func := "pendentive/pendentivelaw03.UtfCuts", spec := "utfCuts", apart := false }
def UtfCutsSaid : Prop := utfCutsRow.holds Try.pinned (OpenSpec.ofChange utfCutsSpec)

/-- ITS FALSE NEIGHBOUR: 'it returns false'. Refute it at one input. -/
def utfCutsWrong : ChangeSpec := { name := "utfCuts", fn := fun _ => fun
  | [d] => { results := [.lit (.bool false)], args := [d] }
  | _ => none }
def UtfCutsWrongFalsely : Prop := utfCutsRow.holds Try.pinned (OpenSpec.ofChange utfCutsWrong)

/- THE SECOND FORM. 'bulk': how many values and letters a reading holds, each counted each time it is reached (what is shared counts as often as it is met; a slice's spare places count too). A statement '..UptoSaid' is the law's where the arguments, and the package variables that the reading takes, are together of bulk at most 1048576: NARROWER than '..Said'. Prove '..Said' where nothing that the law and all that it calls make is longer than what came in: it says more and counts as full. Else prove '..UptoSaid'. A law counts once. -/
mutual
def uptoBulk {H : Type} : DataW H → Nat
  | .lit (.string bytes) => bytes.length + 1
  | .lit _ => 1
  | .nil => 1
  | .ptr d => uptoBulk d + 1
  | .slice elems spare => uptoBulkAll elems + uptoBulkAll spare + 1
  | .agg parts => uptoBulkAll parts + 1
  | .iface _ d => uptoBulk d + 1
  | .map entries => uptoBulkEntries entries + 1
  | .held _ => 1
def uptoBulkAll {H : Type} : List (DataW H) → Nat
  | [] => 0
  | d :: r => uptoBulk d + uptoBulkAll r
def uptoBulkEntries {H : Type} : List (Lit × DataW H) → Nat
  | [] => 0
  | x :: r => uptoBulkEntry x + uptoBulkEntries r
def uptoBulkEntry {H : Type} : Lit × DataW H → Nat
  | (.string bytes, d) => bytes.length + uptoBulk d + 1
  | (_, d) => uptoBulk d + 1
 end
def uptoSmall : (H : Type) → List (DataW H) → Bool := fun _ ds => decide (uptoBulkAll ds ≤ 1048576)
def OpenSpec.upto (s : _root_.Go.ChangeSpec) : _root_.Go.OpenSpec := { _root_.Go.OpenSpec.ofChange s with cond := some uptoSmall }

/-- 'pendentivelaw14.QueuePlays', WHERE WHAT IT READS IS OF BULK AT MOST 1048576: true; the input reads as it did. -/
def queuePlaysUptoRow : OpenClaim := { program := "ytgbldgeknmkmmaa", sum := "df1ba31df9e1b2348b9eee4b4acf6b54bd6cf9f177855a69e48f96f4c5f7d19b", func := "pendentive/pendentivelaw14.QueuePlays", spec := "queuePlays", apart := false, narrowed := true }
def QueuePlaysUptoSaid : Prop := queuePlaysUptoRow.holds Try.pinned (OpenSpec.upto queuePlaysSpec)

/-- 'pendentivelaw14.QueueFlows', WHERE WHAT IT READS IS OF BULK AT MOST 1048576: true; the input reads as it did. -/
def queueFlowsUptoRow : OpenClaim := { program := "ytgbldgeknmkmmaa", sum := "df1ba31df9e1b2348b9eee4b4acf6b54bd6cf9f177855a69e48f96f4c5f7d19b", func := "pendentive/pendentivelaw14.QueueFlows", spec := "queueFlows", apart := false, narrowed := true }
def QueueFlowsUptoSaid : Prop := queueFlowsUptoRow.holds Try.pinned (OpenSpec.upto queueFlowsSpec)

/-- 'pendentivelaw14.QueueRoom', WHERE WHAT IT READS IS OF BULK AT MOST 1048576: true; the input reads as it did. -/
def queueRoomUptoRow : OpenClaim := { program := "ytgbldgeknmkmmaa", sum := "df1ba31df9e1b2348b9eee4b4acf6b54bd6cf9f177855a69e48f96f4c5f7d19b", func := "pendentive/pendentivelaw14.QueueRoom", spec := "queueRoom", apart := false, narrowed := true }
def QueueRoomUptoSaid : Prop := queueRoomUptoRow.holds Try.pinned (OpenSpec.upto queueRoomSpec)

/-- 'pendentivelaw14.QueueTwo', WHERE WHAT IT READS IS OF BULK AT MOST 1048576: true; the input reads as it did. -/
def queueTwoUptoRow : OpenClaim := { program := "ytgbldgeknmkmmaa", sum := "df1ba31df9e1b2348b9eee4b4acf6b54bd6cf9f177855a69e48f96f4c5f7d19b", func := "pendentive/pendentivelaw14.QueueTwo", spec := "queueTwo", apart := false, narrowed := true }
def QueueTwoUptoSaid : Prop := queueTwoUptoRow.holds Try.pinned (OpenSpec.upto queueTwoSpec)

/-- 'pendentivelaw14.QueueOrder', WHERE WHAT IT READS IS OF BULK AT MOST 1048576: true; the input reads as it did. -/
def queueOrderUptoRow : OpenClaim := { program := "ytgbldgeknmkmmaa", sum := "df1ba31df9e1b2348b9eee4b4acf6b54bd6cf9f177855a69e48f96f4c5f7d19b", func := "pendentive/pendentivelaw14.QueueOrder", spec := "queueOrder", apart := false, narrowed := true }
def QueueOrderUptoSaid : Prop := queueOrderUptoRow.holds Try.pinned (OpenSpec.upto queueOrderSpec)

/-- 'pendentivelaw03.UtfReads', WHERE WHAT IT READS IS OF BULK AT MOST 1048576: true; the input reads as it did. -/
def utfReadsUptoRow : OpenClaim := { program := "ytgbldgeknmkmmaa", sum := "df1ba31df9e1b2348b9eee4b4acf6b54bd6cf9f177855a69e48f96f4c5f7d19b", func := "pendentive/pendentivelaw03.UtfReads", spec := "utfReads", apart := false, narrowed := true }
def UtfReadsUptoSaid : Prop := utfReadsUptoRow.holds Try.pinned (OpenSpec.upto utfReadsSpec)

/-- 'pendentivelaw03.UtfLetter', WHERE WHAT IT READS IS OF BULK AT MOST 1048576: true; the input reads as it did. -/
def utfLetterUptoRow : OpenClaim := { program := "ytgbldgeknmkmmaa", sum := "df1ba31df9e1b2348b9eee4b4acf6b54bd6cf9f177855a69e48f96f4c5f7d19b", func := "pendentive/pendentivelaw03.UtfLetter", spec := "utfLetter", apart := false, narrowed := true }
def UtfLetterUptoSaid : Prop := utfLetterUptoRow.holds Try.pinned (OpenSpec.upto utfLetterSpec)

/-- 'pendentivelaw03.UtfJoins', WHERE WHAT IT READS IS OF BULK AT MOST 1048576: true; the input reads as it did. -/
def utfJoinsUptoRow : OpenClaim := { program := "ytgbldgeknmkmmaa", sum := "df1ba31df9e1b2348b9eee4b4acf6b54bd6cf9f177855a69e48f96f4c5f7d19b", func := "pendentive/pendentivelaw03.UtfJoins", spec := "utfJoins", apart := false, narrowed := true }
def UtfJoinsUptoSaid : Prop := utfJoinsUptoRow.holds Try.pinned (OpenSpec.upto utfJoinsSpec)

/-- 'pendentivelaw03.UtfBegins', WHERE WHAT IT READS IS OF BULK AT MOST 1048576: true; the input reads as it did. -/
def utfBeginsUptoRow : OpenClaim := { program := "ytgbldgeknmkmmaa", sum := "df1ba31df9e1b2348b9eee4b4acf6b54bd6cf9f177855a69e48f96f4c5f7d19b", func := "pendentive/pendentivelaw03.UtfBegins", spec := "utfBegins", apart := false, narrowed := true }
def UtfBeginsUptoSaid : Prop := utfBeginsUptoRow.holds Try.pinned (OpenSpec.upto utfBeginsSpec)

/-- 'pendentivelaw03.UtfCounts', WHERE WHAT IT READS IS OF BULK AT MOST 1048576: true; the input reads as it did. -/
def utfCountsUptoRow : OpenClaim := { program := "ytgbldgeknmkmmaa", sum := "df1ba31df9e1b2348b9eee4b4acf6b54bd6cf9f177855a69e48f96f4c5f7d19b", func := "pendentive/pendentivelaw03.UtfCounts", spec := "utfCounts", apart := false, narrowed := true }
def UtfCountsUptoSaid : Prop := utfCountsUptoRow.holds Try.pinned (OpenSpec.upto utfCountsSpec)

/-- 'pendentivelaw03.UtfAscii', WHERE WHAT IT READS IS OF BULK AT MOST 1048576: true; the input reads as it did. -/
def utfAsciiUptoRow : OpenClaim := { program := "ytgbldgeknmkmmaa", sum := "df1ba31df9e1b2348b9eee4b4acf6b54bd6cf9f177855a69e48f96f4c5f7d19b", func := "pendentive/pendentivelaw03.UtfAscii", spec := "utfAscii", apart := false, narrowed := true }
def UtfAsciiUptoSaid : Prop := utfAsciiUptoRow.holds Try.pinned (OpenSpec.upto utfAsciiSpec)

/-- 'pendentivelaw03.UtfCuts', WHERE WHAT IT READS IS OF BULK AT MOST 1048576: true; the input reads as it did. -/
def utfCutsUptoRow : OpenClaim := { program := "ytgbldgeknmkmmaa", sum := "df1ba31df9e1b2348b9eee4b4acf6b54bd6cf9f177855a69e48f96f4c5f7d19b", func := "pendentive/pendentivelaw03.UtfCuts", spec := "utfCuts", apart := false, narrowed := true }
def UtfCutsUptoSaid : Prop := utfCutsUptoRow.holds Try.pinned (OpenSpec.upto utfCutsSpec)

end Rows
end Go.Proofs.Ytgbldgeknmkmmaa
