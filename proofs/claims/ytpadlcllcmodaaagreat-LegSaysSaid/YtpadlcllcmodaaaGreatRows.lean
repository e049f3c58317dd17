/-
  No cell of these rows narrows 'for every input' (looked for: loops, veiled, ifaces, maps, wideKeys, modest, calm, conditions, laid).
  DERIVED. THE GIVEN ROWS OF THIS SEAT. 3 by the template 'for every input the law returns true; each argument reads behind the call as it read before'; 0 by the template 'total and deterministic' (their statements: YtpadlcllcmodaaaGreatTotals.lean).
  GIVEN WITH THE SEED: the statements are not yours to turn. If you find one false, say at which input.
  Laid BY PROGRAM, IN A SANDBOX (cutbox-rows.mjs): the forced cells as the released guide's own fill.sh prints them over the translation ca46e4a78589fee0… (all of the seat's roots in one cut). By AI agents, Wed Nov 11 2026. No macro, syntax, notation, axiom, sorry.
-/
import Derived.Test.YtpadlcllcmodaaaGreatChecked
import GoSem.Claim
import GoSem.ClaimJoined
import GoSem.ClaimMapViews
import Derived.JoinedTies
import Derived.KernelRfl
namespace Go.Proofs.YtpadlcllcmodaaaGreat
/- THE CELL 'sum', in the pinned program and in every row, IS THE sha256 OF THE DUMP (.gsa) THAT YtpadlcllcmodaaaGreatProg.lean LOADS. Nothing in Lean hashes anything: it is a label: what it is worth is what the hold of that sum in a sandbox is worth. -/
noncomputable def Tryz.pinned : Pinned := { name := "ytpadlcllcmodaaagreat", sum := "ca46e4a78589fee06ccc8460f946d871002b9c3613f4ab02c6f5d2e6be48f64d", checked := Tryz.checked }
namespace Rows
def none {H : Type} : Left H := { results := [], args := [] }

/-- 'pendentivelaw16.LegPlays': WHATEVER THE INPUT: true; the input reads as it did. -/
def legPlaysSpec : ChangeSpec := { name := "legPlays", fn := fun _ => fun
  | [d1, d2, d3, d4] => { results := [.lit (.bool true)], args := [d1, d2, d3, d4] }
  | _ => none }
def legPlaysRow : OpenClaim := { program := "ytpadlcllcmodaaagreat", sum := "ca46e4a78589fee06ccc8460f946d871002b9c3613f4ab02c6f5d2e6be48f64d", func := "pendentive/pendentivelaw16.LegPlays", spec := "legPlays", inPlace := ["internal/bytealg.IndexByteString", "internal/bytealg.IndexString"], unfollowed := true, recurses := true, named := ["internal/bytealg.MaxLen"], apart := false }
def LegPlaysSaid : Prop := legPlaysRow.holds Tryz.pinned (OpenSpec.ofChange legPlaysSpec)

/-- ITS FALSE NEIGHBOUR: 'it returns false'. Refute it at one input. -/
def legPlaysWrong : ChangeSpec := { name := "legPlays", fn := fun _ => fun
  | [d1, d2, d3, d4] => { results := [.lit (.bool false)], args := [d1, d2, d3, d4] }
  | _ => none }
def LegPlaysWrongFalsely : Prop := legPlaysRow.holds Tryz.pinned (OpenSpec.ofChange legPlaysWrong)

/-- 'pendentivelaw16.LegSays': WHATEVER THE INPUT: true; the input reads as it did. -/
def legSaysSpec : ChangeSpec := { name := "legSays", fn := fun _ => fun
  | [d1, d2, d3, d4] => { results := [.lit (.bool true)], args := [d1, d2, d3, d4] }
  | _ => none }
def legSaysRow : OpenClaim := { program := "ytpadlcllcmodaaagreat", sum := "ca46e4a78589fee06ccc8460f946d871002b9c3613f4ab02c6f5d2e6be48f64d", func := "pendentive/pendentivelaw16.LegSays", spec := "legSays", inPlace := ["internal/bytealg.IndexByteString", "internal/bytealg.IndexString"], unfollowed := true, recurses := true, named := ["internal/bytealg.MaxLen"], apart := false }
def LegSaysSaid : Prop := legSaysRow.holds Tryz.pinned (OpenSpec.ofChange legSaysSpec)

/-- ITS FALSE NEIGHBOUR: 'it returns false'. Refute it at one input. -/
def legSaysWrong : ChangeSpec := { name := "legSays", fn := fun _ => fun
  | [d1, d2, d3, d4] => { results := [.lit (.bool false)], args := [d1, d2, d3, d4] }
  | _ => none }
def LegSaysWrongFalsely : Prop := legSaysRow.holds Tryz.pinned (OpenSpec.ofChange legSaysWrong)

/-- 'pendentivelaw16.LegEnds': WHATEVER THE INPUT: true; the input reads as it did. -/
def legEndsSpec : ChangeSpec := { name := "legEnds", fn := fun _ => fun
  | [d1, d2, d3, d4] => { results := [.lit (.bool true)], args := [d1, d2, d3, d4] }
  | _ => none }
def legEndsRow : OpenClaim := { program := "ytpadlcllcmodaaagreat", sum := "ca46e4a78589fee06ccc8460f946d871002b9c3613f4ab02c6f5d2e6be48f64d", func := "pendentive/pendentivelaw16.LegEnds", spec := "legEnds", inPlace := ["internal/bytealg.IndexByteString", "internal/bytealg.IndexString"], unfollowed := true, recurses := true, named := ["internal/bytealg.MaxLen"], apart := false }
def LegEndsSaid : Prop := legEndsRow.holds Tryz.pinned (OpenSpec.ofChange legEndsSpec)

/-- ITS FALSE NEIGHBOUR: 'it returns false'. Refute it at one input. -/
def legEndsWrong : ChangeSpec := { name := "legEnds", fn := fun _ => fun
  | [d1, d2, d3, d4] => { results := [.lit (.bool false)], args := [d1, d2, d3, d4] }
  | _ => none }
def LegEndsWrongFalsely : Prop := legEndsRow.holds Tryz.pinned (OpenSpec.ofChange legEndsWrong)

/- THE SECOND FORM. 'bulk': how many values and letters a reading holds, each counted each time it is reached (what is shared counts as often as it is met; a slice's spare places count too). A statement '..UptoSaid' is the law's where the arguments, and the package variables that the reading takes, are together of bulk at most 1048576: NARROWER than '..Said'. Prove '..Said' where nothing that the law and all that it calls make is longer than what came in: it says more and counts as full. Else prove '..UptoSaid'. A law counts once. -/
mutual
def uptoBulk {H : Type} : DataW H → Nat
  | .lit (.string bytes) => bytes.length + 1
  | .lit _ => 1
  | .nil => 1
  | .ptr d => uptoBulk d + 1
  | .slice elems spare => uptoBulkAll elems + uptoBulkAll spare + 1
  | .agg parts => uptoBulkAll parts + 1
  | .iface _ d => uptoBulk d + 1
  | .map entries => uptoBulkEntries entries + 1
  | .held _ => 1
def uptoBulkAll {H : Type} : List (DataW H) → Nat
  | [] => 0
  | d :: r => uptoBulk d + uptoBulkAll r
def uptoBulkEntries {H : Type} : List (Lit × DataW H) → Nat
  | [] => 0
  | x :: r => uptoBulkEntry x + uptoBulkEntries r
def uptoBulkEntry {H : Type} : Lit × DataW H → Nat
  | (.string bytes, d) => bytes.length + uptoBulk d + 1
  | (_, d) => uptoBulk d + 1
 end
def uptoSmall : (H : Type) → List (DataW H) → Bool := fun _ ds => decide (uptoBulkAll ds ≤ 1048576)
def OpenSpec.upto (s : _root_.Go.ChangeSpec) : _root_.Go.OpenSpec := { _root_.Go.OpenSpec.ofChange s with cond := some uptoSmall }

/-- 'pendentivelaw16.LegPlays', WHERE WHAT IT READS IS OF BULK AT MOST 1048576: true; the input reads as it did. -/
def legPlaysUptoRow : OpenClaim := { program := "ytpadlcllcmodaaagreat", sum := "ca46e4a78589fee06ccc8460f946d871002b9c3613f4ab02c6f5d2e6be48f64d", func := "pendentive/pendentivelaw16.LegPlays", spec := "legPlays", inPlace := ["internal/bytealg.IndexByteString", "internal/bytealg.IndexString"], unfollowed := true, recurses := true, named := ["internal/bytealg.MaxLen"], apart := false, narrowed := true }
def LegPlaysUptoSaid : Prop := legPlaysUptoRow.holds Tryz.pinned (OpenSpec.upto legPlaysSpec)

/-- 'pendentivelaw16.LegSays', WHERE WHAT IT READS IS OF BULK AT MOST 1048576: true; the input reads as it did. -/
def legSaysUptoRow : OpenClaim := { program := "ytpadlcllcmodaaagreat", sum := "ca46e4a78589fee06ccc8460f946d871002b9c3613f4ab02c6f5d2e6be48f64d", func := "pendentive/pendentivelaw16.LegSays", spec := "legSays", inPlace := ["internal/bytealg.IndexByteString", "internal/bytealg.IndexString"], unfollowed := true, recurses := true, named := ["internal/bytealg.MaxLen"], apart := false, narrowed := true }
def LegSaysUptoSaid : Prop := legSaysUptoRow.holds Tryz.pinned (OpenSpec.upto legSaysSpec)

/-- 'pendentivelaw16.LegEnds', WHERE WHAT IT READS IS OF BULK AT MOST 1048576: true; the input reads as it did. -/
def legEndsUptoRow : OpenClaim := { program := "ytpadlcllcmodaaagreat", sum := "ca46e4a78589fee06ccc8460f946d871002b9c3613f4ab02c6f5d2e6be48f64d", func := "pendentive/pendentivelaw16.LegEnds", spec := "legEnds", inPlace := ["internal/bytealg.IndexByteString", "internal/bytealg.IndexString"], unfollowed := true, recurses := true, named := ["internal/bytealg.MaxLen"], apart := false, narrowed := true }
def LegEndsUptoSaid : Prop := legEndsUptoRow.holds Tryz.pinned (OpenSpec.upto legEndsSpec)

end Rows
end Go.Proofs.YtpadlcllcmodaaaGreat
