/-
  No cell of these rows narrows 'for every input' (looked for: loops, veiled, ifaces, maps, wideKeys, modest, calm, conditions, laid).
  DERIVED. THE GIVEN ROWS OF THIS SEAT. 5 by the template 'for every input the law returns true; each argument reads behind the call as it read before'; 0 by the template 'total and deterministic' (their statements: YtpadlcllcmodaaaTotals.lean).
  GIVEN WITH THE SEED: the statements are not yours to turn. If you find one false, say at which input.
  Laid BY PROGRAM, IN A SANDBOX (cutbox-rows.mjs): the forced cells as the released guide's own fill.sh prints them over the translation 9e41b10e5953578d… (all of the seat's roots in one cut). By AI agents, Wed Nov 11 2026. No macro, syntax, notation, axiom, sorry.
-/
import Derived.Test.YtpadlcllcmodaaaChecked
import GoSem.Claim
import GoSem.ClaimJoined
import GoSem.ClaimMapViews
import Derived.JoinedTies
import Derived.KernelRfl
namespace Go.Proofs.Ytpadlcllcmodaaa
/- THE CELL 'sum', in the pinned program and in every row, IS THE sha256 OF THE DUMP (.gsa) THAT YtpadlcllcmodaaaProg.lean LOADS. Nothing in Lean hashes anything: it is a label: what it is worth is what the hold of that sum in a sandbox is worth. -/
noncomputable def Try.pinned : Pinned := { name := "ytpadlcllcmodaaa", sum := "9e41b10e5953578d835e7e7e6922e4808c9a4e7804735e621068b3529e14e3c2", checked := Try.checked }
namespace Rows
def none {H : Type} : Left H := { results := [], args := [] }

/-- 'pendentivelaw16.LegReads': WHATEVER THE INPUT: true; the input reads as it did. -/
def legReadsSpec : ChangeSpec := { name := "legReads", fn := fun _ => fun
  | [d1, d2, d3] => { results := [.lit (.bool true)], args := [d1, d2, d3] }
  | _ => none }
def legReadsRow : OpenClaim := { program := "ytpadlcllcmodaaa", sum := "9e41b10e5953578d835e7e7e6922e4808c9a4e7804735e621068b3529e14e3c2", func := "pendentive/pendentivelaw16.LegReads", spec := "legReads", inPlace := ["internal/bytealg.IndexByteString", "internal/bytealg.IndexString"], unfollowed := true, recurses := true, named := ["internal/bytealg.MaxLen"], apart := false }
def LegReadsSaid : Prop := legReadsRow.holds Try.pinned (OpenSpec.ofChange legReadsSpec)

/-- ITS FALSE NEIGHBOUR: 'it returns false'. Refute it at one input. -/
def legReadsWrong : ChangeSpec := { name := "legReads", fn := fun _ => fun
  | [d1, d2, d3] => { results := [.lit (.bool false)], args := [d1, d2, d3] }
  | _ => none }
def LegReadsWrongFalsely : Prop := legReadsRow.holds Try.pinned (OpenSpec.ofChange legReadsWrong)

/-- 'pendentivelaw16.LegBound': WHATEVER THE INPUT: true; the input reads as it did. -/
def legBoundSpec : ChangeSpec := { name := "legBound", fn := fun _ => fun
  | [d1, d2, d3, d4] => { results := [.lit (.bool true)], args := [d1, d2, d3, d4] }
  | _ => none }
def legBoundRow : OpenClaim := { program := "ytpadlcllcmodaaa", sum := "9e41b10e5953578d835e7e7e6922e4808c9a4e7804735e621068b3529e14e3c2", func := "pendentive/pendentivelaw16.LegBound", spec := "legBound", inPlace := ["internal/bytealg.IndexByteString", "internal/bytealg.IndexString"], unfollowed := true, recurses := true, named := ["internal/bytealg.MaxLen"], apart := false }
def LegBoundSaid : Prop := legBoundRow.holds Try.pinned (OpenSpec.ofChange legBoundSpec)

/-- ITS FALSE NEIGHBOUR: 'it returns false'. Refute it at one input. -/
def legBoundWrong : ChangeSpec := { name := "legBound", fn := fun _ => fun
  | [d1, d2, d3, d4] => { results := [.lit (.bool false)], args := [d1, d2, d3, d4] }
  | _ => none }
def LegBoundWrongFalsely : Prop := legBoundRow.holds Try.pinned (OpenSpec.ofChange legBoundWrong)

/-- 'pendentivelaw16.LegBoth': WHATEVER THE INPUT: true; the input reads as it did. -/
def legBothSpec : ChangeSpec := { name := "legBoth", fn := fun _ => fun
  | [d1, d2, d3, d4, d5] => { results := [.lit (.bool true)], args := [d1, d2, d3, d4, d5] }
  | _ => none }
def legBothRow : OpenClaim := { program := "ytpadlcllcmodaaa", sum := "9e41b10e5953578d835e7e7e6922e4808c9a4e7804735e621068b3529e14e3c2", func := "pendentive/pendentivelaw16.LegBoth", spec := "legBoth", inPlace := ["internal/bytealg.IndexByteString", "internal/bytealg.IndexString"], unfollowed := true, recurses := true, named := ["internal/bytealg.MaxLen"], apart := false }
def LegBothSaid : Prop := legBothRow.holds Try.pinned (OpenSpec.ofChange legBothSpec)

/-- ITS FALSE NEIGHBOUR: 'it returns false'. Refute it at one input. -/
def legBothWrong : ChangeSpec := { name := "legBoth", fn := fun _ => fun
  | [d1, d2, d3, d4, d5] => { results := [.lit (.bool false)], args := [d1, d2, d3, d4, d5] }
  | _ => none }
def LegBothWrongFalsely : Prop := legBothRow.holds Try.pinned (OpenSpec.ofChange legBothWrong)

/-- 'pendentivelaw16.LegPongs': WHATEVER THE INPUT: true; the input reads as it did. -/
def legPongsSpec : ChangeSpec := { name := "legPongs", fn := fun _ => fun
  | [d1, d2] => { results := [.lit (.bool true)], args := [d1, d2] }
  | _ => none }
def legPongsRow : OpenClaim := { program := "ytpadlcllcmodaaa", sum := "9e41b10e5953578d835e7e7e6922e4808c9a4e7804735e621068b3529e14e3c2", func := "pendentive/pendentivelaw16.LegPongs", spec := "legPongs", inPlace := ["internal/bytealg.IndexByteString", "internal/bytealg.IndexString"], unfollowed := true, recurses := true, named := ["internal/bytealg.MaxLen"], apart := false }
def LegPongsSaid : Prop := legPongsRow.holds Try.pinned (OpenSpec.ofChange legPongsSpec)

/-- ITS FALSE NEIGHBOUR: 'it returns false'. Refute it at one input. -/
def legPongsWrong : ChangeSpec := { name := "legPongs", fn := fun _ => fun
  | [d1, d2] => { results := [.lit (.bool false)], args := [d1, d2] }
  | _ => none }
def LegPongsWrongFalsely : Prop := legPongsRow.holds Try.pinned (OpenSpec.ofChange legPongsWrong)

/-- 'pendentivelaw16.LegFree': WHATEVER THE INPUT: true; the input reads as it did. -/
def legFreeSpec : ChangeSpec := { name := "legFree", fn := fun _ => fun
  | [d1, d2, d3] => { results := [.lit (.bool true)], args := [d1, d2, d3] }
  | _ => none }
def legFreeRow : OpenClaim := { program := "ytpadlcllcmodaaa", sum := "9e41b10e5953578d835e7e7e6922e4808c9a4e7804735e621068b3529e14e3c2", func := "pendentive/pendentivelaw16.LegFree", spec := "legFree", inPlace := ["internal/bytealg.IndexByteString", "internal/bytealg.IndexString"], unfollowed := true, recurses := true, named := ["internal/bytealg.MaxLen"], apart := false }
def LegFreeSaid : Prop := legFreeRow.holds Try.pinned (OpenSpec.ofChange legFreeSpec)

/-- ITS FALSE NEIGHBOUR: 'it returns false'. Refute it at one input. -/
def legFreeWrong : ChangeSpec := { name := "legFree", fn := fun _ => fun
  | [d1, d2, d3] => { results := [.lit (.bool false)], args := [d1, d2, d3] }
  | _ => none }
def LegFreeWrongFalsely : Prop := legFreeRow.holds Try.pinned (OpenSpec.ofChange legFreeWrong)

/- THE SECOND FORM. 'bulk': how many values and letters a reading holds, each counted each time it is reached (what is shared counts as often as it is met; a slice's spare places count too). A statement '..UptoSaid' is the law's where the arguments, and the package variables that the reading takes, are together of bulk at most 1048576: NARROWER than '..Said'. Prove '..Said' where nothing that the law and all that it calls make is longer than what came in: it says more and counts as full. Else prove '..UptoSaid'. A law counts once. -/
mutual
def uptoBulk {H : Type} : DataW H → Nat
  | .lit (.string bytes) => bytes.length + 1
  | .lit _ => 1
  | .nil => 1
  | .ptr d => uptoBulk d + 1
  | .slice elems spare => uptoBulkAll elems + uptoBulkAll spare + 1
  | .agg parts => uptoBulkAll parts + 1
  | .iface _ d => uptoBulk d + 1
  | .map entries => uptoBulkEntries entries + 1
  | .held _ => 1
def uptoBulkAll {H : Type} : List (DataW H) → Nat
  | [] => 0
  | d :: r => uptoBulk d + uptoBulkAll r
def uptoBulkEntries {H : Type} : List (Lit × DataW H) → Nat
  | [] => 0
  | x :: r => uptoBulkEntry x + uptoBulkEntries r
def uptoBulkEntry {H : Type} : Lit × DataW H → Nat
  | (.string bytes, d) => bytes.length + uptoBulk d + 1
  | (_, d) => uptoBulk d + 1
 end
def uptoSmall : (H : Type) → List (DataW H) → Bool := fun _ ds => decide (uptoBulkAll ds ≤ 1048576)
def OpenSpec.upto (s : _root_.Go.ChangeSpec) : _root_.Go.OpenSpec := { _root_.Go.OpenSpec.ofChange s with cond := some uptoSmall }

/-- 'pendentivelaw16.LegReads', WHERE WHAT IT READS IS OF BULK AT MOST 1048576: true; the input reads as it did. -/
def legReadsUptoRow : OpenClaim := { program := "ytpadlcllcmodaaa", sum := "9e41b10e5953578d835e7e7e6922e4808c9a4e7804735e621068b3529e14e3c2", func := "pendentive/pendentivelaw16.LegReads", spec := "legReads", inPlace := ["internal/bytealg.IndexByteString", "internal/bytealg.IndexString"], unfollowed := true, recurses := true, named := ["internal/bytealg.MaxLen"], apart := false, narrowed := true }
def LegReadsUptoSaid : Prop := legReadsUptoRow.holds Try.pinned (OpenSpec.upto legReadsSpec)

/-- 'pendentivelaw16.LegBound', WHERE WHAT IT READS IS OF BULK AT MOST 1048576: true; the input reads as it did. -/
def legBoundUptoRow : OpenClaim := { program := "ytpadlcllcmodaaa", sum := "9e41b10e5953578d835e7e7e6922e4808c9a4e7804735e621068b3529e14e3c2", func := "pendentive/pendentivelaw16.LegBound", spec := "legBound", inPlace := ["internal/bytealg.IndexByteString", "internal/bytealg.IndexString"], unfollowed := true, recurses := true, named := ["internal/bytealg.MaxLen"], apart := false, narrowed := true }
def LegBoundUptoSaid : Prop := legBoundUptoRow.holds Try.pinned (OpenSpec.upto legBoundSpec)

/-- 'pendentivelaw16.LegBoth', WHERE WHAT IT READS IS OF BULK AT MOST 1048576: true; the input reads as it did. -/
def legBothUptoRow : OpenClaim := { program := "ytpadlcllcmodaaa", sum := "9e41b10e5953578d835e7e7e6922e4808c9a4e7804735e621068b3529e14e3c2", func := "pendentive/pendentivelaw16.LegBoth", spec := "legBoth", inPlace := ["internal/bytealg.IndexByteString", "internal/bytealg.IndexString"], unfollowed := true, recurses := true, named := ["internal/bytealg.MaxLen"], apart := false, narrowed := true }
def LegBothUptoSaid : Prop := legBothUptoRow.holds Try.pinned (OpenSpec.upto legBothSpec)

/-- 'pendentivelaw16.LegPongs', WHERE WHAT IT READS IS OF BULK AT MOST 1048576: true; the input reads as it did. -/
def legPongsUptoRow : OpenClaim := { program := "ytpadlcllcmodaaa", sum := "9e41b10e5953578d835e7e7e6922e4808c9a4e7804735e621068b3529e14e3c2", func := "pendentive/pendentivelaw16.LegPongs", spec := "legPongs", inPlace := ["internal/bytealg.IndexByteString", "internal/bytealg.IndexString"], unfollowed := true, recurses := true, named := ["internal/bytealg.MaxLen"], apart := false, narrowed := true }
def LegPongsUptoSaid : Prop := legPongsUptoRow.holds Try.pinned (OpenSpec.upto legPongsSpec)

/-- 'pendentivelaw16.LegFree', WHERE WHAT IT READS IS OF BULK AT MOST 1048576: true; the input reads as it did. -/
def legFreeUptoRow : OpenClaim := { program := "ytpadlcllcmodaaa", sum := "9e41b10e5953578d835e7e7e6922e4808c9a4e7804735e621068b3529e14e3c2", func := "pendentive/pendentivelaw16.LegFree", spec := "legFree", inPlace := ["internal/bytealg.IndexByteString", "internal/bytealg.IndexString"], unfollowed := true, recurses := true, named := ["internal/bytealg.MaxLen"], apart := false, narrowed := true }
def LegFreeUptoSaid : Prop := legFreeUptoRow.holds Try.pinned (OpenSpec.upto legFreeSpec)

end Rows
end Go.Proofs.Ytpadlcllcmodaaa
