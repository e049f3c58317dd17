/-
  No cell of these rows narrows 'for every input' (looked for: loops, veiled, ifaces, maps, wideKeys, modest, calm, conditions, laid).
  DERIVED. THE GIVEN ROWS OF THIS SEAT. 9 by the template 'for every input the law returns true; each argument reads behind the call as it read before'; 0 by the template 'total and deterministic' (their statements: YtlnabpoohnphiaaGreatTotals.lean).
  GIVEN WITH THE SEED: the statements are not yours to turn. If you find one false, say at which input.
  Laid BY PROGRAM, IN A SANDBOX (cutbox-rows.mjs): the forced cells as the released guide's own fill.sh prints them over the translation 19f7fad2e6a96931… (all of the seat's roots in one cut). By AI agents, Wed Nov 11 2026. No macro, syntax, notation, axiom, sorry.
-/
import Derived.Test.YtlnabpoohnphiaaGreatChecked
import GoSem.Claim
import GoSem.ClaimJoined
import GoSem.ClaimMapViews
import Derived.JoinedTies
import Derived.KernelRfl
namespace Go.Proofs.YtlnabpoohnphiaaGreat
/- THE CELL 'sum', in the pinned program and in every row, IS THE sha256 OF THE DUMP (.gsa) THAT YtlnabpoohnphiaaGreatProg.lean LOADS. Nothing in Lean hashes anything: it is a label: what it is worth is what the hold of that sum in a sandbox is worth. -/
noncomputable def Tryz.pinned : Pinned := { name := "ytlnabpoohnphiaagreat", sum := "19f7fad2e6a96931e4999c6c4b5e496c144328ba8420ab0719b739a97b50b0f3", checked := Tryz.checked }
namespace Rows
def none {H : Type} : Left H := { results := [], args := [] }

/-- 'pendentivelaw17.BridgeFlows': WHATEVER THE INPUT: true; the input reads as it did. -/
def bridgeFlowsSpec : ChangeSpec := { name := "bridgeFlows", fn := fun _ => fun
  | [d1, d2, d3, d4, d5] => { results := [.lit (.bool true)], args := [d1, d2, d3, d4, d5] }
  | _ => none }
def bridgeFlowsRow : OpenClaim := { program := "ytlnabpoohnphiaagreat", sum := "19f7fad2e6a96931e4999c6c4b5e496c144328ba8420ab0719b739a97b50b0f3", func := "pendentive/pendentivelaw17.BridgeFlows", spec := "bridgeFlows", inPlace := ["internal/bytealg.IndexByteString", "internal/bytealg.IndexString"], unfollowed := true, recurses := true, named := ["internal/bytealg.MaxLen"], apart := false }
def BridgeFlowsSaid : Prop := bridgeFlowsRow.holds Tryz.pinned (OpenSpec.ofChange bridgeFlowsSpec)

/-- ITS FALSE NEIGHBOUR: 'it returns false'. Refute it at one input. -/
def bridgeFlowsWrong : ChangeSpec := { name := "bridgeFlows", fn := fun _ => fun
  | [d1, d2, d3, d4, d5] => { results := [.lit (.bool false)], args := [d1, d2, d3, d4, d5] }
  | _ => none }
def BridgeFlowsWrongFalsely : Prop := bridgeFlowsRow.holds Tryz.pinned (OpenSpec.ofChange bridgeFlowsWrong)

/-- 'pendentivelaw17.BridgeWrong': WHATEVER THE INPUT: true; the input reads as it did. -/
def bridgeWrongSpec : ChangeSpec := { name := "bridgeWrong", fn := fun _ => fun
  | [d1, d2, d3, d4] => { results := [.lit (.bool true)], args := [d1, d2, d3, d4] }
  | _ => none }
def bridgeWrongRow : OpenClaim := { program := "ytlnabpoohnphiaagreat", sum := "19f7fad2e6a96931e4999c6c4b5e496c144328ba8420ab0719b739a97b50b0f3", func := "pendentive/pendentivelaw17.BridgeWrong", spec := "bridgeWrong", inPlace := ["internal/bytealg.IndexByteString", "internal/bytealg.IndexString"], unfollowed := true, recurses := true, named := ["internal/bytealg.MaxLen"], apart := false }
def BridgeWrongSaid : Prop := bridgeWrongRow.holds Tryz.pinned (OpenSpec.ofChange bridgeWrongSpec)

/-- ITS FALSE NEIGHBOUR: 'it returns false'. Refute it at one input. -/
def bridgeWrongWrong : ChangeSpec := { name := "bridgeWrong", fn := fun _ => fun
  | [d1, d2, d3, d4] => { results := [.lit (.bool false)], args := [d1, d2, d3, d4] }
  | _ => none }
def BridgeWrongWrongFalsely : Prop := bridgeWrongRow.holds Tryz.pinned (OpenSpec.ofChange bridgeWrongWrong)

/-- 'pendentivelaw17.BridgePings': WHATEVER THE INPUT: true; the input reads as it did. -/
def bridgePingsSpec : ChangeSpec := { name := "bridgePings", fn := fun _ => fun
  | [d1, d2] => { results := [.lit (.bool true)], args := [d1, d2] }
  | _ => none }
def bridgePingsRow : OpenClaim := { program := "ytlnabpoohnphiaagreat", sum := "19f7fad2e6a96931e4999c6c4b5e496c144328ba8420ab0719b739a97b50b0f3", func := "pendentive/pendentivelaw17.BridgePings", spec := "bridgePings", inPlace := ["internal/bytealg.IndexByteString", "internal/bytealg.IndexString"], unfollowed := true, recurses := true, named := ["internal/bytealg.MaxLen"], apart := false }
def BridgePingsSaid : Prop := bridgePingsRow.holds Tryz.pinned (OpenSpec.ofChange bridgePingsSpec)

/-- ITS FALSE NEIGHBOUR: 'it returns false'. Refute it at one input. -/
def bridgePingsWrong : ChangeSpec := { name := "bridgePings", fn := fun _ => fun
  | [d1, d2] => { results := [.lit (.bool false)], args := [d1, d2] }
  | _ => none }
def BridgePingsWrongFalsely : Prop := bridgePingsRow.holds Tryz.pinned (OpenSpec.ofChange bridgePingsWrong)

/-- 'pendentivelaw17.BridgeCodes': WHATEVER THE INPUT: true; the input reads as it did. -/
def bridgeCodesSpec : ChangeSpec := { name := "bridgeCodes", fn := fun _ => fun
  | [d1, d2, d3] => { results := [.lit (.bool true)], args := [d1, d2, d3] }
  | _ => none }
def bridgeCodesRow : OpenClaim := { program := "ytlnabpoohnphiaagreat", sum := "19f7fad2e6a96931e4999c6c4b5e496c144328ba8420ab0719b739a97b50b0f3", func := "pendentive/pendentivelaw17.BridgeCodes", spec := "bridgeCodes", inPlace := ["internal/bytealg.IndexByteString", "internal/bytealg.IndexString"], unfollowed := true, recurses := true, named := ["internal/bytealg.MaxLen"], apart := false }
def BridgeCodesSaid : Prop := bridgeCodesRow.holds Tryz.pinned (OpenSpec.ofChange bridgeCodesSpec)

/-- ITS FALSE NEIGHBOUR: 'it returns false'. Refute it at one input. -/
def bridgeCodesWrong : ChangeSpec := { name := "bridgeCodes", fn := fun _ => fun
  | [d1, d2, d3] => { results := [.lit (.bool false)], args := [d1, d2, d3] }
  | _ => none }
def BridgeCodesWrongFalsely : Prop := bridgeCodesRow.holds Tryz.pinned (OpenSpec.ofChange bridgeCodesWrong)

/-- 'pendentivelaw17.BridgeIdle': WHATEVER THE INPUT: true; the input reads as it did. -/
def bridgeIdleSpec : ChangeSpec := { name := "bridgeIdle", fn := fun _ => fun
  | [d] => { results := [.lit (.bool true)], args := [d] }
  | _ => none }
def bridgeIdleRow : OpenClaim := { program := "ytlnabpoohnphiaagreat", sum := "19f7fad2e6a96931e4999c6c4b5e496c144328ba8420ab0719b739a97b50b0f3", func := "pendentive/pendentivelaw17.BridgeIdle", spec := "bridgeIdle", inPlace := ["internal/bytealg.IndexByteString", "internal/bytealg.IndexString"], unfollowed := true, recurses := true, named := ["internal/bytealg.MaxLen"], apart := false }
def BridgeIdleSaid : Prop := bridgeIdleRow.holds Tryz.pinned (OpenSpec.ofChange bridgeIdleSpec)

/-- ITS FALSE NEIGHBOUR: 'it returns false'. Refute it at one input. -/
def bridgeIdleWrong : ChangeSpec := { name := "bridgeIdle", fn := fun _ => fun
  | [d] => { results := [.lit (.bool false)], args := [d] }
  | _ => none }
def BridgeIdleWrongFalsely : Prop := bridgeIdleRow.holds Tryz.pinned (OpenSpec.ofChange bridgeIdleWrong)

/-- 'pendentivelaw17.BridgeCarries': WHATEVER THE INPUT: true; the input reads as it did. -/
def bridgeCarriesSpec : ChangeSpec := { name := "bridgeCarries", fn := fun _ => fun
  | [d1, d2, d3] => { results := [.lit (.bool true)], args := [d1, d2, d3] }
  | _ => none }
def bridgeCarriesRow : OpenClaim := { program := "ytlnabpoohnphiaagreat", sum := "19f7fad2e6a96931e4999c6c4b5e496c144328ba8420ab0719b739a97b50b0f3", func := "pendentive/pendentivelaw17.BridgeCarries", spec := "bridgeCarries", inPlace := ["internal/bytealg.IndexByteString", "internal/bytealg.IndexString"], unfollowed := true, recurses := true, named := ["internal/bytealg.MaxLen"], apart := false }
def BridgeCarriesSaid : Prop := bridgeCarriesRow.holds Tryz.pinned (OpenSpec.ofChange bridgeCarriesSpec)

/-- ITS FALSE NEIGHBOUR: 'it returns false'. Refute it at one input. -/
def bridgeCarriesWrong : ChangeSpec := { name := "bridgeCarries", fn := fun _ => fun
  | [d1, d2, d3] => { results := [.lit (.bool false)], args := [d1, d2, d3] }
  | _ => none }
def BridgeCarriesWrongFalsely : Prop := bridgeCarriesRow.holds Tryz.pinned (OpenSpec.ofChange bridgeCarriesWrong)

/-- 'pendentivelaw17.BridgeBound': WHATEVER THE INPUT: true; the input reads as it did. -/
def bridgeBoundSpec : ChangeSpec := { name := "bridgeBound", fn := fun _ => fun
  | [d1, d2, d3] => { results := [.lit (.bool true)], args := [d1, d2, d3] }
  | _ => none }
def bridgeBoundRow : OpenClaim := { program := "ytlnabpoohnphiaagreat", sum := "19f7fad2e6a96931e4999c6c4b5e496c144328ba8420ab0719b739a97b50b0f3", func := "pendentive/pendentivelaw17.BridgeBound", spec := "bridgeBound", inPlace := ["internal/bytealg.IndexByteString", "internal/bytealg.IndexString"], unfollowed := true, recurses := true, named := ["internal/bytealg.MaxLen"], apart := false }
def BridgeBoundSaid : Prop := bridgeBoundRow.holds Tryz.pinned (OpenSpec.ofChange bridgeBoundSpec)

/-- ITS FALSE NEIGHBOUR: 'it returns false'. Refute it at one input. -/
def bridgeBoundWrong : ChangeSpec := { name := "bridgeBound", fn := fun _ => fun
  | [d1, d2, d3] => { results := [.lit (.bool false)], args := [d1, d2, d3] }
  | _ => none }
def BridgeBoundWrongFalsely : Prop := bridgeBoundRow.holds Tryz.pinned (OpenSpec.ofChange bridgeBoundWrong)

/-- 'pendentivelaw17.BridgeEnds': WHATEVER THE INPUT: true; the input reads as it did. -/
def bridgeEndsSpec : ChangeSpec := { name := "bridgeEnds", fn := fun _ => fun
  | [d1, d2, d3] => { results := [.lit (.bool true)], args := [d1, d2, d3] }
  | _ => none }
def bridgeEndsRow : OpenClaim := { program := "ytlnabpoohnphiaagreat", sum := "19f7fad2e6a96931e4999c6c4b5e496c144328ba8420ab0719b739a97b50b0f3", func := "pendentive/pendentivelaw17.BridgeEnds", spec := "bridgeEnds", inPlace := ["internal/bytealg.IndexByteString", "internal/bytealg.IndexString"], unfollowed := true, recurses := true, named := ["internal/bytealg.MaxLen"], apart := false }
def BridgeEndsSaid : Prop := bridgeEndsRow.holds Tryz.pinned (OpenSpec.ofChange bridgeEndsSpec)

/-- ITS FALSE NEIGHBOUR: 'it returns false'. Refute it at one input. -/
def bridgeEndsWrong : ChangeSpec := { name := "bridgeEnds", fn := fun _ => fun
  | [d1, d2, d3] => { results := [.lit (.bool false)], args := [d1, d2, d3] }
  | _ => none }
def BridgeEndsWrongFalsely : Prop := bridgeEndsRow.holds Tryz.pinned (OpenSpec.ofChange bridgeEndsWrong)

/-- 'pendentivelaw17.BridgeLost': WHATEVER THE INPUT: true; the input reads as it did. -/
def bridgeLostSpec : ChangeSpec := { name := "bridgeLost", fn := fun _ => fun
  | [d1, d2, d3, d4] => { results := [.lit (.bool true)], args := [d1, d2, d3, d4] }
  | _ => none }
def bridgeLostRow : OpenClaim := { program := "ytlnabpoohnphiaagreat", sum := "19f7fad2e6a96931e4999c6c4b5e496c144328ba8420ab0719b739a97b50b0f3", func := "pendentive/pendentivelaw17.BridgeLost", spec := "bridgeLost", inPlace := ["internal/bytealg.IndexByteString", "internal/bytealg.IndexString"], unfollowed := true, recurses := true, named := ["internal/bytealg.MaxLen"], apart := false }
def BridgeLostSaid : Prop := bridgeLostRow.holds Tryz.pinned (OpenSpec.ofChange bridgeLostSpec)

/-- ITS FALSE NEIGHBOUR: 'it returns false'. Refute it at one input. -/
def bridgeLostWrong : ChangeSpec := { name := "bridgeLost", fn := fun _ => fun
  | [d1, d2, d3, d4] => { results := [.lit (.bool false)], args := [d1, d2, d3, d4] }
  | _ => none }
def BridgeLostWrongFalsely : Prop := bridgeLostRow.holds Tryz.pinned (OpenSpec.ofChange bridgeLostWrong)

/- THE SECOND FORM. 'bulk': how many values and letters a reading holds, each counted each time it is reached (what is shared counts as often as it is met; a slice's spare places count too). A statement '..UptoSaid' is the law's where the arguments, and the package variables that the reading takes, are together of bulk at most 1048576: NARROWER than '..Said'. Prove '..Said' where nothing that the law and all that it calls make is longer than what came in: it says more and counts as full. Else prove '..UptoSaid'. A law counts once. -/
mutual
def uptoBulk {H : Type} : DataW H → Nat
  | .lit (.string bytes) => bytes.length + 1
  | .lit _ => 1
  | .nil => 1
  | .ptr d => uptoBulk d + 1
  | .slice elems spare => uptoBulkAll elems + uptoBulkAll spare + 1
  | .agg parts => uptoBulkAll parts + 1
  | .iface _ d => uptoBulk d + 1
  | .map entries => uptoBulkEntries entries + 1
  | .held _ => 1
def uptoBulkAll {H : Type} : List (DataW H) → Nat
  | [] => 0
  | d :: r => uptoBulk d + uptoBulkAll r
def uptoBulkEntries {H : Type} : List (Lit × DataW H) → Nat
  | [] => 0
  | x :: r => uptoBulkEntry x + uptoBulkEntries r
def uptoBulkEntry {H : Type} : Lit × DataW H → Nat
  | (.string bytes, d) => bytes.length + uptoBulk d + 1
  | (_, d) => uptoBulk d + 1
 end
def uptoSmall : (H : Type) → List (DataW H) → Bool := fun _ ds => decide (uptoBulkAll ds ≤ 1048576)
def OpenSpec.upto (s : _root_.Go.ChangeSpec) : _root_.Go.OpenSpec := { _root_.Go.OpenSpec.ofChange s with cond := some uptoSmall }

/-- 'pendentivelaw17.BridgeFlows', WHERE WHAT IT READS IS OF BULK AT MOST 1048576: true; the input reads as it did. -/
def bridgeFlowsUptoRow : OpenClaim := { program := "ytlnabpoohnphiaagreat", sum := "19f7fad2e6a96931e4999c6c4b5e496c144328ba8420ab0719b739a97b50b0f3", func := "pendentive/pendentivelaw17.BridgeFlows", spec := "bridgeFlows", inPlace := ["internal/bytealg.IndexByteString", "internal/bytealg.IndexString"], unfollowed := true, recurses := true, named := ["internal/bytealg.MaxLen"], apart := false, narrowed := true }
def BridgeFlowsUptoSaid : Prop := bridgeFlowsUptoRow.holds Tryz.pinned (OpenSpec.upto bridgeFlowsSpec)

/-- 'pendentivelaw17.BridgeWrong', WHERE WHAT IT READS IS OF BULK AT MOST 1048576: true; the input reads as it did. -/
def bridgeWrongUptoRow : OpenClaim := { program := "ytlnabpoohnphiaagreat", sum := "19f7fad2e6a96931e4999c6c4b5e496c144328ba8420ab0719b739a97b50b0f3", func := "pendentive/pendentivelaw17.BridgeWrong", spec := "bridgeWrong", inPlace := ["internal/bytealg.IndexByteString", "internal/bytealg.IndexString"], unfollowed := true, recurses := true, named := ["internal/bytealg.MaxLen"], apart := false, narrowed := true }
def BridgeWrongUptoSaid : Prop := bridgeWrongUptoRow.holds Tryz.pinned (OpenSpec.upto bridgeWrongSpec)

/-- 'pendentivelaw17.BridgePings', WHERE WHAT IT READS IS OF BULK AT MOST 1048576: true; the input reads as it did. -/
def bridgePingsUptoRow : OpenClaim := { program := "ytlnabpoohnphiaagreat", sum := "19f7fad2e6a96931e4999c6c4b5e496c144328ba8420ab0719b739a97b50b0f3", func := "pendentive/pendentivelaw17.BridgePings", spec := "bridgePings", inPlace := ["internal/bytealg.IndexByteString", "internal/bytealg.IndexString"], unfollowed := true, recurses := true, named := ["internal/bytealg.MaxLen"], apart := false, narrowed := true }
def BridgePingsUptoSaid : Prop := bridgePingsUptoRow.holds Tryz.pinned (OpenSpec.upto bridgePingsSpec)

/-- 'pendentivelaw17.BridgeCodes', WHERE WHAT IT READS IS OF BULK AT MOST 1048576: true; the input reads as it did. -/
def bridgeCodesUptoRow : OpenClaim := { program := "ytlnabpoohnphiaagreat", sum := "19f7fad2e6a96931e4999c6c4b5e496c144328ba8420ab0719b739a97b50b0f3", func := "pendentive/pendentivelaw17.BridgeCodes", spec := "bridgeCodes", inPlace := ["internal/bytealg.IndexByteString", "internal/bytealg.IndexString"], unfollowed := true, recurses := true, named := ["internal/bytealg.MaxLen"], apart := false, narrowed := true }
def BridgeCodesUptoSaid : Prop := bridgeCodesUptoRow.holds Tryz.pinned (OpenSpec.upto bridgeCodesSpec)

/-- 'pendentivelaw17.BridgeIdle', WHERE WHAT IT READS IS OF BULK AT MOST 1048576: true; the input reads as it did. -/
def bridgeIdleUptoRow : OpenClaim := { program := "ytlnabpoohnphiaagreat", sum := "19f7fad2e6a96931e4999c6c4b5e496c144328ba8420ab0719b739a97b50b0f3", func := "pendentive/pendentivelaw17.BridgeIdle", spec := "bridgeIdle", inPlace := ["internal/bytealg.IndexByteString", "internal/bytealg.IndexString"], unfollowed := true, recurses := true, named := ["internal/bytealg.MaxLen"], apart := false, narrowed := true }
def BridgeIdleUptoSaid : Prop := bridgeIdleUptoRow.holds Tryz.pinned (OpenSpec.upto bridgeIdleSpec)

/-- 'pendentivelaw17.BridgeCarries', WHERE WHAT IT READS IS OF BULK AT MOST 1048576: true; the input reads as it did. -/
def bridgeCarriesUptoRow : OpenClaim := { program := "ytlnabpoohnphiaagreat", sum := "19f7fad2e6a96931e4999c6c4b5e496c144328ba8420ab0719b739a97b50b0f3", func := "pendentive/pendentivelaw17.BridgeCarries", spec := "bridgeCarries", inPlace := ["internal/bytealg.IndexByteString", "internal/bytealg.IndexString"], unfollowed := true, recurses := true, named := ["internal/bytealg.MaxLen"], apart := false, narrowed := true }
def BridgeCarriesUptoSaid : Prop := bridgeCarriesUptoRow.holds Tryz.pinned (OpenSpec.upto bridgeCarriesSpec)

/-- 'pendentivelaw17.BridgeBound', WHERE WHAT IT READS IS OF BULK AT MOST 1048576: true; the input reads as it did. -/
def bridgeBoundUptoRow : OpenClaim := { program := "ytlnabpoohnphiaagreat", sum := "19f7fad2e6a96931e4999c6c4b5e496c144328ba8420ab0719b739a97b50b0f3", func := "pendentive/pendentivelaw17.BridgeBound", spec := "bridgeBound", inPlace := ["internal/bytealg.IndexByteString", "internal/bytealg.IndexString"], unfollowed := true, recurses := true, named := ["internal/bytealg.MaxLen"], apart := false, narrowed := true }
def BridgeBoundUptoSaid : Prop := bridgeBoundUptoRow.holds Tryz.pinned (OpenSpec.upto bridgeBoundSpec)

/-- 'pendentivelaw17.BridgeEnds', WHERE WHAT IT READS IS OF BULK AT MOST 1048576: true; the input reads as it did. -/
def bridgeEndsUptoRow : OpenClaim := { program := "ytlnabpoohnphiaagreat", sum := "19f7fad2e6a96931e4999c6c4b5e496c144328ba8420ab0719b739a97b50b0f3", func := "pendentive/pendentivelaw17.BridgeEnds", spec := "bridgeEnds", inPlace := ["internal/bytealg.IndexByteString", "internal/bytealg.IndexString"], unfollowed := true, recurses := true, named := ["internal/bytealg.MaxLen"], apart := false, narrowed := true }
def BridgeEndsUptoSaid : Prop := bridgeEndsUptoRow.holds Tryz.pinned (OpenSpec.upto bridgeEndsSpec)

/-- 'pendentivelaw17.BridgeLost', WHERE WHAT IT READS IS OF BULK AT MOST 1048576: true; the input reads as it did. -/
def bridgeLostUptoRow : OpenClaim := { program := "ytlnabpoohnphiaagreat", sum := "19f7fad2e6a96931e4999c6c4b5e496c144328ba8420ab0719b739a97b50b0f3", func := "pendentive/pendentivelaw17.BridgeLost", spec := "bridgeLost", inPlace := ["internal/bytealg.IndexByteString", "internal/bytealg.IndexString"], unfollowed := true, recurses := true, named := ["internal/bytealg.MaxLen"], apart := false, narrowed := true }
def BridgeLostUptoSaid : Prop := bridgeLostUptoRow.holds Tryz.pinned (OpenSpec.upto bridgeLostSpec)

end Rows
end Go.Proofs.YtlnabpoohnphiaaGreat
