/- Proved: the law BridgeCodes returns true for every input: an end of one side is answered by its code, and goes on to the other one by it; 1005 by none. No condition: every input that can be read as data. -/
import Derived.Test.YtlnabpoohnphiaaGreatBWj
import Derived.Test.YtlnabpoohnphiaaGreatB03
import Derived.Test.YtlnabpoohnphiaaGreatB01
namespace Go.Proofs.YtlnabpoohnphiaaGreat.lawBridgeCodes
open Go.ChangeShapes Go.WideShapes Go.ChangeAt Go.RowKit
open Go.ChangeMaps (open_string shut_string)
set_option linter.unusedVariables false
set_option linter.unusedSimpArgs false

set_option maxRecDepth 100000 in
theorem lifted (os : Os) (started : os.Started) (H : Type) (enc : TypeId × Value → H) :
    ReturnsInHanded {} Tryz.checked os 6 .any (Rows.bridgeCodesSpec.pre6 enc Tryz.prog Tryz.f6 Rows.bridgeCodesRow.domain false) (Rows.bridgeCodesSpec.post enc Tryz.prog Tryz.f6 false true false false) := by
  refine returnsInHanded_of_change (C := Tryz.checked) own started (by kernel_rfl) Tryz.func6
    (ChangeSpec.witness6 (enc := enc) (C := Tryz.checked) false ⟨#[], #[.int .u16 0, .bool false, .int .u32 0], []⟩ 8 (by kernel_rfl) (by kernel_rfl) (by kernel_rfl) (by kernel_rfl)) ?_
  intro W base args ds gs before hval0 hW hcnd _
  have hval : ∀ (j : Nat) t v, Tryz.f6.params[j]? = some t → args[j]? = some v → Value.okWide Tryz.prog W .any base t v := hval0
  have hW' := hW
  obtain ⟨p, q, hA0, hV, rfl, hfz, hnd⟩ := hW
  have hA : DataW.TrodAll enc Tryz.prog W 0 (fun _ => true) true Tryz.f6.params.toList args.toList ds p := hA0
  rw [Tryz.params6] at hA hval
  obtain ⟨v0, vs0, d0, ds0, p0, q0, hargs, rfl, rfl, h0, rr0⟩ := trodAll_cons hA
  obtain ⟨v1, vs1, d1, ds1, p1, q1, rfl, rfl, rfl, h1, rr1⟩ := trodAll_cons rr0
  obtain ⟨v2, vs2, d2, ds2, p2, q2, rfl, rfl, rfl, h2, rr2⟩ := trodAll_cons rr1
  obtain ⟨rfl, rfl, rfl⟩ := trodAll_nil rr2
  obtain rfl : args = #[v0, v1, v2] := by cases args; simp_all
  obtain ⟨rfl, rfl⟩ := trodVars_none hV
  obtain ⟨x0, rfl, rfl, rfl, g0⟩ := open_int Tryz.underlying56 (hval 0 56 v0 rfl rfl) h0
  obtain ⟨x1, rfl, rfl, rfl⟩ := open_bool Tryz.underlying4 (hval 1 4 v1 rfl rfl) h1
  obtain ⟨x2, rfl, rfl, rfl, g2⟩ := open_int Tryz.underlying23 (hval 2 23 v2 rfl rfl) h2
  clear hA0 hval0
  refine (codes17_row W x0 g0 x1 x2 g2).mono fun e W' ⟨he, ht⟩ => ?_
  have bel := ht.below
  subst he
  exact ⟨_, rfl, _, _, _, [], _, [], hW', trodAll_mk1 (shut_bool Tryz.underlying4 _), (trodAll_cons_mk (shut_int Tryz.underlying56 g0) (trodAll_cons_mk (shut_bool Tryz.underlying4 x1) (trodAll_cons_mk (shut_int Tryz.underlying23 g2) trodAll_mk0))), rfl, bel.frame _, fun h => by cases h⟩

set_option maxRecDepth 100000 in
theorem fact3 : (Rows.bridgeCodesRow.inPlace == Tryz.prog.inPlace 6) = true := by kernel_rfl
set_option maxRecDepth 100000 in
theorem fact4 : (Rows.bridgeCodesRow.unfollowed == Tryz.prog.unfollowed 6) = true := by kernel_rfl
set_option maxRecDepth 100000 in
theorem fact5 : (Rows.bridgeCodesRow.recurses == Tryz.prog.recurses 6) = true := by kernel_rfl
set_option maxRecDepth 100000 in
theorem fact6 : (Rows.bridgeCodesRow.named == Tryz.prog.varsNamed 6) = true := by kernel_rfl
theorem proved : Rows.BridgeCodesSaid :=
  OpenClaim.holds_of_wide 6 Tryz.f6 rfl rfl rfl rfl rfl rfl rfl ⟨rfl, rfl, rfl, rfl, rfl⟩ rfl rfl rfl rfl rfl (by kernel_rfl) Tryz.func6
    (joined_mk 6 Tryz.f6 Rows.bridgeCodesSpec Rows.bridgeCodesRow (by kernel_rfl) (by kernel_rfl) fact3 fact4 fact5 fact6 (by kernel_rfl) rfl rfl rfl rfl (by kernel_rfl))
    (of_decide_eq_true (by kernel_rfl)) (by unfold Func.isWrapper; first | (rw [if_pos (by decide +kernel)]; kernel_rfl) | (rw [if_neg (by decide +kernel)]; exact ⟨rfl, rfl⟩))
    (fun os started H enc _ => lifted os started H enc)
#print axioms proved
end Go.Proofs.YtlnabpoohnphiaaGreat.lawBridgeCodes
