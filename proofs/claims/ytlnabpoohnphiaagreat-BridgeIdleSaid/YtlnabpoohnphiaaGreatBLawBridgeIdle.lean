/- Proved: the law BridgeIdle returns true for every input: where something comes on both sides often enough, nothing is asked, and nothing is lost; time in pieces, or at once, is the same. No condition: every input that can be read as data. -/
import Derived.Test.YtlnabpoohnphiaaGreatBWl
import Derived.Test.YtlnabpoohnphiaaGreatB03
import Derived.Test.YtlnabpoohnphiaaGreatB01
namespace Go.Proofs.YtlnabpoohnphiaaGreat.lawBridgeIdle
open Go.ChangeShapes Go.WideShapes Go.ChangeAt Go.RowKit
open Go.ChangeMaps (open_string shut_string)
set_option linter.unusedVariables false
set_option linter.unusedSimpArgs false

set_option maxRecDepth 100000 in
theorem lifted (os : Os) (started : os.Started) (H : Type) (enc : TypeId × Value → H) :
    ReturnsInHanded {} Tryz.checked os 7 .any (Rows.bridgeIdleSpec.pre6 enc Tryz.prog Tryz.f7 Rows.bridgeIdleRow.domain false) (Rows.bridgeIdleSpec.post enc Tryz.prog Tryz.f7 false true false false) := by
  refine returnsInHanded_of_change (C := Tryz.checked) own started (by kernel_rfl) Tryz.func7
    (ChangeSpec.witness6 (enc := enc) (C := Tryz.checked) false ⟨#[], #[.slice none 0 0], []⟩ 8 (by kernel_rfl) (by kernel_rfl) (by kernel_rfl) (by kernel_rfl)) ?_
  intro W base args ds gs before hval0 hW hcnd _
  have hval : ∀ (j : Nat) t v, Tryz.f7.params[j]? = some t → args[j]? = some v → Value.okWide Tryz.prog W .any base t v := hval0
  have hW' := hW
  obtain ⟨p, q, hA0, hV, rfl, hfz, hnd⟩ := hW
  have hA : DataW.TrodAll enc Tryz.prog W 0 (fun _ => true) true Tryz.f7.params.toList args.toList ds p := hA0
  rw [Tryz.params7] at hA hval
  obtain ⟨v0, vs0, d0, ds0, p0, q0, hargs, rfl, rfl, h0, rr0⟩ := trodAll_cons hA
  obtain ⟨rfl, rfl, rfl⟩ := trodAll_nil rr0
  obtain rfl : args = #[v0] := by cases args; simp_all
  obtain ⟨rfl, rfl⟩ := trodVars_none hV
  obtain ⟨A0, n0, c0, rfl⟩ := okWide_slice Tryz.underlying43 (hval 0 43 v0 rfl rfl)
  have k0 := h0
  obtain ⟨l0, rfl, r0, g0, lc0, cc0⟩ := (open_num Tryz.underlying43 Tryz.underlying5 (by kernel_rfl)) h0
  clear hA0 hval0
  refine (idle17_row W A0 l0 c0 r0 g0 lc0 cc0).mono fun e W' ⟨he, ht⟩ => ?_
  have bel := ht.below
  subst he
  exact ⟨_, rfl, _, _, _, [], _, [], hW', trodAll_mk1 (shut_bool Tryz.underlying4 _), (trodAll_cons_mk (Below.trod laidOut (by kernel_rfl) (of_decide_eq_true (by kernel_rfl)) k0 bel (trod_lt k0)) trodAll_mk0), rfl, bel.frame _, fun h => by cases h⟩

set_option maxRecDepth 100000 in
theorem fact3 : (Rows.bridgeIdleRow.inPlace == Tryz.prog.inPlace 7) = true := by kernel_rfl
set_option maxRecDepth 100000 in
theorem fact4 : (Rows.bridgeIdleRow.unfollowed == Tryz.prog.unfollowed 7) = true := by kernel_rfl
set_option maxRecDepth 100000 in
theorem fact5 : (Rows.bridgeIdleRow.recurses == Tryz.prog.recurses 7) = true := by kernel_rfl
set_option maxRecDepth 100000 in
theorem fact6 : (Rows.bridgeIdleRow.named == Tryz.prog.varsNamed 7) = true := by kernel_rfl
theorem proved : Rows.BridgeIdleSaid :=
  OpenClaim.holds_of_wide 7 Tryz.f7 rfl rfl rfl rfl rfl rfl rfl ⟨rfl, rfl, rfl, rfl, rfl⟩ rfl rfl rfl rfl rfl (by kernel_rfl) Tryz.func7
    (joined_mk 7 Tryz.f7 Rows.bridgeIdleSpec Rows.bridgeIdleRow (by kernel_rfl) (by kernel_rfl) fact3 fact4 fact5 fact6 (by kernel_rfl) rfl rfl rfl rfl (by kernel_rfl))
    (of_decide_eq_true (by kernel_rfl)) (by unfold Func.isWrapper; first | (rw [if_pos (by decide +kernel)]; kernel_rfl) | (rw [if_neg (by decide +kernel)]; exact ⟨rfl, rfl⟩))
    (fun os started H enc _ => lifted os started H enc)
#print axioms proved
end Go.Proofs.YtlnabpoohnphiaaGreat.lawBridgeIdle
