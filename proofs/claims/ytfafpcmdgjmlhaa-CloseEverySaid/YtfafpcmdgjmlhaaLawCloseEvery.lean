/- Proved: the law CloseEvery returns true for every input: of all codes of two bytes just those that may be sent are got; each is its own across. No condition: every input that can be read as data. -/
import Derived.Test.YtfafpcmdgjmlhaaCf
import Derived.Test.YtfafpcmdgjmlhaaArg
import Derived.Test.YtfafpcmdgjmlhaaJo
namespace Go.Proofs.Ytfafpcmdgjmlhaa.lawCloseEvery
open Go.ChangeShapes Go.WideShapes Go.ChangeAt Go.RowKit
open Go.ChangeMaps (open_string shut_string)
set_option linter.unusedVariables false
set_option linter.unusedSimpArgs false

set_option maxRecDepth 100000 in
theorem lifted (os : Os) (started : os.Started) (H : Type) (enc : TypeId × Value → H) :
    ReturnsInHanded {} Try.checked os 14 .any (Rows.closeEverySpec.pre6 enc Try.prog Try.f14 Rows.closeEveryRow.domain false) (Rows.closeEverySpec.post enc Try.prog Try.f14 false true false false) := by
  refine returnsInHanded_of_change (C := Try.checked) own started (by kernel_rfl) Try.func14
    (ChangeSpec.witness6 (enc := enc) (C := Try.checked) false ⟨#[], #[.int .u16 0], []⟩ 8 (by kernel_rfl) (by kernel_rfl) (by kernel_rfl) (by kernel_rfl)) ?_
  intro W base args ds gs before hval0 hW hcnd _
  have hval : ∀ (j : Nat) t v, Try.f14.params[j]? = some t → args[j]? = some v → Value.okWide Try.prog W .any base t v := hval0
  have hW' := hW
  obtain ⟨p, q, hA0, hV, rfl, hfz, hnd⟩ := hW
  have hA : DataW.TrodAll enc Try.prog W 0 (fun _ => true) true Try.f14.params.toList args.toList ds p := hA0
  rw [Try.params14] at hA hval
  obtain ⟨v0, vs0, d0, ds0, p0, q0, hargs, rfl, rfl, h0, rr0⟩ := trodAll_cons hA
  obtain ⟨rfl, rfl, rfl⟩ := trodAll_nil rr0
  obtain rfl : args = #[v0] := by cases args; simp_all
  obtain ⟨rfl, rfl⟩ := trodVars_none hV
  obtain ⟨x0, rfl, rfl, rfl, g0⟩ := open_int Try.underlying61 (hval 0 61 v0 rfl rfl) h0
  clear hA0 hval0
  refine (every11_row W x0 g0).mono fun e W' ⟨he, ht⟩ => ?_
  have bel := ht.below
  subst he
  exact ⟨_, rfl, _, _, _, [], _, [], hW', trodAll_mk1 (shut_bool Try.underlying4 _), (trodAll_cons_mk (shut_int Try.underlying61 g0) trodAll_mk0), rfl, bel.frame _, fun h => by cases h⟩

set_option maxRecDepth 100000 in
theorem fact3 : (Rows.closeEveryRow.inPlace == Try.prog.inPlace 14) = true := by kernel_rfl
set_option maxRecDepth 100000 in
theorem fact4 : (Rows.closeEveryRow.unfollowed == Try.prog.unfollowed 14) = true := by kernel_rfl
set_option maxRecDepth 100000 in
theorem fact5 : (Rows.closeEveryRow.recurses == Try.prog.recurses 14) = true := by kernel_rfl
set_option maxRecDepth 100000 in
theorem fact6 : (Rows.closeEveryRow.named == Try.prog.varsNamed 14) = true := by kernel_rfl
theorem proved : Rows.CloseEverySaid :=
  OpenClaim.holds_of_wide 14 Try.f14 rfl rfl rfl rfl rfl rfl rfl ⟨rfl, rfl, rfl, rfl, rfl⟩ rfl rfl rfl rfl rfl (by kernel_rfl) Try.func14
    (joined_mk 14 Try.f14 Rows.closeEverySpec Rows.closeEveryRow (by kernel_rfl) (by kernel_rfl) fact3 fact4 fact5 fact6 (by kernel_rfl) rfl rfl rfl rfl (by kernel_rfl))
    (of_decide_eq_true (by kernel_rfl)) (by unfold Func.isWrapper; first | (rw [if_pos (by decide +kernel)]; kernel_rfl) | (rw [if_neg (by decide +kernel)]; exact ⟨rfl, rfl⟩))
    (fun os started H enc _ => lifted os started H enc)
#print axioms proved
end Go.Proofs.Ytfafpcmdgjmlhaa.lawCloseEvery
