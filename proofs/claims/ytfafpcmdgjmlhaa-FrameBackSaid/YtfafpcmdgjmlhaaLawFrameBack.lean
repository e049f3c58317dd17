/- Proved: the law FrameBack returns true for every input: the bytes of a frame that is got are those that it was got of. No condition: every input that can be read as data. -/
import Derived.Test.YtfafpcmdgjmlhaaRb
import Derived.Test.YtfafpcmdgjmlhaaFArg
import Derived.Test.YtfafpcmdgjmlhaaArg
import Derived.Test.YtfafpcmdgjmlhaaJo
namespace Go.Proofs.Ytfafpcmdgjmlhaa.lawFrameBack
open Go.ChangeShapes Go.WideShapes Go.ChangeAt Go.RowKit
open Go.ChangeMaps (open_string shut_string)
set_option linter.unusedVariables false
set_option linter.unusedSimpArgs false

set_option maxRecDepth 100000 in
theorem lifted (os : Os) (started : os.Started) (H : Type) (enc : TypeId × Value → H) :
    ReturnsInHanded {} Try.checked os 18 .any (Rows.frameBackSpec.pre6 enc Try.prog Try.f18 Rows.frameBackRow.domain false) (Rows.frameBackSpec.post enc Try.prog Try.f18 false true false false) := by
  refine returnsInHanded_of_change (C := Try.checked) own started (by kernel_rfl) Try.func18
    (ChangeSpec.witness6 (enc := enc) (C := Try.checked) false ⟨#[], #[.string ⟨#[]⟩], []⟩ 8 (by kernel_rfl) (by kernel_rfl) (by kernel_rfl) (by kernel_rfl)) ?_
  intro W base args ds gs before hval0 hW hcnd _
  have hval : ∀ (j : Nat) t v, Try.f18.params[j]? = some t → args[j]? = some v → Value.okWide Try.prog W .any base t v := hval0
  have hW' := hW
  obtain ⟨p, q, hA0, hV, rfl, hfz, hnd⟩ := hW
  have hA : DataW.TrodAll enc Try.prog W 0 (fun _ => true) true Try.f18.params.toList args.toList ds p := hA0
  rw [Try.params18] at hA hval
  obtain ⟨v0, vs0, d0, ds0, p0, q0, hargs, rfl, rfl, h0, rr0⟩ := trodAll_cons hA
  obtain ⟨rfl, rfl, rfl⟩ := trodAll_nil rr0
  obtain rfl : args = #[v0] := by cases args; simp_all
  obtain ⟨rfl, rfl⟩ := trodVars_none hV
  obtain ⟨x0, rfl, rfl, rfl, g0⟩ := open_string Try.underlying9 (hval 0 9 v0 rfl rfl) h0
  clear hA0 hval0
  refine (back_row W x0 g0).mono fun e W' ⟨he, ht⟩ => ?_
  have bel := ht.below
  subst he
  exact ⟨_, rfl, _, _, _, [], _, [], hW', trodAll_mk1 (shut_bool Try.underlying4 _), (trodAll_cons_mk (shut_string Try.underlying9 g0) trodAll_mk0), rfl, bel.frame _, fun h => by cases h⟩

set_option maxRecDepth 100000 in
theorem fact3 : (Rows.frameBackRow.inPlace == Try.prog.inPlace 18) = true := by kernel_rfl
set_option maxRecDepth 100000 in
theorem fact4 : (Rows.frameBackRow.unfollowed == Try.prog.unfollowed 18) = true := by kernel_rfl
set_option maxRecDepth 100000 in
theorem fact5 : (Rows.frameBackRow.recurses == Try.prog.recurses 18) = true := by kernel_rfl
set_option maxRecDepth 100000 in
theorem fact6 : (Rows.frameBackRow.named == Try.prog.varsNamed 18) = true := by kernel_rfl
theorem proved : Rows.FrameBackSaid :=
  OpenClaim.holds_of_wide 18 Try.f18 rfl rfl rfl rfl rfl rfl rfl ⟨rfl, rfl, rfl, rfl, rfl⟩ rfl rfl rfl rfl rfl (by kernel_rfl) Try.func18
    (joined_mk 18 Try.f18 Rows.frameBackSpec Rows.frameBackRow (by kernel_rfl) (by kernel_rfl) fact3 fact4 fact5 fact6 (by kernel_rfl) rfl rfl rfl rfl (by kernel_rfl))
    (of_decide_eq_true (by kernel_rfl)) (by unfold Func.isWrapper; first | (rw [if_pos (by decide +kernel)]; kernel_rfl) | (rw [if_neg (by decide +kernel)]; exact ⟨rfl, rfl⟩))
    (fun os started H enc _ => lifted os started H enc)
#print axioms proved
end Go.Proofs.Ytfafpcmdgjmlhaa.lawFrameBack
