/- Proved: the law CutSizes returns true for every input: each frame but the last one has just as many bytes as may be; none has more. No condition: every input that can be read as data. -/
import Derived.Test.YtkhppojlabajaaaKo
import Derived.Test.YtkhppojlabajaaaArg
import Derived.Test.YtkhppojlabajaaaJo
namespace Go.Proofs.Ytkhppojlabajaaa.lawCutSizes
open Go.ChangeShapes Go.WideShapes Go.ChangeAt Go.RowKit
open Go.ChangeMaps (open_string shut_string)
set_option linter.unusedVariables false
set_option linter.unusedSimpArgs false

set_option maxRecDepth 100000 in
theorem lifted (os : Os) (started : os.Started) (H : Type) (enc : TypeId × Value → H) :
    ReturnsInHanded {} Try.checked os 7 .any (Rows.cutSizesSpec.pre6 enc Try.prog Try.f7 Rows.cutSizesRow.domain false) (Rows.cutSizesSpec.post enc Try.prog Try.f7 false true false false) := by
  refine returnsInHanded_of_change (C := Try.checked) own started (by kernel_rfl) Try.func7
    (ChangeSpec.witness6 (enc := enc) (C := Try.checked) false ⟨#[], #[.string ⟨#[]⟩, .int .u16 0], []⟩ 8 (by kernel_rfl) (by kernel_rfl) (by kernel_rfl) (by kernel_rfl)) ?_
  intro W base args ds gs before hval0 hW hcnd _
  have hval : ∀ (j : Nat) t v, Try.f7.params[j]? = some t → args[j]? = some v → Value.okWide Try.prog W .any base t v := hval0
  have hW' := hW
  obtain ⟨p, q, hA0, hV, rfl, hfz, hnd⟩ := hW
  have hA : DataW.TrodAll enc Try.prog W 0 (fun _ => true) true Try.f7.params.toList args.toList ds p := hA0
  rw [Try.params7] at hA hval
  obtain ⟨v0, vs0, d0, ds0, p0, q0, hargs, rfl, rfl, h0, rr0⟩ := trodAll_cons hA
  obtain ⟨v1, vs1, d1, ds1, p1, q1, rfl, rfl, rfl, h1, rr1⟩ := trodAll_cons rr0
  obtain ⟨rfl, rfl, rfl⟩ := trodAll_nil rr1
  obtain rfl : args = #[v0, v1] := by cases args; simp_all
  obtain ⟨rfl, rfl⟩ := trodVars_none hV
  obtain ⟨x0, rfl, rfl, rfl, g0⟩ := open_string Try.underlying9 (hval 0 9 v0 rfl rfl) h0
  obtain ⟨x1, rfl, rfl, rfl, g1⟩ := open_int Try.underlying49 (hval 1 49 v1 rfl rfl) h1
  clear hA0 hval0
  refine (sizes13_row W x0 g0 x1 g1).mono fun e W' ⟨he, ht⟩ => ?_
  have bel := ht.below
  subst he
  exact ⟨_, rfl, _, _, _, [], _, [], hW', trodAll_mk1 (shut_bool Try.underlying4 _), (trodAll_cons_mk (shut_string Try.underlying9 g0) (trodAll_cons_mk (shut_int Try.underlying49 g1) trodAll_mk0)), rfl, bel.frame _, fun h => by cases h⟩

set_option maxRecDepth 100000 in
theorem fact3 : (Rows.cutSizesRow.inPlace == Try.prog.inPlace 7) = true := by kernel_rfl
set_option maxRecDepth 100000 in
theorem fact4 : (Rows.cutSizesRow.unfollowed == Try.prog.unfollowed 7) = true := by kernel_rfl
set_option maxRecDepth 100000 in
theorem fact5 : (Rows.cutSizesRow.recurses == Try.prog.recurses 7) = true := by kernel_rfl
set_option maxRecDepth 100000 in
theorem fact6 : (Rows.cutSizesRow.named == Try.prog.varsNamed 7) = true := by kernel_rfl
theorem proved : Rows.CutSizesSaid :=
  OpenClaim.holds_of_wide 7 Try.f7 rfl rfl rfl rfl rfl rfl rfl ⟨rfl, rfl, rfl, rfl, rfl⟩ rfl rfl rfl rfl rfl (by kernel_rfl) Try.func7
    (joined_mk 7 Try.f7 Rows.cutSizesSpec Rows.cutSizesRow (by kernel_rfl) (by kernel_rfl) fact3 fact4 fact5 fact6 (by kernel_rfl) rfl rfl rfl rfl (by kernel_rfl))
    (of_decide_eq_true (by kernel_rfl)) (by unfold Func.isWrapper; first | (rw [if_pos (by decide +kernel)]; kernel_rfl) | (rw [if_neg (by decide +kernel)]; exact ⟨rfl, rfl⟩))
    (fun os started H enc _ => lifted os started H enc)
#print axioms proved
end Go.Proofs.Ytkhppojlabajaaa.lawCutSizes
