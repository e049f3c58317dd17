/- Proved: the law FrameTwo returns true for every input: two frames' bytes, one behind the other, are read as both. No condition: every input that can be read as data. -/
import Derived.Test.YtfafpcmdgjmlhaaRd
import Derived.Test.YtfafpcmdgjmlhaaFArg
import Derived.Test.YtfafpcmdgjmlhaaArg
import Derived.Test.YtfafpcmdgjmlhaaJo
namespace Go.Proofs.Ytfafpcmdgjmlhaa.lawFrameTwo
open Go.ChangeShapes Go.WideShapes Go.ChangeAt Go.RowKit
open Go.ChangeMaps (open_string shut_string)
set_option linter.unusedVariables false
set_option linter.unusedSimpArgs false

set_option maxRecDepth 100000 in
theorem lifted (os : Os) (started : os.Started) (H : Type) (enc : TypeId × Value → H) :
    ReturnsInHanded {} Try.checked os 20 .any (Rows.frameTwoSpec.pre6 enc Try.prog Try.f20 Rows.frameTwoRow.domain false) (Rows.frameTwoSpec.post enc Try.prog Try.f20 false true false false) := by
  refine returnsInHanded_of_change (C := Try.checked) own started (by kernel_rfl) Try.func20
    (ChangeSpec.witness6 (enc := enc) (C := Try.checked) false ⟨#[], #[.agg #[.bool false, .int .i64 0, .bool false, .int .u8 0, .int .u8 0, .int .u8 0, .int .u8 0, .string ⟨#[]⟩], .agg #[.bool false, .int .i64 0, .bool false, .int .u8 0, .int .u8 0, .int .u8 0, .int .u8 0, .string ⟨#[]⟩]], []⟩ 8 (by kernel_rfl) (by kernel_rfl) (by kernel_rfl) (by kernel_rfl)) ?_
  intro W base args ds gs before hval0 hW hcnd _
  have hval : ∀ (j : Nat) t v, Try.f20.params[j]? = some t → args[j]? = some v → Value.okWide Try.prog W .any base t v := hval0
  have hW' := hW
  obtain ⟨p, q, hA0, hV, rfl, hfz, hnd⟩ := hW
  have hA : DataW.TrodAll enc Try.prog W 0 (fun _ => true) true Try.f20.params.toList args.toList ds p := hA0
  rw [Try.params20] at hA hval
  obtain ⟨v0, vs0, d0, ds0, p0, q0, hargs, rfl, rfl, h0, rr0⟩ := trodAll_cons hA
  obtain ⟨v1, vs1, d1, ds1, p1, q1, rfl, rfl, rfl, h1, rr1⟩ := trodAll_cons rr0
  obtain ⟨rfl, rfl, rfl⟩ := trodAll_nil rr1
  obtain rfl : args = #[v0, v1] := by cases args; simp_all
  obtain ⟨rfl, rfl⟩ := trodVars_none hV
  obtain ⟨s0, rfl, _⟩ := okWide_struct Try.underlying43 (hval 0 43 v0 rfl rfl)
  have k0 := h0
  obtain ⟨x0, rfl, g0⟩ := open_val dec_fr h0
  rw [Fr.cl_cs]
  obtain ⟨s1, rfl, _⟩ := okWide_struct Try.underlying43 (hval 1 43 v1 rfl rfl)
  have k1 := h1
  obtain ⟨x1, rfl, g1⟩ := open_val dec_fr h1
  rw [Fr.cl_cs]
  clear hA0 hval0
  refine (two_row W x0 g0 x1 g1).mono fun e W' ⟨he, ht⟩ => ?_
  have bel := ht.below
  subst he
  exact ⟨_, rfl, _, _, _, [], _, [], hW', trodAll_mk1 (shut_bool Try.underlying4 _), (trodAll_cons_mk (Below.trod laidOut (by kernel_rfl) (of_decide_eq_true (by kernel_rfl)) k0 bel (trod_lt k0)) (trodAll_cons_mk (Below.trod laidOut (by kernel_rfl) (of_decide_eq_true (by kernel_rfl)) k1 bel (trod_lt k1)) trodAll_mk0)), rfl, bel.frame _, fun h => by cases h⟩

set_option maxRecDepth 100000 in
theorem fact3 : (Rows.frameTwoRow.inPlace == Try.prog.inPlace 20) = true := by kernel_rfl
set_option maxRecDepth 100000 in
theorem fact4 : (Rows.frameTwoRow.unfollowed == Try.prog.unfollowed 20) = true := by kernel_rfl
set_option maxRecDepth 100000 in
theorem fact5 : (Rows.frameTwoRow.recurses == Try.prog.recurses 20) = true := by kernel_rfl
set_option maxRecDepth 100000 in
theorem fact6 : (Rows.frameTwoRow.named == Try.prog.varsNamed 20) = true := by kernel_rfl
theorem proved : Rows.FrameTwoSaid :=
  OpenClaim.holds_of_wide 20 Try.f20 rfl rfl rfl rfl rfl rfl rfl ⟨rfl, rfl, rfl, rfl, rfl⟩ rfl rfl rfl rfl rfl (by kernel_rfl) Try.func20
    (joined_mk 20 Try.f20 Rows.frameTwoSpec Rows.frameTwoRow (by kernel_rfl) (by kernel_rfl) fact3 fact4 fact5 fact6 (by kernel_rfl) rfl rfl rfl rfl (by kernel_rfl))
    (of_decide_eq_true (by kernel_rfl)) (by unfold Func.isWrapper; first | (rw [if_pos (by decide +kernel)]; kernel_rfl) | (rw [if_neg (by decide +kernel)]; exact ⟨rfl, rfl⟩))
    (fun os started H enc _ => lifted os started H enc)
#print axioms proved
end Go.Proofs.Ytfafpcmdgjmlhaa.lawFrameTwo
