/- Proved: the law MsgMasks returns true for every input: whether frames were masked doesn't matter to what they come to. No condition: every input that can be read as data. -/
import Derived.Test.YtkhppojlabajaaaGm
import Derived.Test.YtkhppojlabajaaaFArg
import Derived.Test.YtkhppojlabajaaaArg
import Derived.Test.YtkhppojlabajaaaJo
namespace Go.Proofs.Ytkhppojlabajaaa.lawMsgMasks
open Go.ChangeShapes Go.WideShapes Go.ChangeAt Go.RowKit
open Go.ChangeMaps (open_string shut_string)
set_option linter.unusedVariables false
set_option linter.unusedSimpArgs false

set_option maxRecDepth 100000 in
theorem lifted (os : Os) (started : os.Started) (H : Type) (enc : TypeId × Value → H) :
    ReturnsInHanded {} Try.checked os 14 .any (Rows.msgMasksSpec.pre6 enc Try.prog Try.f14 Rows.msgMasksRow.domain false) (Rows.msgMasksSpec.post enc Try.prog Try.f14 false true false false) := by
  refine returnsInHanded_of_change (C := Try.checked) own started (by kernel_rfl) Try.func14
    (ChangeSpec.witness6 (enc := enc) (C := Try.checked) false ⟨#[], #[.slice none 0 0, .agg #[.int .u8 0, .int .u8 0, .int .u8 0, .int .u8 0]], []⟩ 8 (by kernel_rfl) (by kernel_rfl) (by kernel_rfl) (by kernel_rfl)) ?_
  intro W base args ds gs before hval0 hW hcnd _
  have hval : ∀ (j : Nat) t v, Try.f14.params[j]? = some t → args[j]? = some v → Value.okWide Try.prog W .any base t v := hval0
  have hW' := hW
  obtain ⟨p, q, hA0, hV, rfl, hfz, hnd⟩ := hW
  have hA : DataW.TrodAll enc Try.prog W 0 (fun _ => true) true Try.f14.params.toList args.toList ds p := hA0
  rw [Try.params14] at hA hval
  obtain ⟨v0, vs0, d0, ds0, p0, q0, hargs, rfl, rfl, h0, rr0⟩ := trodAll_cons hA
  obtain ⟨v1, vs1, d1, ds1, p1, q1, rfl, rfl, rfl, h1, rr1⟩ := trodAll_cons rr0
  obtain ⟨rfl, rfl, rfl⟩ := trodAll_nil rr1
  obtain rfl : args = #[v0, v1] := by cases args; simp_all
  obtain ⟨rfl, rfl⟩ := trodVars_none hV
  obtain ⟨A0, n0, c0, rfl⟩ := okWide_slice Try.underlying23 (hval 0 23 v0 rfl rfl)
  have k0 := h0
  obtain ⟨l0, rfl, r0, g0, lc0, cc0⟩ := open_frs h0
  obtain ⟨s1, rfl, _⟩ := okWide_array Try.underlying42 (hval 1 42 v1 rfl rfl)
  have k1 := h1
  obtain ⟨⟨x1a, x1b, x1c, x1d⟩, rfl, g1⟩ := open_val dec_key h1
  clear hA0 hval0
  refine (masks12_row W A0 l0 c0 r0 g0 lc0 cc0 x1a x1b x1c x1d g1).mono fun e W' ⟨he, ht⟩ => ?_
  have bel := ht.below
  subst he
  exact ⟨_, rfl, _, _, _, [], _, [], hW', trodAll_mk1 (shut_bool Try.underlying4 _), (trodAll_cons_mk (Below.trod laidOut (by kernel_rfl) (of_decide_eq_true (by kernel_rfl)) k0 bel (trod_lt k0)) (trodAll_cons_mk (Below.trod laidOut (by kernel_rfl) (of_decide_eq_true (by kernel_rfl)) k1 bel (trod_lt k1)) trodAll_mk0)), rfl, bel.frame _, fun h => by cases h⟩

set_option maxRecDepth 100000 in
theorem fact3 : (Rows.msgMasksRow.inPlace == Try.prog.inPlace 14) = true := by kernel_rfl
set_option maxRecDepth 100000 in
theorem fact4 : (Rows.msgMasksRow.unfollowed == Try.prog.unfollowed 14) = true := by kernel_rfl
set_option maxRecDepth 100000 in
theorem fact5 : (Rows.msgMasksRow.recurses == Try.prog.recurses 14) = true := by kernel_rfl
set_option maxRecDepth 100000 in
theorem fact6 : (Rows.msgMasksRow.named == Try.prog.varsNamed 14) = true := by kernel_rfl
theorem proved : Rows.MsgMasksSaid :=
  OpenClaim.holds_of_wide 14 Try.f14 rfl rfl rfl rfl rfl rfl rfl ⟨rfl, rfl, rfl, rfl, rfl⟩ rfl rfl rfl rfl rfl (by kernel_rfl) Try.func14
    (joined_mk 14 Try.f14 Rows.msgMasksSpec Rows.msgMasksRow (by kernel_rfl) (by kernel_rfl) fact3 fact4 fact5 fact6 (by kernel_rfl) rfl rfl rfl rfl (by kernel_rfl))
    (of_decide_eq_true (by kernel_rfl)) (by unfold Func.isWrapper; first | (rw [if_pos (by decide +kernel)]; kernel_rfl) | (rw [if_neg (by decide +kernel)]; exact ⟨rfl, rfl⟩))
    (fun os started H enc _ => lifted os started H enc)
#print axioms proved
end Go.Proofs.Ytkhppojlabajaaa.lawMsgMasks
