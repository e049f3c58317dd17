/- Proved: the law LegBoth returns true for every input: what one side sends another one reads: messages are themselves, an end is an end. No condition: every input that can be read as data. -/
import Derived.Test.YtpadlcllcmodaaaV07
import Derived.Test.YtpadlcllcmodaaaY05
import Derived.Test.YtpadlcllcmodaaaV06
import Derived.Test.YtpadlcllcmodaaaY01
namespace Go.Proofs.Ytpadlcllcmodaaa.lawLegBoth
open Go.ChangeShapes Go.WideShapes Go.ChangeAt Go.RowKit
open Go.ChangeMaps (open_string shut_string)
set_option linter.unusedVariables false
set_option linter.unusedSimpArgs false

set_option maxRecDepth 100000 in
theorem lifted (os : Os) (started : os.Started) (H : Type) (enc : TypeId × Value → H) :
    ReturnsInHanded {} Try.checked os 5 .any (Rows.legBothSpec.pre6 enc Try.prog Try.f5 Rows.legBothRow.domain false) (Rows.legBothSpec.post enc Try.prog Try.f5 false true false false) := by
  refine returnsInHanded_of_change (C := Try.checked) own started (by kernel_rfl) Try.func5
    (ChangeSpec.witness6 (enc := enc) (C := Try.checked) false ⟨#[], #[.agg #[.int .u8 0, .int .u8 0, .int .u8 0], .slice none 0 0, .int .u32 0, .int .u8 0, .int .i64 0], []⟩ 8 (by kernel_rfl) (by kernel_rfl) (by kernel_rfl) (by kernel_rfl)) ?_
  intro W base args ds gs before hval0 hW hcnd _
  have hval : ∀ (j : Nat) t v, Try.f5.params[j]? = some t → args[j]? = some v → Value.okWide Try.prog W .any base t v := hval0
  have hW' := hW
  obtain ⟨p, q, hA0, hV, rfl, hfz, hnd⟩ := hW
  have hA : DataW.TrodAll enc Try.prog W 0 (fun _ => true) true Try.f5.params.toList args.toList ds p := hA0
  rw [Try.params5] at hA hval
  obtain ⟨v0, vs0, d0, ds0, p0, q0, hargs, rfl, rfl, h0, rr0⟩ := trodAll_cons hA
  obtain ⟨v1, vs1, d1, ds1, p1, q1, rfl, rfl, rfl, h1, rr1⟩ := trodAll_cons rr0
  obtain ⟨v2, vs2, d2, ds2, p2, q2, rfl, rfl, rfl, h2, rr2⟩ := trodAll_cons rr1
  obtain ⟨v3, vs3, d3, ds3, p3, q3, rfl, rfl, rfl, h3, rr3⟩ := trodAll_cons rr2
  obtain ⟨v4, vs4, d4, ds4, p4, q4, rfl, rfl, rfl, h4, rr4⟩ := trodAll_cons rr3
  obtain ⟨rfl, rfl, rfl⟩ := trodAll_nil rr4
  obtain rfl : args = #[v0, v1, v2, v3, v4] := by cases args; simp_all
  obtain ⟨rfl, rfl⟩ := trodVars_none hV
  obtain ⟨s0, rfl, _⟩ := okWide_array Try.underlying40 (hval 0 40 v0 rfl rfl)
  have k0 := h0
  obtain ⟨⟨x0a, x0b, x0c⟩, rfl, g0⟩ := open_val dec_three h0
  obtain ⟨A1, n1, c1, rfl⟩ := okWide_slice Try.underlying34 (hval 1 34 v1 rfl rfl)
  have k1 := h1
  obtain ⟨l1, rfl, r1, g1, lc1, cc1⟩ := open_evs h1
  obtain ⟨x2, rfl, rfl, rfl, g2⟩ := open_int Try.underlying31 (hval 2 31 v2 rfl rfl) h2
  obtain ⟨x3, rfl, rfl, rfl, g3⟩ := open_int Try.underlying5 (hval 3 5 v3 rfl rfl) h3
  obtain ⟨x4, rfl, rfl, rfl, g4⟩ := open_int Try.underlying3 (hval 4 3 v4 rfl rfl) h4
  clear hA0 hval0
  refine (both16_row W x0a x0b x0c g0 A1 l1 c1 r1 g1 lc1 cc1 x2 g2 x3 g3 x4 g4).mono fun e W' ⟨he, ht⟩ => ?_
  have bel := ht.below
  subst he
  exact ⟨_, rfl, _, _, _, [], _, [], hW', trodAll_mk1 (shut_bool Try.underlying4 _), (trodAll_cons_mk (Below.trod laidOut (by kernel_rfl) (of_decide_eq_true (by kernel_rfl)) k0 bel (trod_lt k0)) (trodAll_cons_mk (Below.trod laidOut (by kernel_rfl) (of_decide_eq_true (by kernel_rfl)) k1 bel (trod_lt k1)) (trodAll_cons_mk (shut_int Try.underlying31 g2) (trodAll_cons_mk (shut_int Try.underlying5 g3) (trodAll_cons_mk (shut_int Try.underlying3 g4) trodAll_mk0))))), rfl, bel.frame _, fun h => by cases h⟩

set_option maxRecDepth 100000 in
theorem fact3 : (Rows.legBothRow.inPlace == Try.prog.inPlace 5) = true := by kernel_rfl
set_option maxRecDepth 100000 in
theorem fact4 : (Rows.legBothRow.unfollowed == Try.prog.unfollowed 5) = true := by kernel_rfl
set_option maxRecDepth 100000 in
theorem fact5 : (Rows.legBothRow.recurses == Try.prog.recurses 5) = true := by kernel_rfl
set_option maxRecDepth 100000 in
theorem fact6 : (Rows.legBothRow.named == Try.prog.varsNamed 5) = true := by kernel_rfl
theorem proved : Rows.LegBothSaid :=
  OpenClaim.holds_of_wide 5 Try.f5 rfl rfl rfl rfl rfl rfl rfl ⟨rfl, rfl, rfl, rfl, rfl⟩ rfl rfl rfl rfl rfl (by kernel_rfl) Try.func5
    (joined_mk 5 Try.f5 Rows.legBothSpec Rows.legBothRow (by kernel_rfl) (by kernel_rfl) fact3 fact4 fact5 fact6 (by kernel_rfl) rfl rfl rfl rfl (by kernel_rfl))
    (of_decide_eq_true (by kernel_rfl)) (by unfold Func.isWrapper; first | (rw [if_pos (by decide +kernel)]; kernel_rfl) | (rw [if_neg (by decide +kernel)]; exact ⟨rfl, rfl⟩))
    (fun os started H enc _ => lifted os started H enc)
#print axioms proved
end Go.Proofs.Ytpadlcllcmodaaa.lawLegBoth
