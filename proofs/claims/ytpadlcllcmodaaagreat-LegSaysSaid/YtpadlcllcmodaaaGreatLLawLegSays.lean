/- Proved: the law LegSays returns true for every input: what goes out is frames, masked as they must be; their messages are those that were sent, in order, the last one perhaps not to its end. No condition: every input that can be read as data. -/
import Derived.Test.YtpadlcllcmodaaaGreatL01
import Derived.Test.YtpadlcllcmodaaaGreatG03
import Derived.Test.YtpadlcllcmodaaaGreatG01
namespace Go.Proofs.YtpadlcllcmodaaaGreat.lawLegSays
open Go.ChangeShapes Go.WideShapes Go.ChangeAt Go.RowKit
open Go.ChangeMaps (open_string shut_string)
set_option linter.unusedVariables false
set_option linter.unusedSimpArgs false

set_option maxRecDepth 100000 in
theorem lifted (os : Os) (started : os.Started) (H : Type) (enc : TypeId × Value → H) :
    ReturnsInHanded {} Tryz.checked os 4 .any (Rows.legSaysSpec.pre6 enc Tryz.prog Tryz.f4 Rows.legSaysRow.domain false) (Rows.legSaysSpec.post enc Tryz.prog Tryz.f4 false true false false) := by
  refine returnsInHanded_of_change (C := Tryz.checked) own started (by kernel_rfl) Tryz.func4
    (ChangeSpec.witness6 (enc := enc) (C := Tryz.checked) false ⟨#[], #[.agg #[.int .u8 0, .int .u8 0, .int .u8 0], .bool false, .int .u32 0, .slice none 0 0], []⟩ 8 (by kernel_rfl) (by kernel_rfl) (by kernel_rfl) (by kernel_rfl)) ?_
  intro W base args ds gs before hval0 hW hcnd _
  have hval : ∀ (j : Nat) t v, Tryz.f4.params[j]? = some t → args[j]? = some v → Value.okWide Tryz.prog W .any base t v := hval0
  have hW' := hW
  obtain ⟨p, q, hA0, hV, rfl, hfz, hnd⟩ := hW
  have hA : DataW.TrodAll enc Tryz.prog W 0 (fun _ => true) true Tryz.f4.params.toList args.toList ds p := hA0
  rw [Tryz.params4] at hA hval
  obtain ⟨v0, vs0, d0, ds0, p0, q0, hargs, rfl, rfl, h0, rr0⟩ := trodAll_cons hA
  obtain ⟨v1, vs1, d1, ds1, p1, q1, rfl, rfl, rfl, h1, rr1⟩ := trodAll_cons rr0
  obtain ⟨v2, vs2, d2, ds2, p2, q2, rfl, rfl, rfl, h2, rr2⟩ := trodAll_cons rr1
  obtain ⟨v3, vs3, d3, ds3, p3, q3, rfl, rfl, rfl, h3, rr3⟩ := trodAll_cons rr2
  obtain ⟨rfl, rfl, rfl⟩ := trodAll_nil rr3
  obtain rfl : args = #[v0, v1, v2, v3] := by cases args; simp_all
  obtain ⟨rfl, rfl⟩ := trodVars_none hV
  obtain ⟨s0, rfl, _⟩ := okWide_array Tryz.underlying45 (hval 0 45 v0 rfl rfl)
  have k0 := h0
  obtain ⟨⟨x0a, x0b, x0c⟩, rfl, g0⟩ := open_val dec_three h0
  obtain ⟨x1, rfl, rfl, rfl⟩ := open_bool Tryz.underlying4 (hval 1 4 v1 rfl rfl) h1
  obtain ⟨x2, rfl, rfl, rfl, g2⟩ := open_int Tryz.underlying26 (hval 2 26 v2 rfl rfl) h2
  obtain ⟨A3, n3, c3, rfl⟩ := okWide_slice Tryz.underlying27 (hval 3 27 v3 rfl rfl)
  have k3 := h3
  obtain ⟨l3, rfl, r3, g3, lc3, cc3⟩ := open_acts h3
  clear hA0 hval0
  refine (says16_row W x0a x0b x0c g0 x1 x2 g2 A3 l3 c3 r3 g3 lc3 cc3).mono fun e W' ⟨he, ht⟩ => ?_
  have bel := ht.below
  subst he
  exact ⟨_, rfl, _, _, _, [], _, [], hW', trodAll_mk1 (shut_bool Tryz.underlying4 _), (trodAll_cons_mk (Below.trod laidOut (by kernel_rfl) (of_decide_eq_true (by kernel_rfl)) k0 bel (trod_lt k0)) (trodAll_cons_mk (shut_bool Tryz.underlying4 x1) (trodAll_cons_mk (shut_int Tryz.underlying26 g2) (trodAll_cons_mk (Below.trod laidOut (by kernel_rfl) (of_decide_eq_true (by kernel_rfl)) k3 bel (trod_lt k3)) trodAll_mk0)))), rfl, bel.frame _, fun h => by cases h⟩

set_option maxRecDepth 100000 in
theorem fact3 : (Rows.legSaysRow.inPlace == Tryz.prog.inPlace 4) = true := by kernel_rfl
set_option maxRecDepth 100000 in
theorem fact4 : (Rows.legSaysRow.unfollowed == Tryz.prog.unfollowed 4) = true := by kernel_rfl
set_option maxRecDepth 100000 in
theorem fact5 : (Rows.legSaysRow.recurses == Tryz.prog.recurses 4) = true := by kernel_rfl
set_option maxRecDepth 100000 in
theorem fact6 : (Rows.legSaysRow.named == Tryz.prog.varsNamed 4) = true := by kernel_rfl
theorem proved : Rows.LegSaysSaid :=
  OpenClaim.holds_of_wide 4 Tryz.f4 rfl rfl rfl rfl rfl rfl rfl ⟨rfl, rfl, rfl, rfl, rfl⟩ rfl rfl rfl rfl rfl (by kernel_rfl) Tryz.func4
    (joined_mk 4 Tryz.f4 Rows.legSaysSpec Rows.legSaysRow (by kernel_rfl) (by kernel_rfl) fact3 fact4 fact5 fact6 (by kernel_rfl) rfl rfl rfl rfl (by kernel_rfl))
    (of_decide_eq_true (by kernel_rfl)) (by unfold Func.isWrapper; first | (rw [if_pos (by decide +kernel)]; kernel_rfl) | (rw [if_neg (by decide +kernel)]; exact ⟨rfl, rfl⟩))
    (fun os started H enc _ => lifted os started H enc)
#print axioms proved
end Go.Proofs.YtpadlcllcmodaaaGreat.lawLegSays
