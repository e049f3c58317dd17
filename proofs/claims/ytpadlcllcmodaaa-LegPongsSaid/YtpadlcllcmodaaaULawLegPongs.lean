/- each ping is answered by a pong with its data, or the newest one of those that came meanwhile; and nothing is told of it No condition: every input that can be read as data. -/
import Derived.Test.YtpadlcllcmodaaaU08
import Derived.Test.YtpadlcllcmodaaaY01
namespace Go.Proofs.Ytpadlcllcmodaaa.lawLegPongs
open Go.ChangeShapes Go.WideShapes Go.ChangeAt Go.RowKit
open Go.ChangeMaps (open_string shut_string)
set_option linter.unusedVariables false
set_option linter.unusedSimpArgs false

set_option maxRecDepth 100000 in
theorem lifted (os : Os) (started : os.Started) (H : Type) (enc : TypeId × Value → H) :
    ReturnsInHanded {} Try.checked os 6 .any (Rows.legPongsSpec.pre6 enc Try.prog Try.f6 Rows.legPongsRow.domain false) (Rows.legPongsSpec.post enc Try.prog Try.f6 false true false false) := by
  refine returnsInHanded_of_change (C := Try.checked) own started (by kernel_rfl) Try.func6
    (ChangeSpec.witness6 (enc := enc) (C := Try.checked) false ⟨#[], #[.slice none 0 0, .slice none 0 0], []⟩ 8 (by kernel_rfl) (by kernel_rfl) (by kernel_rfl) (by kernel_rfl)) ?_
  intro W base args ds gs before hval0 hW hcnd _
  have hval : ∀ (j : Nat) t v, Try.f6.params[j]? = some t → args[j]? = some v → Value.okWide Try.prog W .any base t v := hval0
  have hW' := hW
  obtain ⟨p, q, hA0, hV, rfl, hfz, hnd⟩ := hW
  have hA : DataW.TrodAll enc Try.prog W 0 (fun _ => true) true Try.f6.params.toList args.toList ds p := hA0
  rw [Try.params6] at hA hval
  obtain ⟨v0, vs0, d0, ds0, p0, q0, hargs, rfl, rfl, h0, rr0⟩ := trodAll_cons hA
  obtain ⟨v1, vs1, d1, ds1, p1, q1, rfl, rfl, rfl, h1, rr1⟩ := trodAll_cons rr0
  obtain ⟨rfl, rfl, rfl⟩ := trodAll_nil rr1
  obtain rfl : args = #[v0, v1] := by cases args; simp_all
  obtain ⟨rfl, rfl⟩ := trodVars_none hV
  obtain ⟨A0, n0, c0, rfl⟩ := okWide_slice Try.underlying22 (hval 0 22 v0 rfl rfl)
  have k0 := h0
  obtain ⟨l0, rfl, r0, g0, lc0, cc0⟩ := (open_str Try.underlying22 Try.underlying9 (by kernel_rfl)) h0
  obtain ⟨A1, n1, c1, rfl⟩ := okWide_slice Try.underlying36 (hval 1 36 v1 rfl rfl)
  have k1 := h1
  obtain ⟨l1, rfl, r1, g1, lc1, cc1⟩ := (open_num Try.underlying36 Try.underlying5 (by kernel_rfl)) h1
  clear hA0 hval0
  refine (pongs16_row W A0 l0 c0 r0 g0 lc0 cc0 A1 l1 c1 r1 g1 lc1 cc1).mono fun e W' ⟨he, ht⟩ => ?_
  have bel := ht.below
  subst he
  exact ⟨_, rfl, _, _, _, [], _, [], hW', trodAll_mk1 (shut_bool Try.underlying4 _), (trodAll_cons_mk (Below.trod laidOut (by kernel_rfl) (of_decide_eq_true (by kernel_rfl)) k0 bel (trod_lt k0)) (trodAll_cons_mk (Below.trod laidOut (by kernel_rfl) (of_decide_eq_true (by kernel_rfl)) k1 bel (trod_lt k1)) trodAll_mk0)), rfl, bel.frame _, fun h => by cases h⟩

set_option maxRecDepth 100000 in
theorem fact3 : (Rows.legPongsRow.inPlace == Try.prog.inPlace 6) = true := by kernel_rfl
set_option maxRecDepth 100000 in
theorem fact4 : (Rows.legPongsRow.unfollowed == Try.prog.unfollowed 6) = true := by kernel_rfl
set_option maxRecDepth 100000 in
theorem fact5 : (Rows.legPongsRow.recurses == Try.prog.recurses 6) = true := by kernel_rfl
set_option maxRecDepth 100000 in
theorem fact6 : (Rows.legPongsRow.named == Try.prog.varsNamed 6) = true := by kernel_rfl
theorem proved : Rows.LegPongsSaid :=
  OpenClaim.holds_of_wide 6 Try.f6 rfl rfl rfl rfl rfl rfl rfl ⟨rfl, rfl, rfl, rfl, rfl⟩ rfl rfl rfl rfl rfl (by kernel_rfl) Try.func6
    (joined_mk 6 Try.f6 Rows.legPongsSpec Rows.legPongsRow (by kernel_rfl) (by kernel_rfl) fact3 fact4 fact5 fact6 (by kernel_rfl) rfl rfl rfl rfl (by kernel_rfl))
    (of_decide_eq_true (by kernel_rfl)) (by unfold Func.isWrapper; first | (rw [if_pos (by decide +kernel)]; kernel_rfl) | (rw [if_neg (by decide +kernel)]; exact ⟨rfl, rfl⟩))
    (fun os started H enc _ => lifted os started H enc)
#print axioms proved
end Go.Proofs.Ytpadlcllcmodaaa.lawLegPongs
