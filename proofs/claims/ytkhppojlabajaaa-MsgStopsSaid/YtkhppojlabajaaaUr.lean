/- The checker's Right. -/
import Derived.Test.YtkhppojlabajaaaUa
namespace Go.Proofs.Ytkhppojlabajaaa
open Go.RowKit
set_option linter.unusedSimpArgs false
set_option linter.unusedVariables false

theorem u_right (g : Nat) (c : Uc) (w : World) (h : IsU w g c) : Calls Try.prog 65 #[.pointer (some ⟨g, 0, none⟩)] w fun e w' => e = .returned (.bool (!c.bad)) ∧ w = w' := by
  have h3 := h.cell 4
  simp [Uc.cs] at h3
  go_enter Try.func65, Try.ntmps65
  go_wp2
  go_ret
  exact ⟨rfl, rfl⟩
theorem u_reset (g : Nat) (c : Uc) (w : World) (h : IsU w g c) : Calls Try.prog 62 #[.pointer (some ⟨g, 0, none⟩)] w fun e w' => e = .returned (.tuple #[]) ∧ IsU w' g Uc.new ∧ Touch (At g) w w' := by
  have h0 := h.cell 0
  have h1 := h.cell 1
  have h2 := h.cell 2
  have h3 := h.cell 3
  have h4 := h.cell 4
  have f0 := h.frozen 0
  have f1 := h.frozen 1
  have f2 := h.frozen 2
  have f3 := h.frozen 3
  have f4 := h.frozen 4
  simp [Uc.cs] at h0 h1 h2 h3 h4
  have HB := Lib.hid h
  clear h
  go_enter Try.func62, Try.ntmps62
  go_wp2
  go_end0
  refine ⟨rfl, ?_, ((((((Touch.refl _ _).setAt _ _).setAt _ _).setAt _ _).setAt _ _).setAt _ _)⟩
  have := ((((HB.out.set_ 0 (.int .i64 0)).set_ 1 (.int .u8 0)).set_ 2 (.int .u8 0)).set_ 3 (.int .i64 0)).set_ 4 (.bool false)
  simpa [Uc.cs, IsU, Uc.new] using this
end Go.Proofs.Ytkhppojlabajaaa
