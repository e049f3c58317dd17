/- Slice expressions of rows that came in: the new address under a name. -/
import Derived.Test.YtkhppojlabajaaaBy
namespace Go.Proofs.Ytkhppojlabajaaa
open Go.RowKit
set_option linter.unusedSimpArgs false
set_option linter.unusedVariables false

theorem Rd.take {w : World} {A : Option Addr} {xs : List Value} (h : Rd w A xs) (j : Nat) : Rd w A (xs.take j) := fun hx => by
  obtain ⟨g, off, hA, hg, hc⟩ := h (fun he => hx (by rw [he]; simp))
  exact ⟨g, off, hA, hg, fun i u hu => by rw [List.getElem?_take] at hu; split at hu; exact hc i u hu; cases hu⟩
theorem Rd.drop {w : World} {g off : Nat} {xs : List Value} (h : Rd w (some ⟨g, off, none⟩) xs) (j : Nat) : Rd w (some ⟨g, off + j, none⟩) (xs.drop j) := fun hx => by
  obtain ⟨g', off', hA, hg, hc⟩ := h (fun he => hx (by rw [he]; simp))
  injection hA with hA
  injection hA with h1 h2
  subst h1 h2
  exact ⟨g, off + j, rfl, hg, fun i u hu => by rw [List.getElem?_drop] at hu; rw [Nat.add_assoc]; exact hc _ u hu⟩
theorem Rd.none_nil {w : World} {xs : List Value} (h : Rd w none xs) : xs = [] := by
  rcases xs with _ | ⟨u, l⟩
  · rfl
  · obtain ⟨g, off, hA, _⟩ := h (by simp)
    cases hA
section
variable {T E : TypeId} (hT : Try.prog.underlying T = some (.slice E)) {sz : Nat} (hsz : ∀ W, (sizeOf E).run Try.prog W = .ok sz W)
include hT hsz
theorem sl_any {w : World} {A : Option Addr} {xs : List Value} {n c : Nat} (h : Rd w A xs) (hx : xs.length = n * sz) (hc : n ≤ c) (a b : Int) (k m : Nat) (ha : a = k) (hb : b = m) (hkm : k ≤ m) (hm : m ≤ n) :
    ∃ A', (∀ W, (Instr.slice T (.slice A n c) (some (.int .i64 a)) (some (.int .i64 b)) none).run Try.prog W = .ok (.slice A' (m - k) (c - k)) W) ∧ (m = n → ∀ W, (Instr.slice T (.slice A n c) (some (.int .i64 a)) none none).run Try.prog W = .ok (.slice A' (n - k) (c - k)) W) ∧
      Rd w A' ((xs.take (m * sz)).drop (k * sz)) := by
  subst ha hb
  have he : Try.prog.elem T = E := by simp [Program.elem, hT]
  have hT' : Try.prog.underlying T = some (.slice (Try.prog.elem T)) := by rw [he]; exact hT
  by_cases hck : c = k
  · refine ⟨A, fun W => ?_, fun hmn W => ?_, ?_⟩
    · rw [run_slice_lh W T A n c hT' .i64 .i64 k m (by omega) (by omega) (by omega), he, hsz]
      simp [sliced, hck]
    · rw [run_slice_l W T A n c hT' .i64 k (by omega) (by omega), he, hsz]
      simp [sliced, hck]
    · have hl : ((xs.take (m * sz)).drop (k * sz)) = [] := List.drop_of_length_le (by rw [List.length_take, hx]; have := Nat.mul_le_mul_right sz (show m ≤ k by omega); omega)
      rw [hl]
      exact fun h => absurd rfl h
  · rcases A with _ | ⟨g, off, spot⟩
    · refine ⟨none, fun W => ?_, fun hmn W => ?_, ?_⟩
      · rw [run_slice_lh W T none n c hT' .i64 .i64 k m (by omega) (by omega) (by omega), he, hsz]
        simp [sliced]
      · rw [run_slice_l W T none n c hT' .i64 k (by omega) (by omega), he, hsz]
        simp [sliced]
      · have := h.none_nil
        subst this
        intro hne
        simp at hne
    · refine ⟨some ((⟨g, off, spot⟩ : Addr).add (k * sz)), fun W => ?_, fun hmn W => ?_, ?_⟩
      · rw [run_slice_lh W T _ n c hT' .i64 .i64 k m (by omega) (by omega) (by omega), he, hsz]
        simp [sliced, hck]
      · rw [run_slice_l W T _ n c hT' .i64 k (by omega) (by omega), he, hsz]
        simp [sliced, hck]
      · intro hne
        have h1 : xs ≠ [] := fun he => hne (by rw [he]; simp)
        obtain ⟨g', off', hA, _⟩ := h h1
        injection hA with hA
        injection hA with _ _ h3
        subst h3
        rw [add_plain]
        exact (h.take _).drop _ hne
end
theorem size_fr (w : World) : (sizeOf 44).run Try.prog w = .ok 8 w := by kernel_rfl
end Go.Proofs.Ytkhppojlabajaaa
