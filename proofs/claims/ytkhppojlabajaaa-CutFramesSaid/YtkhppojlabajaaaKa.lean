/- cut: Count. -/
import Derived.Test.YtkhppojlabajaaaOw
namespace Go.Proofs.Ytkhppojlabajaaa
open Go.RowKit
set_option linter.unusedSimpArgs false
set_option linter.unusedVariables false

/-- How many frames a message is. -/
def count13 (size most : Int) : Int := if size < 0 ∨ 1048576 < size ∨ most < 1 ∨ 65536 < most then 0 else max ((size + most - 1) / most) 1
set_option maxHeartbeats 1600000 in
set_option maxRecDepth 100000 in
theorem k_count (size most : Int) (w : World) : Calls Try.prog 21 #[.int .i64 size, .int .i64 most] w fun e w' => e = .returned (.int .i64 (count13 size most)) ∧ w = w' := by
  by_cases h1 : size < 0
  · rw [show count13 size most = 0 from if_pos (.inl h1)]
    go_enter Try.func21, Try.ntmps21
    go_wp2
    go_ret
    exact ⟨rfl, rfl⟩
  by_cases h2 : 1048576 < size
  · rw [show count13 size most = 0 from if_pos (.inr (.inl h2))]
    have h1' : 0 ≤ size := by omega
    clear h1
    go_enter Try.func21, Try.ntmps21
    go_wp2
    go_ret
    exact ⟨rfl, rfl⟩
  have h1' : 0 ≤ size := by omega
  have h2' : size ≤ 1048576 := by omega
  by_cases h3 : most < 1
  · rw [show count13 size most = 0 from if_pos (.inr (.inr (.inl h3)))]
    clear h1 h2
    go_enter Try.func21, Try.ntmps21
    go_wp2
    go_ret
    exact ⟨rfl, rfl⟩
  have h3' : 1 ≤ most := by omega
  by_cases h4 : 65536 < most
  · rw [show count13 size most = 0 from if_pos (.inr (.inr (.inr h4)))]
    clear h1 h2 h3
    go_enter Try.func21, Try.ntmps21
    go_wp2
    go_ret
    exact ⟨rfl, rfl⟩
  have h4' : most ≤ 65536 := by omega
  have hc : count13 size most = max ((size + most - 1) / most) 1 := if_neg (by omega)
  rw [hc]
  obtain ⟨q, hq⟩ : ∃ q, q = (size + most - 1) / most := ⟨_, rfl⟩
  rw [← hq]
  have hw1 : IntKind.i64.wrap (size + most) = size + most := IntWalk.i64_in _ (by omega)
  have hw2 : IntKind.i64.wrap (size + most - 1) = size + most - 1 := IntWalk.i64_in _ (by omega)
  have hq0 : 0 ≤ q := by rw [hq]; exact Int.ediv_nonneg (by omega) (by omega)
  have hq1 : q ≤ size + most - 1 := by rw [hq]; exact Int.ediv_le_self _ (by omega)
  have ht : (size + most - 1).tdiv most = q := by rw [Int.tdiv_eq_ediv_of_nonneg (by omega), hq]
  have hw3 : IntKind.i64.wrap q = q := IntWalk.i64_in _ (by omega)
  have hne : ¬ most = 0 := by omega
  have hneb : (most == 0) = false := by rw [beq_eq_false_iff_ne]; exact hne
  clear h1 h2 h3 h4 hc hq
  go_enter Try.func21, Try.ntmps21
  go_wp2
  go_ret
  exact ⟨rfl, rfl⟩
end Go.Proofs.Ytkhppojlabajaaa
