/- close: Put. -/
import Derived.Test.YtkhppojlabajaaaCa
import Derived.Test.YtkhppojlabajaaaUd
import Derived.Test.YtkhppojlabajaaaFc
namespace Go.Proofs.Ytkhppojlabajaaa
open Go.RowKit
set_option linter.unusedSimpArgs false
set_option linter.unusedVariables false

/-- Are bytes letters? -/
def lets (s : ByteArray) : Bool := (ucount (sb s)).2
theorem lets_eq (s : ByteArray) : lets s = (ufeed Uc.new (sb s)).1.whole := by
  unfold lets ucount
  cases h : (ufeed Uc.new (sb s)).1.whole <;> rfl
theorem valid11_le {n : Int} (h : valid11 n = true) : 1000 ≤ n ∧ n ≤ 4999 := by
  have := of_decide_eq_true h
  omega

end Go.Proofs.Ytkhppojlabajaaa
