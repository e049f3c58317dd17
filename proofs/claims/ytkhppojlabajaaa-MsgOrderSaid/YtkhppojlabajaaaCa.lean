/- close: Valid, Across; ref11: Valid, Across. -/
import Derived.Test.YtkhppojlabajaaaOw
import Derived.Test.YtkhppojlabajaaaBy
namespace Go.Proofs.Ytkhppojlabajaaa
open Go.RowKit
set_option linter.unusedSimpArgs false
set_option linter.unusedVariables false

/-- May a code be sent? -/
def valid11 (n : Int) : Bool := decide ((1000 ≤ n ∧ n ≤ 1003) ∨ (1007 ≤ n ∧ n ≤ 1011) ∨ (3000 ≤ n ∧ n ≤ 4999))
set_option maxRecDepth 100000 in
theorem c_in (a b n : Int) (r : Bool) (hr : decide (a ≤ n ∧ n ≤ b) = r) (g : Nat) (w : World) (hb : Blk w g 3 #[.int .i64 n]) :
    Calls Try.prog 77 #[.int .i64 a, .int .i64 b, .pointer (some ⟨g, 0, none⟩)] w fun e w' => e = .returned (.bool r) ∧ w = w' := by
  have b0 := hb.cell 0
  simp at b0
  have hlt := hb.lt
  clear hb
  by_cases h : a ≤ n
  · by_cases h2 : n ≤ b
    · obtain rfl : r = true := by rw [← hr]; exact decide_eq_true ⟨h, h2⟩
      clear hr
      go_enter Try.func77, Try.ntmps77
      go_wp2
      go_ret
      exact ⟨rfl, rfl⟩
    · obtain rfl : r = false := by rw [← hr]; exact decide_eq_false (fun h' => h2 h'.2)
      clear hr
      go_enter Try.func77, Try.ntmps77
      go_wp2
      go_ret
      exact ⟨rfl, rfl⟩
  · obtain rfl : r = false := by rw [← hr]; exact decide_eq_false (fun h' => h h'.1)
    clear hr
    go_enter Try.func77, Try.ntmps77
    go_wp2
    go_ret
    exact ⟨rfl, rfl⟩

set_option maxHeartbeats 1600000 in
set_option maxRecDepth 100000 in
theorem c_valid (n : Int) (w : World) : Calls Try.prog 73 #[.int .i64 n] w fun e w' => e = .returned (.bool (valid11 n)) ∧ Touch NoS w w' := by
  have hmf : ∀ (fn : Fn) (first cap : Array Value) (w : World), (Instr.makeFunc fn first cap).run Try.prog w = .ok (.func fn first cap) w := fun _ _ _ _ => rfl
  have HI := Lib.hid (fun a b r hr => c_in a b n r hr w.heap.size (w.alloc (.cells #[.int .i64 n] 3)) (Blk.new _ _ _))
  have HT : Hid (Touch NoS w (w.alloc (.cells #[.int .i64 n] 3))) := (Touch.refl _ _).alloc _
  by_cases h1 : 1000 ≤ n ∧ n ≤ 1003
  · rw [show valid11 n = true from decide_eq_true (.inl h1)]
    have H1 := Lib.hid (decide_eq_true h1)
    clear h1
    go_enter Try.func73, Try.ntmps73
    go_wp2_with fail
    refine (HI.out 1000 1003 true H1.out).mono ?_
    rintro e w2 ⟨rfl, rfl⟩
    go_wp2
    go_ret
    exact ⟨rfl, HT.out⟩
  by_cases h2 : 1007 ≤ n ∧ n ≤ 1011
  · rw [show valid11 n = true from decide_eq_true (.inr (.inl h2))]
    have H1 := Lib.hid (decide_eq_false h1)
    have H2 := Lib.hid (decide_eq_true h2)
    clear h1 h2
    go_enter Try.func73, Try.ntmps73
    go_wp2_with fail
    refine (HI.out 1000 1003 false H1.out).mono ?_
    rintro e w2 ⟨rfl, rfl⟩
    go_wp2_with fail
    refine (HI.out 1007 1011 true H2.out).mono ?_
    rintro e w2 ⟨rfl, rfl⟩
    go_wp2
    go_ret
    exact ⟨rfl, HT.out⟩
  obtain ⟨r, hr⟩ : ∃ r, r = decide (3000 ≤ n ∧ n ≤ 4999) := ⟨_, rfl⟩
  have hv : valid11 n = r := by
    unfold valid11
    rw [hr]
    by_cases h3 : 3000 ≤ n ∧ n ≤ 4999
    · rw [decide_eq_true h3, decide_eq_true (.inr (.inr h3))]
    · rw [decide_eq_false h3, decide_eq_false (by omega)]
  rw [hv]
  have H1 := Lib.hid (decide_eq_false h1)
  have H2 := Lib.hid (decide_eq_false h2)
  have H3 := Lib.hid hr.symm
  clear h1 h2 hr hv
  go_enter Try.func73, Try.ntmps73
  go_wp2_with fail
  refine (HI.out 1000 1003 false H1.out).mono ?_
  rintro e w2 ⟨rfl, rfl⟩
  go_wp2_with fail
  refine (HI.out 1007 1011 false H2.out).mono ?_
  rintro e w2 ⟨rfl, rfl⟩
  go_wp2_with fail
  refine (HI.out 3000 4999 r H3.out).mono ?_
  rintro e w2 ⟨rfl, rfl⟩
  go_wp2
  go_ret
  exact ⟨rfl, HT.out⟩

end Go.Proofs.Ytkhppojlabajaaa
