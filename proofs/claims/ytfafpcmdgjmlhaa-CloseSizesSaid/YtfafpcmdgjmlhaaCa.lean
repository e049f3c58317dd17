/- close: Valid, Across; ref11: Valid, Across. -/
import Derived.Test.YtfafpcmdgjmlhaaOw
import Derived.Test.YtfafpcmdgjmlhaaBy
namespace Go.Proofs.Ytfafpcmdgjmlhaa
open Go.RowKit
set_option linter.unusedSimpArgs false
set_option linter.unusedVariables false

/-- May a code be sent? -/
def valid11 (n : Int) : Bool := decide ((1000 ≤ n ∧ n ≤ 1003) ∨ (1007 ≤ n ∧ n ≤ 1011) ∨ (3000 ≤ n ∧ n ≤ 4999))
set_option maxRecDepth 100000 in
theorem c_in (a b n : Int) (r : Bool) (hr : decide (a ≤ n ∧ n ≤ b) = r) (g : Nat) (w : World) (hb : Blk w g 3 #[.int .i64 n]) :
    Calls Try.prog 60 #[.int .i64 a, .int .i64 b, .pointer (some ⟨g, 0, none⟩)] w fun e w' => e = .returned (.bool r) ∧ w = w' := by
  have b0 := hb.cell 0
  simp at b0
  have hlt := hb.lt
  clear hb
  by_cases h : a ≤ n
  · by_cases h2 : n ≤ b
    · obtain rfl : r = true := by rw [← hr]; exact decide_eq_true ⟨h, h2⟩
      clear hr
      go_enter Try.func60, Try.ntmps60
      go_wp2
      go_ret
      exact ⟨rfl, rfl⟩
    · obtain rfl : r = false := by rw [← hr]; exact decide_eq_false (fun h' => h2 h'.2)
      clear hr
      go_enter Try.func60, Try.ntmps60
      go_wp2
      go_ret
      exact ⟨rfl, rfl⟩
  · obtain rfl : r = false := by rw [← hr]; exact decide_eq_false (fun h' => h h'.1)
    clear hr
    go_enter Try.func60, Try.ntmps60
    go_wp2
    go_ret
    exact ⟨rfl, rfl⟩

set_option maxHeartbeats 1600000 in
set_option maxRecDepth 100000 in
theorem c_valid (n : Int) (w : World) : Calls Try.prog 36 #[.int .i64 n] w fun e w' => e = .returned (.bool (valid11 n)) ∧ Touch NoS w w' := by
  have hmf : ∀ (fn : Fn) (first cap : Array Value) (w : World), (Instr.makeFunc fn first cap).run Try.prog w = .ok (.func fn first cap) w := fun _ _ _ _ => rfl
  have HI := Lib.hid (fun a b r hr => c_in a b n r hr w.heap.size (w.alloc (.cells #[.int .i64 n] 3)) (Blk.new _ _ _))
  have HT : Hid (Touch NoS w (w.alloc (.cells #[.int .i64 n] 3))) := (Touch.refl _ _).alloc _
  by_cases h1 : 1000 ≤ n ∧ n ≤ 1003
  · rw [show valid11 n = true from decide_eq_true (.inl h1)]
    have H1 := Lib.hid (decide_eq_true h1)
    clear h1
    go_enter Try.func36, Try.ntmps36
    go_wp2_with fail
    refine (HI.out 1000 1003 true H1.out).mono ?_
    rintro e w2 ⟨rfl, rfl⟩
    go_wp2
    go_ret
    exact ⟨rfl, HT.out⟩
  by_cases h2 : 1007 ≤ n ∧ n ≤ 1011
  · rw [show valid11 n = true from decide_eq_true (.inr (.inl h2))]
    have H1 := Lib.hid (decide_eq_false h1)
    have H2 := Lib.hid (decide_eq_true h2)
    clear h1 h2
    go_enter Try.func36, Try.ntmps36
    go_wp2_with fail
    refine (HI.out 1000 1003 false H1.out).mono ?_
    rintro e w2 ⟨rfl, rfl⟩
    go_wp2_with fail
    refine (HI.out 1007 1011 true H2.out).mono ?_
    rintro e w2 ⟨rfl, rfl⟩
    go_wp2
    go_ret
    exact ⟨rfl, HT.out⟩
  obtain ⟨r, hr⟩ : ∃ r, r = decide (3000 ≤ n ∧ n ≤ 4999) := ⟨_, rfl⟩
  have hv : valid11 n = r := by
    unfold valid11
    rw [hr]
    by_cases h3 : 3000 ≤ n ∧ n ≤ 4999
    · rw [decide_eq_true h3, decide_eq_true (.inr (.inr h3))]
    · rw [decide_eq_false h3, decide_eq_false (by omega)]
  rw [hv]
  have H1 := Lib.hid (decide_eq_false h1)
  have H2 := Lib.hid (decide_eq_false h2)
  have H3 := Lib.hid hr.symm
  clear h1 h2 hr hv
  go_enter Try.func36, Try.ntmps36
  go_wp2_with fail
  refine (HI.out 1000 1003 false H1.out).mono ?_
  rintro e w2 ⟨rfl, rfl⟩
  go_wp2_with fail
  refine (HI.out 1007 1011 false H2.out).mono ?_
  rintro e w2 ⟨rfl, rfl⟩
  go_wp2_with fail
  refine (HI.out 3000 4999 r H3.out).mono ?_
  rintro e w2 ⟨rfl, rfl⟩
  go_wp2
  go_ret
  exact ⟨rfl, HT.out⟩

set_option maxHeartbeats 3200000 in
set_option maxRecDepth 100000 in
theorem r11_valid (n : Int) (w : World) : Calls Try.prog 37 #[.int .i64 n] w fun e w' => e = .returned (.bool (valid11 n)) ∧ w = w' := by
  have hcase : n = 1000 ∨ n = 1001 ∨ n = 1002 ∨ n = 1003 ∨ n = 1007 ∨ n = 1008 ∨ n = 1009 ∨ n = 1010 ∨ n = 1011 ∨
    (n ≠ 1000 ∧ n ≠ 1001 ∧ n ≠ 1002 ∧ n ≠ 1003 ∧ n ≠ 1007 ∧ n ≠ 1008 ∧ n ≠ 1009 ∧ n ≠ 1010 ∧ n ≠ 1011) := by omega
  rcases hcase with rfl | rfl | rfl | rfl | rfl | rfl | rfl | rfl | rfl | ⟨h0, h1, h2, h3, h4, h5, h6, h7, h8⟩
  iterate 9
    · rw [show valid11 _ = true from by decide]
      go_enter Try.func37, Try.ntmps37
      go_wp2
      go_ret
      exact ⟨rfl, rfl⟩
  have q0 : (n == 1000) = false := by rw [beq_eq_false_iff_ne]; exact h0
  have q1 : (n == 1001) = false := by rw [beq_eq_false_iff_ne]; exact h1
  have q2 : (n == 1002) = false := by rw [beq_eq_false_iff_ne]; exact h2
  have q3 : (n == 1003) = false := by rw [beq_eq_false_iff_ne]; exact h3
  have q4 : (n == 1007) = false := by rw [beq_eq_false_iff_ne]; exact h4
  have q5 : (n == 1008) = false := by rw [beq_eq_false_iff_ne]; exact h5
  have q6 : (n == 1009) = false := by rw [beq_eq_false_iff_ne]; exact h6
  have q7 : (n == 1010) = false := by rw [beq_eq_false_iff_ne]; exact h7
  have q8 : (n == 1011) = false := by rw [beq_eq_false_iff_ne]; exact h8
  by_cases h : 3000 ≤ n
  · by_cases h' : n < 5000
    · rw [show valid11 n = true from decide_eq_true (by omega)]
      clear h0 h1 h2 h3 h4 h5 h6 h7 h8
      go_enter Try.func37, Try.ntmps37
      go_wp2
      go_ret
      exact ⟨rfl, rfl⟩
    · rw [show valid11 n = false from decide_eq_false (by omega)]
      clear h0 h1 h2 h3 h4 h5 h6 h7 h8
      go_enter Try.func37, Try.ntmps37
      go_wp2
      go_ret
      exact ⟨rfl, rfl⟩
  · rw [show valid11 n = false from decide_eq_false (by omega)]
    clear h0 h1 h2 h3 h4 h5 h6 h7 h8
    go_enter Try.func37, Try.ntmps37
    go_wp2
    go_ret
    exact ⟨rfl, rfl⟩

/-- By which code the other side is ended. -/
def across11 (n : Int) : Int := if n = 1005 then 0 else if valid11 n = true then n else 1011
theorem c_across (n : Int) (w : World) : Calls Try.prog 40 #[.int .i64 n] w fun e w' => e = .returned (.int .i64 (across11 n)) ∧ Touch NoS w w' := by
  have HV := Lib.hid (fun W => c_valid n W)
  by_cases h : n = 1005
  · subst h
    go_enter Try.func40, Try.ntmps40
    go_wp2
    go_ret
    exact ⟨rfl, Touch.refl _ _⟩
  have hq : (n == 1005) = false := by rw [beq_eq_false_iff_ne]; exact h
  cases hv : valid11 n with
  | true =>
    rw [show across11 n = n from by unfold across11; rw [if_neg h, if_pos hv]]
    rw [hv] at HV
    clear hv h
    go_enter Try.func40, Try.ntmps40
    go_wp2_with fail
    refine (HV.out _).mono ?_
    rintro e w1 ⟨rfl, ht⟩
    have HT := Lib.hid ht
    clear ht
    go_wp2
    go_ret
    exact ⟨rfl, HT.out⟩
  | false =>
    rw [show across11 n = 1011 from by unfold across11; rw [if_neg h, if_neg (by rw [hv]; simp)]]
    rw [hv] at HV
    clear hv h
    go_enter Try.func40, Try.ntmps40
    go_wp2_with fail
    refine (HV.out _).mono ?_
    rintro e w1 ⟨rfl, ht⟩
    have HT := Lib.hid ht
    clear ht
    go_wp2
    go_ret
    exact ⟨rfl, HT.out⟩
theorem r11_across (n : Int) (w : World) : Calls Try.prog 43 #[.int .i64 n] w fun e w' => e = .returned (.int .i64 (across11 n)) ∧ w = w' := by
  have HV := Lib.hid (fun W => r11_valid n W)
  by_cases h : n = 1005
  · subst h
    go_enter Try.func43, Try.ntmps43
    go_wp2
    go_ret
    exact ⟨rfl, rfl⟩
  have hq : (n == 1005) = false := by rw [beq_eq_false_iff_ne]; exact h
  cases hv : valid11 n with
  | true =>
    rw [show across11 n = n from by unfold across11; rw [if_neg h, if_pos hv]]
    rw [hv] at HV
    clear hv h
    go_enter Try.func43, Try.ntmps43
    go_wp2_with fail
    refine (HV.out _).mono ?_
    rintro e w1 ⟨rfl, rfl⟩
    go_wp2
    go_ret
    exact ⟨rfl, rfl⟩
  | false =>
    rw [show across11 n = 1011 from by unfold across11; rw [if_neg h, if_neg (by rw [hv]; simp)]]
    rw [hv] at HV
    clear hv h
    go_enter Try.func43, Try.ntmps43
    go_wp2_with fail
    refine (HV.out _).mono ?_
    rintro e w1 ⟨rfl, rfl⟩
    go_wp2
    go_ret
    exact ⟨rfl, rfl⟩
end Go.Proofs.Ytfafpcmdgjmlhaa
