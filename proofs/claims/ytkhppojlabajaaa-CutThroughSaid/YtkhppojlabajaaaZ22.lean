/- ref09: Control, Form, Check. -/
import Derived.Test.YtkhppojlabajaaaZ21
/- ref09: Control, Form, Check. -/
namespace Go.Proofs.Ytkhppojlabajaaa
open Go.RowKit
set_option linter.unusedSimpArgs false
set_option linter.unusedVariables false

theorem r9_control (op : Int) (w : World) : Calls Try.prog 71 #[.int .i64 op] w fun e w' => e = .returned (.bool (control9 op)) ∧ w = w' := by
  unfold control9
  by_cases h : 8 ≤ op
  · by_cases h2 : op ≤ 10
    · rw [decide_eq_true (by omega)]
      go_enter Try.func71, Try.ntmps71
      go_wp2
      go_ret
      exact ⟨rfl, rfl⟩
    · rw [decide_eq_false (by omega)]
      go_enter Try.func71, Try.ntmps71
      go_wp2
      go_ret
      exact ⟨rfl, rfl⟩
  · rw [decide_eq_false (by omega)]
    go_enter Try.func71, Try.ntmps71
    go_wp2
    go_ret
    exact ⟨rfl, rfl⟩

theorem form9_eq (f : Fr) : form9 f = ((decide (0 ≤ f.op ∧ f.op ≤ 2) || (control9 f.op && (f.fin && decide (f.data.size ≤ 125)))) && (f.masked || (f.key == [0, 0, 0, 0]))) := by
  have h1 : known9 f.op = (decide (0 ≤ f.op ∧ f.op ≤ 2) || control9 f.op) := by
    unfold known9 control9
    rw [Bool.eq_iff_iff]
    simp only [Bool.or_eq_true, decide_eq_true_eq]
    omega
  have h2 : (decide (0 ≤ f.op ∧ f.op ≤ 2) && control9 f.op) = false := by
    unfold control9
    rw [Bool.eq_false_iff]
    simp only [ne_eq, Bool.and_eq_true, decide_eq_true_eq]
    omega
  have h3 : decide (125 < f.data.size) = !decide (f.data.size ≤ 125) := by
    by_cases h : f.data.size ≤ 125
    · rw [decide_eq_true h, decide_eq_false (by omega)]; rfl
    · rw [decide_eq_false h, decide_eq_true (by omega)]; rfl
  have h4 : decide (f.key ≠ [0, 0, 0, 0]) = !(f.key == [0, 0, 0, 0]) := by
    by_cases h : f.key = [0, 0, 0, 0]
    · rw [h]; rfl
    · rw [decide_eq_true h, beq_eq_false_iff_ne.2 h]; rfl
  unfold form9
  rw [h1, h3, h4]
  revert h2
  generalize decide (0 ≤ f.op ∧ f.op ≤ 2) = a
  generalize control9 f.op = c
  generalize decide (f.data.size ≤ 125) = q
  generalize (f.key == [0, 0, 0, 0]) = z
  generalize f.fin = x
  generalize f.masked = m
  revert a c q z x m
  decide

set_option maxHeartbeats 3200000 in
set_option maxRecDepth 100000 in
theorem r9_form (f : Fr) (hz : f.data.size ≤ maxLen) (w : World) : Calls Try.prog 58 #[.agg f.cs] w fun e w' => e = .returned (.bool (form9 f)) ∧ Touch NoS w w' := by
  rw [form9_eq]
  unfold maxLen at hz
  obtain ⟨fin, op, masked, k0, k1, k2, k3, d⟩ := f
  simp only [Fr.cs, Fr.key] at *
  obtain ⟨z, hzz⟩ : ∃ z, z = ([k0, k1, k2, k3] == [0, 0, 0, 0]) := ⟨_, rfl⟩
  have heqk : ∀ w, (binOp .eql 42 (.agg #[.int .u8 k0, .int .u8 k1, .int .u8 k2, .int .u8 k3]) (.agg #[.int .u8 0, .int .u8 0, .int .u8 0, .int .u8 0])).run Try.prog w = .ok (.bool z) w := fun w => by rw [eql_key, hzz]
  rw [← hzz]
  clear hzz
  have HC := Lib.hid (r9_control op)
  have hand : ∀ (a : Bool) (R : Bool), R = (a && (masked || z)) → Hid (R = (a && (masked || z))) := fun _ _ h => h
  clear hand
  by_cases ha : 0 ≤ op ∧ op ≤ 2
  · rw [decide_eq_true ha, Bool.true_or, Bool.true_and]
    obtain ⟨a0, a1⟩ := ha
    cases masked
    all_goals
      go_enter Try.func58, Try.ntmps58
      go_wp2
      go_ret
      exact ⟨by simp, (Touch.refl _ _).alloc _⟩
  rw [decide_eq_false ha, Bool.false_or]
  obtain ⟨cn, hcn⟩ : ∃ cn, cn = control9 op := ⟨_, rfl⟩
  rw [← hcn] at HC ⊢
  have HA : Hid (¬ (0 ≤ op ∧ op ≤ 2)) := ha
  clear hcn ha
  have hcase : (op < 0) ∨ (0 ≤ op ∧ 2 < op) := by have := HA.out; omega
  cases cn with
  | false =>
    rw [Bool.false_and, Bool.false_and]
    rcases hcase with h | ⟨h, h'⟩
    all_goals
      go_enter Try.func58, Try.ntmps58
      go_wp2_with fail
      refine (HC.out _).mono ?_
      rintro e w1 ⟨rfl, rfl⟩
      go_wp2
      go_ret
      exact ⟨rfl, (Touch.refl _ _).alloc _⟩
  | true =>
    rw [Bool.true_and]
    cases fin with
    | false =>
      rw [Bool.false_and, Bool.false_and]
      rcases hcase with h | ⟨h, h'⟩
      all_goals
        go_enter Try.func58, Try.ntmps58
        go_wp2_with fail
        refine (HC.out _).mono ?_
        rintro e w1 ⟨rfl, rfl⟩
        go_wp2
        go_ret
        exact ⟨rfl, (Touch.refl _ _).alloc _⟩
    | true =>
      rw [Bool.true_and]
      by_cases hs : d.size ≤ 125
      · rw [decide_eq_true hs, Bool.true_and]
        cases masked
        all_goals
          rcases hcase with h | ⟨h, h'⟩
          all_goals
            go_enter Try.func58, Try.ntmps58
            go_wp2_with fail
            refine (HC.out _).mono ?_
            rintro e w1 ⟨rfl, rfl⟩
            go_wp2
            go_ret
            exact ⟨by first | (simp; done) | (simp; omega) | (simp; intro _; omega), (Touch.refl _ _).alloc _⟩
      · rw [decide_eq_false hs, Bool.false_and]
        rcases hcase with h | ⟨h, h'⟩
        all_goals
          go_enter Try.func58, Try.ntmps58
          go_wp2_with fail
          refine (HC.out _).mono ?_
          rintro e w1 ⟨rfl, rfl⟩
          go_wp2
          go_ret
          exact ⟨rfl, (Touch.refl _ _).alloc _⟩

set_option maxHeartbeats 3200000 in
set_option maxRecDepth 100000 in
theorem r9_check (f : Fr) (hz : f.data.size ≤ maxLen) (w : World) : Calls Try.prog 43 #[.agg f.cs] w fun e w' => e = .returned (.int .i64 (check9 f)) ∧ Touch NoS w w' := by
  have HF := Lib.hid (fun W => r9_form f hz W)
  unfold check9
  obtain ⟨b, hb⟩ : ∃ b, b = form9 f := ⟨_, rfl⟩
  rw [← hb] at HF ⊢
  obtain ⟨fin, op, masked, k0, k1, k2, k3, d⟩ := f
  unfold maxLen at hz
  simp only [Fr.cs] at *
  clear hb
  cases b with
  | false =>
    rw [if_neg (by simp)]
    go_enter Try.func43, Try.ntmps43
    go_wp2_with fail
    refine (HF.out _).mono ?_
    rintro e w1 ⟨rfl, ht⟩
    have HT := Lib.hid (((Touch.refl NoS w).alloc (.cells #[.bool fin, .int .i64 op, .bool masked, .int .u8 k0, .int .u8 k1, .int .u8 k2, .int .u8 k3, .string d] 44)).trans ht)
    clear ht
    go_wp2
    go_ret
    exact ⟨rfl, HT.out⟩
  | true =>
    rw [if_pos rfl]
    by_cases h6 : 65536 < d.size
    · rw [if_pos h6]
      go_enter Try.func43, Try.ntmps43
      go_wp2_with fail
      refine (HF.out _).mono ?_
      rintro e w1 ⟨rfl, ht⟩
      have hb := ((Blk.new w 44 #[.bool fin, .int .i64 op, .bool masked, .int .u8 k0, .int .u8 k1, .int .u8 k2, .int .u8 k3, .string d])).touch ht (fun h => h)
      have HT := Lib.hid (((Touch.refl NoS w).alloc (.cells #[.bool fin, .int .i64 op, .bool masked, .int .u8 k0, .int .u8 k1, .int .u8 k2, .int .u8 k3, .string d] 44)).trans ht)
      have b7 := hb.cell 7
      simp at b7
      clear ht hb
      go_wp2
      go_ret
      exact ⟨rfl, HT.out⟩
    · rw [if_neg h6]
      go_enter Try.func43, Try.ntmps43
      go_wp2_with fail
      refine (HF.out _).mono ?_
      rintro e w1 ⟨rfl, ht⟩
      have hb := ((Blk.new w 44 #[.bool fin, .int .i64 op, .bool masked, .int .u8 k0, .int .u8 k1, .int .u8 k2, .int .u8 k3, .string d])).touch ht (fun h => h)
      have HT := Lib.hid (((Touch.refl NoS w).alloc (.cells #[.bool fin, .int .i64 op, .bool masked, .int .u8 k0, .int .u8 k1, .int .u8 k2, .int .u8 k3, .string d] 44)).trans ht)
      have b7 := hb.cell 7
      simp at b7
      clear ht hb
      go_wp2
      go_ret
      exact ⟨rfl, HT.out⟩
end Go.Proofs.Ytkhppojlabajaaa
