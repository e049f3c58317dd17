/- frame: Control, known, Check. -/
import Derived.Test.YtpadlcllcmodaaaY05
/- frame: Control, known, Check. -/
namespace Go.Proofs.Ytpadlcllcmodaaa
open Go.RowKit
set_option linter.unusedSimpArgs false
set_option linter.unusedVariables false

def control9 (op : Int) : Bool := decide (8 ≤ op ∧ op ≤ 10)
def known9 (op : Int) : Bool := decide ((8 ≤ op ∧ op ≤ 10) ∨ (0 ≤ op ∧ op ≤ 2))

theorem f_control (op : Int) (w : World) : Calls Try.prog 68 #[.int .i64 op] w fun e w' => e = .returned (.bool (control9 op)) ∧ w = w' := by
  unfold control9
  by_cases h : op = 8 ∨ op = 9 ∨ op = 10
  · rw [decide_eq_true (by omega)]
    rcases h with rfl | rfl | rfl
    all_goals
      go_enter Try.func68, Try.ntmps68
      go_wp2
      go_ret
      exact ⟨rfl, rfl⟩
  · rw [decide_eq_false (by omega)]
    have h1 : (op == 8) = false := by rw [beq_eq_false_iff_ne]; omega
    have h2 : (op == 9) = false := by rw [beq_eq_false_iff_ne]; omega
    have h3 : (op == 10) = false := by rw [beq_eq_false_iff_ne]; omega
    clear h
    go_enter Try.func68, Try.ntmps68
    go_wp2
    go_ret
    exact ⟨rfl, rfl⟩
theorem f_known (op : Int) (w : World) : Calls Try.prog 86 #[.int .i64 op] w fun e w' => e = .returned (.bool (known9 op)) ∧ w = w' := by
  cases hc : control9 op
  · have hk : known9 op = decide (0 ≤ op ∧ op ≤ 2) := by
      unfold known9 control9 at *
      have := of_decide_eq_false hc
      exact decide_eq_decide.2 (by omega)
    rw [hk]
    by_cases h : op = 0 ∨ op = 1 ∨ op = 2
    · rw [decide_eq_true (by omega)]
      rcases h with rfl | rfl | rfl
      all_goals
        clear hk
        go_enter Try.func86, Try.ntmps86
        go_wp2_with fail
        refine (f_control _ _).mono ?_
        rintro e w1 ⟨rfl, rfl⟩
        rw [hc]
        go_wp2
        go_ret
        exact ⟨rfl, rfl⟩
    · rw [decide_eq_false (by omega)]
      have h1 : (op == 0) = false := by rw [beq_eq_false_iff_ne]; omega
      have h2 : (op == 1) = false := by rw [beq_eq_false_iff_ne]; omega
      have h3 : (op == 2) = false := by rw [beq_eq_false_iff_ne]; omega
      clear h hk
      go_enter Try.func86, Try.ntmps86
      go_wp2_with fail
      refine (f_control _ _).mono ?_
      rintro e w1 ⟨rfl, rfl⟩
      rw [hc]
      go_wp2
      go_ret
      exact ⟨rfl, rfl⟩
  · have hk : known9 op = true := by
      unfold known9 control9 at *
      have := of_decide_eq_true hc
      exact decide_eq_true (by omega)
    rw [hk]
    clear hk
    go_enter Try.func86, Try.ntmps86
    go_wp2_with fail
    refine (f_control _ _).mono ?_
    rintro e w1 ⟨rfl, rfl⟩
    rw [hc]
    go_wp2
    go_ret
    exact ⟨rfl, rfl⟩

/-- May a frame be, however long? -/
def form9 (f : Fr) : Bool := known9 f.op && !(control9 f.op && (!f.fin || decide (125 < f.data.size))) && !(!f.masked && decide (f.key ≠ [0, 0, 0, 0]))
def check9 (f : Fr) : Int := if form9 f = true then (if 65536 < f.data.size then 92 else 0) else 91

set_option maxHeartbeats 3200000 in
set_option maxRecDepth 100000 in
theorem f_check (f : Fr) (hf : f.good) (w : World) : Calls Try.prog 65 #[.agg f.cs] w fun e w' => e = .returned (.int .i64 (check9 f)) ∧ Touch NoS w w' := by
  obtain ⟨fin, op, masked, k0, k1, k2, k3, d⟩ := f
  obtain ⟨_, _, hz⟩ := hf
  have hz2 : d.size ≤ 2 ^ 63 - 1 := hz
  obtain ⟨R, hR⟩ : ∃ R, R = check9 ⟨fin, op, masked, k0, k1, k2, k3, d⟩ := ⟨_, rfl⟩
  rw [← hR]
  unfold check9 form9 Fr.key at hR
  simp only at hR
  simp only [Fr.cs]
  have hr : R = if (known9 op && !(control9 op && (!fin || decide (125 < d.size))) && !(!masked && decide ([k0, k1, k2, k3] ≠ [0, 0, 0, 0]))) = true then (if 65536 < d.size then 92 else 0) else 91 := hR
  obtain ⟨kn, hkn⟩ : ∃ kn, kn = known9 op := ⟨_, rfl⟩
  obtain ⟨cn, hcn⟩ : ∃ cn, cn = control9 op := ⟨_, rfl⟩
  have HK := Lib.hid (f_known op)
  have HC := Lib.hid (f_control op)
  rw [← hkn] at hr HK
  rw [← hcn] at hr HC
  clear hR hz hkn hcn
  cases kn with
  | false =>
    rw [if_neg (by simp)] at hr
    subst hr
    go_enter Try.func65, Try.ntmps65
    go_wp2_with fail
    refine (HK.out _).mono ?_
    rintro e w1 ⟨rfl, rfl⟩
    go_wp2
    go_ret
    exact ⟨rfl, (Touch.refl _ _).alloc _⟩
  | true =>
    by_cases hbad : (cn && (!fin || decide (125 < d.size))) = true
    · rw [if_neg (by rw [hbad]; simp)] at hr
      subst hr
      cases cn with
      | false => simp at hbad
      | true =>
        cases fin with
        | false =>
          clear hbad
          go_enter Try.func65, Try.ntmps65
          go_wp2_with fail
          refine (HK.out _).mono ?_
          rintro e w1 ⟨rfl, rfl⟩
          go_wp2_with fail
          refine (HC.out _).mono ?_
          rintro e w1 ⟨rfl, rfl⟩
          go_wp2
          go_ret
          exact ⟨rfl, (Touch.refl _ _).alloc _⟩
        | true =>
          have h125 : 125 < d.size := by simpa using hbad
          clear hbad
          go_enter Try.func65, Try.ntmps65
          go_wp2_with fail
          refine (HK.out _).mono ?_
          rintro e w1 ⟨rfl, rfl⟩
          go_wp2_with fail
          refine (HC.out _).mono ?_
          rintro e w1 ⟨rfl, rfl⟩
          go_wp2
          go_ret
          exact ⟨rfl, (Touch.refl _ _).alloc _⟩
    · have hbad2 : (cn && (!fin || decide (125 < d.size))) = false := by simpa using hbad
      rw [hbad2] at hr
      simp only [Bool.not_false, Bool.and_true, Bool.true_and] at hr
      cases cn with
      | false =>
        clear hbad hbad2
        cases masked with
        | true =>
          rw [if_pos (by simp)] at hr
          by_cases hbig : 65536 < d.size
          · rw [if_pos hbig] at hr
            subst hr
            go_enter Try.func65, Try.ntmps65
            go_wp2_with fail
            refine (HK.out _).mono ?_
            rintro e w1 ⟨rfl, rfl⟩
            go_wp2_with fail
            refine (HC.out _).mono ?_
            rintro e w1 ⟨rfl, rfl⟩
            go_wp2
            go_ret
            exact ⟨rfl, by repeat (with_reducible first | exact Touch.refl _ _ | refine Touch.alloc ?_ _)⟩
          · rw [if_neg hbig] at hr
            subst hr
            go_enter Try.func65, Try.ntmps65
            go_wp2_with fail
            refine (HK.out _).mono ?_
            rintro e w1 ⟨rfl, rfl⟩
            go_wp2_with fail
            refine (HC.out _).mono ?_
            rintro e w1 ⟨rfl, rfl⟩
            go_wp2
            go_ret
            exact ⟨rfl, by repeat (with_reducible first | exact Touch.refl _ _ | refine Touch.alloc ?_ _)⟩
        | false =>
          by_cases hz0 : [k0, k1, k2, k3] = [0, 0, 0, 0]
          · rw [if_pos (by simp [hz0])] at hr
            simp only [List.cons.injEq, and_true] at hz0
            obtain ⟨rfl, rfl, rfl, rfl⟩ := hz0
            have hneq : ∀ w, (binOp .neq 57 (.agg #[.int .u8 0, .int .u8 0, .int .u8 0, .int .u8 0]) (.agg #[.int .u8 0, .int .u8 0, .int .u8 0, .int .u8 0])).run Try.prog w = .ok (.bool false) w := fun w => by rw [neq_key]; rfl
            by_cases hbig : 65536 < d.size
            · rw [if_pos hbig] at hr
              subst hr
              go_enter Try.func65, Try.ntmps65
              go_wp2_with fail
              refine (HK.out _).mono ?_
              rintro e w1 ⟨rfl, rfl⟩
              go_wp2_with fail
              refine (HC.out _).mono ?_
              rintro e w1 ⟨rfl, rfl⟩
              go_wp2
              go_ret
              exact ⟨rfl, by repeat (with_reducible first | exact Touch.refl _ _ | refine Touch.alloc ?_ _)⟩
            · rw [if_neg hbig] at hr
              subst hr
              go_enter Try.func65, Try.ntmps65
              go_wp2_with fail
              refine (HK.out _).mono ?_
              rintro e w1 ⟨rfl, rfl⟩
              go_wp2_with fail
              refine (HC.out _).mono ?_
              rintro e w1 ⟨rfl, rfl⟩
              go_wp2
              go_ret
              exact ⟨rfl, by repeat (with_reducible first | exact Touch.refl _ _ | refine Touch.alloc ?_ _)⟩
          · rw [if_neg (by simp only [Bool.not_false, Bool.true_and, Bool.not_eq_true', decide_eq_false_iff_not, ne_eq, hz0, not_false_eq_true, not_true_eq_false])] at hr
            subst hr
            have hz1 : ([k0, k1, k2, k3] == [0, 0, 0, 0]) = false := by rw [beq_eq_false_iff_ne]; exact hz0
            have hneq : ∀ w, (binOp .neq 57 (.agg #[.int .u8 k0, .int .u8 k1, .int .u8 k2, .int .u8 k3]) (.agg #[.int .u8 0, .int .u8 0, .int .u8 0, .int .u8 0])).run Try.prog w = .ok (.bool true) w := fun w => by rw [neq_key, hz1]; rfl
            clear hz0 hz1
            go_enter Try.func65, Try.ntmps65
            go_wp2_with fail
            refine (HK.out _).mono ?_
            rintro e w1 ⟨rfl, rfl⟩
            go_wp2_with fail
            refine (HC.out _).mono ?_
            rintro e w1 ⟨rfl, rfl⟩
            go_wp2
            go_ret
            exact ⟨rfl, by repeat (with_reducible first | exact Touch.refl _ _ | refine Touch.alloc ?_ _)⟩
      | true =>
        simp only [Bool.true_and, Bool.or_eq_false_iff, Bool.not_eq_false', decide_eq_false_iff_not] at hbad2
        obtain ⟨rfl, h125⟩ := hbad2
        clear hbad
        cases masked with
        | true =>
          rw [if_pos (by simp)] at hr
          rw [if_neg (by omega)] at hr
          subst hr
          go_enter Try.func65, Try.ntmps65
          go_wp2_with fail
          refine (HK.out _).mono ?_
          rintro e w1 ⟨rfl, rfl⟩
          go_wp2_with fail
          refine (HC.out _).mono ?_
          rintro e w1 ⟨rfl, rfl⟩
          go_wp2
          go_ret
          exact ⟨rfl, by repeat (with_reducible first | exact Touch.refl _ _ | refine Touch.alloc ?_ _)⟩
        | false =>
          by_cases hz0 : [k0, k1, k2, k3] = [0, 0, 0, 0]
          · rw [if_pos (by simp [hz0])] at hr
            simp only [List.cons.injEq, and_true] at hz0
            obtain ⟨rfl, rfl, rfl, rfl⟩ := hz0
            have hneq : ∀ w, (binOp .neq 57 (.agg #[.int .u8 0, .int .u8 0, .int .u8 0, .int .u8 0]) (.agg #[.int .u8 0, .int .u8 0, .int .u8 0, .int .u8 0])).run Try.prog w = .ok (.bool false) w := fun w => by rw [neq_key]; rfl
            rw [if_neg (by omega)] at hr
            subst hr
            go_enter Try.func65, Try.ntmps65
            go_wp2_with fail
            refine (HK.out _).mono ?_
            rintro e w1 ⟨rfl, rfl⟩
            go_wp2_with fail
            refine (HC.out _).mono ?_
            rintro e w1 ⟨rfl, rfl⟩
            go_wp2
            go_ret
            exact ⟨rfl, by repeat (with_reducible first | exact Touch.refl _ _ | refine Touch.alloc ?_ _)⟩
          · rw [if_neg (by simp only [Bool.not_false, Bool.true_and, Bool.not_eq_true', decide_eq_false_iff_not, ne_eq, hz0, not_false_eq_true, not_true_eq_false])] at hr
            subst hr
            have hz1 : ([k0, k1, k2, k3] == [0, 0, 0, 0]) = false := by rw [beq_eq_false_iff_ne]; exact hz0
            have hneq : ∀ w, (binOp .neq 57 (.agg #[.int .u8 k0, .int .u8 k1, .int .u8 k2, .int .u8 k3]) (.agg #[.int .u8 0, .int .u8 0, .int .u8 0, .int .u8 0])).run Try.prog w = .ok (.bool true) w := fun w => by rw [neq_key, hz1]; rfl
            clear hz0 hz1
            go_enter Try.func65, Try.ntmps65
            go_wp2_with fail
            refine (HK.out _).mono ?_
            rintro e w1 ⟨rfl, rfl⟩
            go_wp2_with fail
            refine (HC.out _).mono ?_
            rintro e w1 ⟨rfl, rfl⟩
            go_wp2
            go_ret
            exact ⟨rfl, by repeat (with_reducible first | exact Touch.refl _ _ | refine Touch.alloc ?_ _)⟩
end Go.Proofs.Ytpadlcllcmodaaa
