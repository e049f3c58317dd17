/- The checker's small functions: New, Right, Whole, Reset, begin, take. -/
import Derived.Test.YtpadlcllcmodaaaY23
import Derived.Test.YtpadlcllcmodaaaProg
import Derived.KernelRfl
import Derived.BigQuiet
import Derived.Deep.QuietTactic
import Derived.RegionTactic
import Derived.ChangeAlike
/- The checker's small functions: New, Right, Whole, Reset, begin, take. -/
namespace Go.Proofs.Ytpadlcllcmodaaa
open Go.RowKit
set_option linter.unusedSimpArgs false
set_option linter.unusedVariables false

def Uc.cs (c : Uc) : Array Value := #[.int .i64 c.left, .int .u8 c.lo, .int .u8 c.hi, .int .i64 c.count, .bool c.bad]
def IsU (w : World) (g : Nat) (c : Uc) : Prop := Blk w g 119 c.cs

theorem u_new (w : World) : Calls Try.prog 46 #[] w fun e w' => ∃ g, e = .returned (.pointer (some ⟨g, 0, none⟩)) ∧ w.heap.size ≤ g ∧ IsU w' g Uc.new ∧ Touch NoS w w' := by
  go_enter Try.func46, Try.ntmps46
  go_wp2
  go_ret
  exact ⟨_, rfl, Nat.le_refl _, Blk.new _ _ _, (Touch.refl _ _).alloc _⟩
theorem u_whole (g : Nat) (c : Uc) (w : World) (h : IsU w g c) : Calls Try.prog 93 #[.pointer (some ⟨g, 0, none⟩)] w fun e w' => e = .returned (.bool c.whole) ∧ w = w' := by
  have h3 := h.cell 4
  have h0 := h.cell 0
  simp [Uc.cs] at h3 h0
  cases hb : c.bad
  · rw [hb] at h3
    have hw : c.whole = (c.left == 0) := by simp only [Uc.whole, hb, Bool.not_false, Bool.true_and]; by_cases h : c.left = 0 <;> simp [h]
    rw [hw]
    clear hw hb
    go_enter Try.func93, Try.ntmps93
    go_wp2
    go_ret
    exact ⟨rfl, rfl⟩
  · rw [hb] at h3
    have hw : c.whole = false := by simp [Uc.whole, hb]
    rw [hw]
    clear hw hb
    go_enter Try.func93, Try.ntmps93
    go_wp2
    go_ret
    exact ⟨rfl, rfl⟩
set_option maxHeartbeats 1600000 in
theorem u_begin (g : Nat) (c : Uc) (b : Int) (w : World) (h : IsU w g c) (hok : c.ok) (hb0 : 0 ≤ b) (hb1 : b ≤ 255) (hc : c.count ≤ 4611686018427387904) :
    Calls Try.prog 107 #[.pointer (some ⟨g, 0, none⟩), .int .u8 b] w fun e w' => e = .returned (.bool (ubegin c b).2) ∧ IsU w' g (ubegin c b).1 ∧ Touch (At g) w w' := by
  have h0 := h.cell 0
  have h1 := h.cell 1
  have h2 := h.cell 2
  have h3 := h.cell 3
  have h4 := h.cell 4
  have f0 := h.frozen 0
  have f1 := h.frozen 1
  have f2 := h.frozen 2
  have f3 := h.frozen 3
  simp [Uc.cs] at h0 h1 h2 h3 h4
  obtain ⟨k0, k1, k2, k3, k4, k5, k6⟩ := hok
  have HB := Lib.hid h
  clear h
  by_cases t1 : b < 128
  · have hr : ubegin c b = (⟨c.left, 128, 191, c.count + 1, c.bad⟩, true) := by
      unfold ubegin
      rw [if_pos t1]
    rw [hr]
    clear hr
    go_enter Try.func107, Try.ntmps107
    go_wp2
    go_ret
    refine ⟨rfl, ?_, ?_⟩
    · have := ((HB.out.set_ 1 (.int .u8 128)).set_ 2 (.int .u8 191)).set_ 3 (.int .i64 (c.count + 1))
      simpa [Uc.cs, IsU] using this
    · repeat (with_reducible first | exact Touch.refl _ _ | refine Touch.setAt ?_ _ _)
  by_cases t2 : 194 ≤ b ∧ b ≤ 223
  · obtain ⟨u1, u2⟩ := t2
    have hr : ubegin c b = (⟨1, 128, 191, c.count, c.bad⟩, true) := by
      unfold ubegin
      rw [if_neg t1, if_pos ⟨u1, u2⟩]
    rw [hr]
    clear hr
    go_enter Try.func107, Try.ntmps107
    go_wp2
    go_ret
    refine ⟨rfl, ?_, ?_⟩
    · have := ((HB.out.set_ 1 (.int .u8 128)).set_ 2 (.int .u8 191)).set_ 0 (.int .i64 1)
      simpa [Uc.cs, IsU] using this
    · repeat (with_reducible first | exact Touch.refl _ _ | refine Touch.setAt ?_ _ _)
  by_cases t3 : 224 ≤ b ∧ b ≤ 239
  · obtain ⟨u1, u2⟩ := t3
    by_cases s1 : b = 224
    · subst s1
      have hr : ubegin c 224 = (⟨2, 160, 191, c.count, c.bad⟩, true) := by
        unfold ubegin
        rfl
      rw [hr]
      clear hr
      go_enter Try.func107, Try.ntmps107
      go_wp2
      go_ret
      refine ⟨rfl, ?_, ?_⟩
      · have := (((HB.out.set_ 1 (.int .u8 128)).set_ 2 (.int .u8 191)).set_ 0 (.int .i64 2)).set_ 1 (.int .u8 160)
        simpa [Uc.cs, IsU] using this
      · repeat (with_reducible first | exact Touch.refl _ _ | refine Touch.setAt ?_ _ _)
    by_cases s2 : b = 237
    · subst s2
      have hr : ubegin c 237 = (⟨2, 128, 159, c.count, c.bad⟩, true) := by
        unfold ubegin
        rfl
      rw [hr]
      clear hr
      go_enter Try.func107, Try.ntmps107
      go_wp2
      go_ret
      refine ⟨rfl, ?_, ?_⟩
      · have := (((HB.out.set_ 1 (.int .u8 128)).set_ 2 (.int .u8 191)).set_ 0 (.int .i64 2)).set_ 2 (.int .u8 159)
        simpa [Uc.cs, IsU] using this
      · repeat (with_reducible first | exact Touch.refl _ _ | refine Touch.setAt ?_ _ _)
    have n224 : (b == 224) = false := by rw [beq_eq_false_iff_ne]; omega
    have n237 : (b == 237) = false := by rw [beq_eq_false_iff_ne]; omega
    have n240 : (b == 240) = false := by rw [beq_eq_false_iff_ne]; omega
    have n244 : (b == 244) = false := by rw [beq_eq_false_iff_ne]; omega
    have hr : ubegin c b = (⟨2, 128, 191, c.count, c.bad⟩, true) := by
      unfold ubegin
      rw [if_neg t1, if_neg (by omega), if_pos ⟨u1, u2⟩, if_neg s1, if_neg s2]
    rw [hr]
    clear hr
    go_enter Try.func107, Try.ntmps107
    go_wp2
    go_ret
    refine ⟨rfl, ?_, ?_⟩
    · have := ((HB.out.set_ 1 (.int .u8 128)).set_ 2 (.int .u8 191)).set_ 0 (.int .i64 2)
      simpa [Uc.cs, IsU] using this
    · repeat (with_reducible first | exact Touch.refl _ _ | refine Touch.setAt ?_ _ _)
  by_cases t4 : 240 ≤ b ∧ b ≤ 244
  · obtain ⟨u1, u2⟩ := t4
    by_cases s1 : b = 240
    · subst s1
      have hr : ubegin c 240 = (⟨3, 144, 191, c.count, c.bad⟩, true) := by
        unfold ubegin
        rfl
      rw [hr]
      clear hr
      go_enter Try.func107, Try.ntmps107
      go_wp2
      go_ret
      refine ⟨rfl, ?_, ?_⟩
      · have := (((HB.out.set_ 1 (.int .u8 128)).set_ 2 (.int .u8 191)).set_ 0 (.int .i64 3)).set_ 1 (.int .u8 144)
        simpa [Uc.cs, IsU] using this
      · repeat (with_reducible first | exact Touch.refl _ _ | refine Touch.setAt ?_ _ _)
    by_cases s2 : b = 244
    · subst s2
      have hr : ubegin c 244 = (⟨3, 128, 143, c.count, c.bad⟩, true) := by
        unfold ubegin
        rfl
      rw [hr]
      clear hr
      go_enter Try.func107, Try.ntmps107
      go_wp2
      go_ret
      refine ⟨rfl, ?_, ?_⟩
      · have := (((HB.out.set_ 1 (.int .u8 128)).set_ 2 (.int .u8 191)).set_ 0 (.int .i64 3)).set_ 2 (.int .u8 143)
        simpa [Uc.cs, IsU] using this
      · repeat (with_reducible first | exact Touch.refl _ _ | refine Touch.setAt ?_ _ _)
    have n224 : (b == 224) = false := by rw [beq_eq_false_iff_ne]; omega
    have n237 : (b == 237) = false := by rw [beq_eq_false_iff_ne]; omega
    have n240 : (b == 240) = false := by rw [beq_eq_false_iff_ne]; omega
    have n244 : (b == 244) = false := by rw [beq_eq_false_iff_ne]; omega
    have hr : ubegin c b = (⟨3, 128, 191, c.count, c.bad⟩, true) := by
      unfold ubegin
      rw [if_neg t1, if_neg (by omega), if_neg (by omega), if_pos ⟨u1, u2⟩, if_neg s1, if_neg s2]
    rw [hr]
    clear hr
    go_enter Try.func107, Try.ntmps107
    go_wp2
    go_ret
    refine ⟨rfl, ?_, ?_⟩
    · have := ((HB.out.set_ 1 (.int .u8 128)).set_ 2 (.int .u8 191)).set_ 0 (.int .i64 3)
      simpa [Uc.cs, IsU] using this
    · repeat (with_reducible first | exact Touch.refl _ _ | refine Touch.setAt ?_ _ _)
  have hr : ubegin c b = (⟨c.left, 128, 191, c.count, c.bad⟩, false) := by
    unfold ubegin
    rw [if_neg t1, if_neg t2, if_neg t3, if_neg t4]
  rw [hr]
  clear hr
  by_cases v1 : b < 194
  · clear t2 t3 t4
    go_enter Try.func107, Try.ntmps107
    go_wp2
    go_ret
    refine ⟨rfl, ?_, ?_⟩
    · have := (HB.out.set_ 1 (.int .u8 128)).set_ 2 (.int .u8 191)
      simpa [Uc.cs, IsU] using this
    · repeat (with_reducible first | exact Touch.refl _ _ | refine Touch.setAt ?_ _ _)
  · have v2 : 245 ≤ b := by omega
    clear t2 t3 t4
    go_enter Try.func107, Try.ntmps107
    go_wp2
    go_ret
    refine ⟨rfl, ?_, ?_⟩
    · have := (HB.out.set_ 1 (.int .u8 128)).set_ 2 (.int .u8 191)
      simpa [Uc.cs, IsU] using this
    · repeat (with_reducible first | exact Touch.refl _ _ | refine Touch.setAt ?_ _ _)

set_option maxHeartbeats 1600000 in
theorem u_take (g : Nat) (c : Uc) (b : Int) (w : World) (h : IsU w g c) (hok : c.ok) (hb0 : 0 ≤ b) (hb1 : b ≤ 255) (hc : c.count ≤ 4611686018427387904) :
    Calls Try.prog 101 #[.pointer (some ⟨g, 0, none⟩), .int .u8 b] w fun e w' => e = .returned (.bool (utake c b).2) ∧ IsU w' g (utake c b).1 ∧ Touch (At g) w w' := by
  have HBG := Lib.hid (u_begin g c b w h hok hb0 hb1 hc)
  have h0 := h.cell 0
  have h1 := h.cell 1
  have h2 := h.cell 2
  have h3 := h.cell 3
  have h4 := h.cell 4
  have f0 := h.frozen 0
  have f1 := h.frozen 1
  have f2 := h.frozen 2
  have f3 := h.frozen 3
  simp [Uc.cs] at h0 h1 h2 h3 h4
  obtain ⟨k0, k1, k2, k3, k4, k5, k6⟩ := hok
  have HB := Lib.hid h
  clear h
  by_cases t0 : c.left = 0
  · have hr : utake c b = ubegin c b := by unfold utake; rw [if_pos t0]
    rw [hr]
    clear hr
    have t0' : (c.left == 0) = true := by rw [t0]; rfl
    clear t0
    go_enter Try.func101, Try.ntmps101
    go_wp2_with fail
    refine HBG.out.mono ?_
    rintro e w1 ⟨rfl, hu, ht⟩
    have HU := Lib.hid hu
    have HT := Lib.hid ht
    clear hu ht
    go_wp2
    go_ret
    exact ⟨rfl, HU.out, HT.out⟩
  have t0' : (c.left == 0) = false := by rw [beq_eq_false_iff_ne]; exact t0
  by_cases t1 : b < c.lo
  · have hr : utake c b = (c, false) := by unfold utake; rw [if_neg t0, if_pos (.inl t1)]
    rw [hr]
    clear hr t0
    go_enter Try.func101, Try.ntmps101
    go_wp2
    go_ret
    exact ⟨rfl, HB.out, Touch.refl _ _⟩
  by_cases t2 : c.hi < b
  · have hr : utake c b = (c, false) := by unfold utake; rw [if_neg t0, if_pos (.inr t2)]
    rw [hr]
    clear hr t0
    go_enter Try.func101, Try.ntmps101
    go_wp2
    go_ret
    exact ⟨rfl, HB.out, Touch.refl _ _⟩
  by_cases t3 : c.left = 1
  · have hr : utake c b = (⟨0, 128, 191, c.count + 1, c.bad⟩, true) := by unfold utake; rw [if_neg t0, if_neg (by omega), if_pos t3, t3]; rfl
    rw [hr]
    clear hr t0
    have t4 : ((c.left - 1) == 0) = true := by rw [t3]; rfl
    have t5 : c.left - 1 = 0 := by omega
    have T5 := Lib.hid t5
    have t6 : 1 ≤ c.left := by omega
    clear t3 t5
    go_enter Try.func101, Try.ntmps101
    go_wp2
    go_ret
    refine ⟨rfl, ?_, ?_⟩
    · have := (((HB.out.set_ 1 (.int .u8 128)).set_ 2 (.int .u8 191)).set_ 0 (.int .i64 (c.left - 1))).set_ 3 (.int .i64 (c.count + 1))
      have e := T5.out
      simpa [Uc.cs, IsU, e] using this
    · repeat (with_reducible first | exact Touch.refl _ _ | refine Touch.setAt ?_ _ _)
  · have hr : utake c b = (⟨c.left - 1, 128, 191, c.count, c.bad⟩, true) := by unfold utake; rw [if_neg t0, if_neg (by omega), if_neg t3]
    rw [hr]
    clear hr
    have t4 : ((c.left - 1) == 0) = false := by rw [beq_eq_false_iff_ne]; omega
    have t6 : 1 ≤ c.left := by omega
    clear t3 t0
    go_enter Try.func101, Try.ntmps101
    go_wp2
    go_ret
    refine ⟨rfl, ?_, ?_⟩
    · have := ((HB.out.set_ 1 (.int .u8 128)).set_ 2 (.int .u8 191)).set_ 0 (.int .i64 (c.left - 1))
      simpa [Uc.cs, IsU] using this
    · repeat (with_reducible first | exact Touch.refl _ _ | refine Touch.setAt ?_ _ _)
end Go.Proofs.Ytpadlcllcmodaaa
