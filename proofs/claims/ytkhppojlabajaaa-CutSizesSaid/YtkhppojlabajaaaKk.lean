/- law13: awake. -/
import Derived.Test.YtkhppojlabajaaaKc
import Derived.Test.YtkhppojlabajaaaKd
import Derived.Test.YtkhppojlabajaaaKg
import Derived.Test.YtkhppojlabajaaaKj
import Derived.Test.YtkhppojlabajaaaPi
namespace Go.Proofs.Ytkhppojlabajaaa
open Go.RowKit
set_option linter.unusedSimpArgs false
set_option linter.unusedVariables false

def l13 : List Fr := [⟨false, 1, false, 0, 0, 0, 0, ⟨#[72, 101]⟩⟩, ⟨false, 0, false, 0, 0, 0, 0, ⟨#[108, 108]⟩⟩, ⟨true, 0, false, 0, 0, 0, 0, ⟨#[111]⟩⟩]
def m13 : List Fr := [⟨false, 1, true, 0, 0, 0, 1, ⟨#[72, 101]⟩⟩, ⟨false, 0, true, 0, 0, 0, 2, ⟨#[108, 108]⟩⟩, ⟨true, 0, true, 0, 0, 0, 3, ⟨#[111]⟩⟩]
theorem l13_cut : cutFs 1 ⟨#[72, 101, 108, 108, 111]⟩ 2 3 = l13 := by kernel_rfl
theorem l13_count : count13 5 2 = 3 := by kernel_rfl
theorem l13_joins : joins l13 := by
  refine ⟨by simp [l13], fun i hi => ?_⟩
  rcases i with _ | _ | _ | i
  · kernel_rfl
  · kernel_rfl
  · kernel_rfl
  · have : l13.length = 3 := rfl
    omega
theorem l13_str : dstr l13 = ⟨#[72, 101, 108, 108, 111]⟩ := by kernel_rfl
theorem l13_puts : puts l13 = [1, 2, 72, 101, 0, 2, 108, 108, 128, 1, 111] := by kernel_rfl
theorem l13_err : err13 l13 = 0 := by kernel_rfl
theorem l13_mask : maskAll l13 [1, 2, 3] = m13 := by kernel_rfl
theorem l13_good : ∀ f ∈ l13, f.good := by
  intro f hf
  simp only [l13, List.mem_cons, List.not_mem_nil, or_false] at hf
  rcases hf with rfl | rfl | rfl
  · exact zero_good _ _ (by omega) _ (by decide)
  · exact zero_good _ _ (by omega) _ (by decide)
  · exact zero_good _ _ (by omega) _ (by decide)

set_option maxHeartbeats 6400000 in
set_option maxRecDepth 100000 in
theorem aw13 (w : World) : Calls Try.prog 17 #[] w fun e w' => e = .returned (.bool true) ∧ Touch NoS w w' := by
  go_enter Try.func17, Try.ntmps17
  go_wp2_with fail
  refine (k_frames 1 (.inl rfl) ⟨#[72, 101, 108, 108, 111]⟩ (by decide) 2 (by omega) (by omega) 3 l13_count _).mono ?_
  rintro e w1 ⟨v, rfl, ho, ht⟩
  rw [l13_cut] at ho
  obtain ⟨A, c, rfl, hlc, hcm, hrd, _, _⟩ := own_cases ho
  have HR := Lib.hid hrd
  have HT := Lib.hid ht
  clear ht ho hrd
  go_wp2_with fail
  refine (k_join A l13 3 c rfl _ HR.out (by intro f hf; simp only [l13, List.mem_cons, List.not_mem_nil, or_false] at hf; rcases hf with rfl | rfl | rfl <;> decide) (by omega)).mono ?_
  rintro e w2 ⟨hj, ht⟩
  rcases hj with ⟨_, rfl⟩ | ⟨h, _⟩
  case inr => exact absurd l13_joins h
  rw [l13_str, show jop l13 = 1 from rfl]
  have HR2 := Lib.hid (HR.out.touch_no ht)
  have HT2 := Lib.hid (HT.out.trans ht)
  clear ht HR HT
  go_wp2_with fail
  refine (k_bytes A l13 3 c rfl _ HR2.out l13_good (by omega)).mono ?_
  rintro e w3 ⟨hj, ht⟩
  rcases hj with ⟨_, v, rfl, ho⟩ | ⟨h, _⟩
  case inr => exact absurd l13_err h
  rw [l13_puts] at ho
  obtain ⟨A3, c3, rfl, hlc3, hcm3, hrd, _, _⟩ := own_cases ho
  have HR3 := Lib.hid (HR2.out.touch_no ht)
  have HB3 := Lib.hid hrd
  have HT3 := Lib.hid (HT2.out.trans ht)
  clear ht ho hrd HR2 HT2
  have HGD : Hid (∀ x ∈ ([1, 2, 3] : List Int), 0 ≤ x ∧ x ≤ 4294967295) := by intro x hx; simp at hx; omega
  go_wp2_with fail
  refine (k_masked A l13 3 c rfl (some ⟨w3.heap.size, 0, none⟩) [1, 2, 3] 3 3 rfl (by omega) _ (HR3.out.touch_no ((Touch.refl _ _).alloc _)) (Rd.new w3 [.int .u32 1, .int .u32 2, .int .u32 3] 45 (0, 0)) HGD.out (by omega) (by decide)).mono ?_
  rintro e w4 ⟨v4, rfl, ho, ht⟩
  rw [l13_mask] at ho
  obtain ⟨A4, c4, rfl, hlc4, hcm4, hrd, _, _⟩ := own_cases ho
  have HT4 := Lib.hid ((HT3.out.alloc (.cells #[.int .u32 1, .int .u32 2, .int .u32 3] 45)).trans ht)
  have hr3 := (HR3.out.touch_no ((Touch.refl _ _).alloc (.cells #[.int .u32 1, .int .u32 2, .int .u32 3] 45))).touch_no ht
  have hb3 := (HB3.out.touch_no ((Touch.refl _ _).alloc (.cells #[.int .u32 1, .int .u32 2, .int .u32 3] 45))).touch_no ht
  have hcv := conv_str w4 A3 [1, 2, 72, 101, 0, 2, 108, 108, 128, 1, 111] 11 c3 rfl hb3
  rw [show Go.strOfNums [1, 2, 72, 101, 0, 2, 108, 108, 128, 1, 111] = ⟨#[1, 2, 72, 101, 0, 2, 108, 108, 128, 1, 111]⟩ from by kernel_rfl] at hcv
  obtain ⟨g1, o1, rfl, hg1, _, _, _, _, _, _, _, a7⟩ := fr_cells hr3 1 (by decide)
  obtain ⟨g2, o2, rfl, hg2, _, _, _, b3, b4, b5, b6, _⟩ := fr_cells hrd 2 (by decide)
  simp only [l13, m13, List.getElem_cons_succ, List.getElem_cons_zero] at a7 b3 b4 b5 b6
  have heqk : ∀ w, (binOp .eql 42 (.agg #[.int .u8 0, .int .u8 0, .int .u8 0, .int .u8 3]) (.agg #[.int .u8 0, .int .u8 0, .int .u8 0, .int .u8 3])).run Try.prog w = .ok (.bool true) w := fun w => by
    have := eql_key w 0 0 0 3 0 0 0 3
    rw [show ([0, 0, 0, 3] == [(0 : Int), 0, 0, 3]) = true from rfl] at this
    exact this
  clear ht ho hrd hr3 hb3 HR3 HB3 HT3
  go_wp2_with fail
  refine (k_count 5 2 _).mono ?_
  rintro e w5 ⟨rfl, rfl⟩
  rw [l13_count]
  go_wp2
  go_ret
  exact ⟨rfl, HT4.out⟩
end Go.Proofs.Ytkhppojlabajaaa
