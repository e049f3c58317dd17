/- law09: awake. -/
import Derived.Test.YtfafpcmdgjmlhaaPh
namespace Go.Proofs.Ytfafpcmdgjmlhaa
open Go.RowKit
set_option linter.unusedSimpArgs false
set_option linter.unusedVariables false

theorem zero_good (fin : Bool) (op : Int) (h : 0 ≤ op ∧ op ≤ 15) (d : ByteArray) (hd : d.size ≤ maxLen) : (Fr.mk fin op false 0 0 0 0 d).good :=
  ⟨wf_i64 (by show -9223372036854775808 ≤ op; omega) (by show op ≤ 9223372036854775807; omega), by intro x hx; simp [Fr.key] at hx; omega, hd⟩
theorem aw_put : fput ⟨true, 1, false, 0, 0, 0, 0, ⟨#[72, 101, 108, 108, 111]⟩⟩ = [129, 5, 72, 101, 108, 108, 111] := by kernel_rfl
theorem aw_get : fget [137, 0, 1] 100 = (⟨true, 9, false, 0, 0, 0, 0, ⟨#[]⟩⟩, 2, 0) := by kernel_rfl

set_option maxHeartbeats 3200000 in
set_option maxRecDepth 100000 in
theorem aw9 (w : World) : Calls Try.prog 44 #[] w fun e w' => e = .returned (.bool true) ∧ Touch NoS w w' := by
  go_enter Try.func44, Try.ntmps44
  go_wp2_with fail
  refine (f_put ⟨true, 1, false, 0, 0, 0, 0, ⟨#[72, 101, 108, 108, 111]⟩⟩ (zero_good _ _ (by omega) _ (by decide)) (by kernel_rfl) _).mono ?_
  rintro e w1 ⟨v, rfl, ho, ht⟩
  rw [aw_put] at ho
  obtain ⟨A, c, rfl, hlc, hcm, hrd, _, _⟩ := own_cases ho
  have HR := Lib.hid hrd
  have HT := Lib.hid ht
  clear ht ho hrd
  go_wp2_with fail
  refine (f_get _ [137, 0, 1] 3 3 rfl 100 (wf_i64 (by omega) (by omega)) _ (Rd.new w1 (u8s [137, 0, 1]) 5 (0, 0)) (by intro x hx; simp at hx; omega) (by omega) (by decide) (by omega)).mono ?_
  rintro e w2 ⟨rfl, ht⟩
  have HT2 := Lib.hid ((HT.out.alloc _).trans ht)
  have HR2 := Lib.hid (HR.out.touch_no (((Touch.refl NoS w1).alloc _).trans ht))
  rw [aw_get]
  simp only [Fr.cs]
  clear ht HT HR
  have hcv := fun W (h : Touch NoS w2 W) => conv_str W _ _ 7 c rfl (HR2.out.touch_no h)
  have hcv2 := hcv (w2.alloc (.cells (Fr.cs ⟨true, 9, false, 0, 0, 0, 0, ⟨#[]⟩⟩) 43)) ((Touch.refl _ _).alloc _)
  simp only [Fr.cs] at hcv2
  clear hcv
  have he1 : (Go.strOfNums [129, 5, 72, 101, 108, 108, 111]) = ⟨#[129, 5, 72, 101, 108, 108, 111]⟩ := by kernel_rfl
  rw [he1] at hcv2
  have heq : ∀ W, (binOp .eql 43 (.agg #[.bool true, .int .i64 9, .bool false, .int .u8 0, .int .u8 0, .int .u8 0, .int .u8 0, .string ⟨#[]⟩]) (.agg #[.bool true, .int .i64 9, .bool false, .int .u8 0, .int .u8 0, .int .u8 0, .int .u8 0, .string ⟨#[]⟩])).run Try.prog W = .ok (.bool true) W :=
    fun W => by have := eql_fr W ⟨true, 9, false, 0, 0, 0, 0, ⟨#[]⟩⟩ ⟨true, 9, false, 0, 0, 0, 0, ⟨#[]⟩⟩; rw [Fr.same_self] at this; exact this
  obtain ⟨w3, hw3⟩ : ∃ w3, w3 = w2.alloc (.cells #[.bool true, .int .i64 9, .bool false, .int .u8 0, .int .u8 0, .int .u8 0, .int .u8 0, .string ⟨#[]⟩] 43) := ⟨_, rfl⟩
  have hb3 : Blk w3 w2.heap.size 43 #[.bool true, .int .i64 9, .bool false, .int .u8 0, .int .u8 0, .int .u8 0, .int .u8 0, .string ⟨#[]⟩] := by rw [hw3]; exact Blk.new _ _ _
  have HB3 := Lib.hid hb3
  have HT3 : Hid (Touch NoS w w3) := by rw [hw3]; exact HT2.out.alloc _
  clear hb3
  go_wp2_with fail
  rw [← hw3]
  refine (f_size ⟨false, 0, false, 0, 0, 0, 0, ⟨#[97, 98]⟩⟩ (by decide) _).mono ?_
  rintro e w4 ⟨rfl, ht⟩
  have HB4 := Lib.hid (HB3.out.touch ht (fun h => h))
  have HT4 := Lib.hid (HT3.out.trans ht)
  have e4 : ((size9 ⟨false, 0, false, 0, 0, 0, 0, ⟨#[97, 98]⟩⟩ : Nat) : Int) = 4 := by kernel_rfl
  rw [e4]
  clear ht e4 hcv2 HB3 HT3 hw3
  go_wp2_with fail
  refine (f_control 8 _).mono ?_
  rintro e w5 ⟨rfl, rfl⟩
  have e5 : control9 8 = true := rfl
  rw [e5]
  go_wp2_with fail
  refine (f_control 1 _).mono ?_
  rintro e w5 ⟨rfl, rfl⟩
  have e6 : control9 1 = false := rfl
  rw [e6]
  have b0 := HB4.out.cell 0
  have b1 := HB4.out.cell 1
  have b2 := HB4.out.cell 2
  have b3 := HB4.out.cell 3
  have b4 := HB4.out.cell 4
  have b5 := HB4.out.cell 5
  have b6 := HB4.out.cell 6
  have b7 := HB4.out.cell 7
  simp at b0 b1 b2 b3 b4 b5 b6 b7
  go_wp2_with fail
  refine (f_check ⟨true, 9, false, 0, 0, 0, 0, ⟨#[]⟩⟩ (zero_good _ _ (by omega) _ (by decide)) _).mono ?_
  rintro e w6 ⟨rfl, ht⟩
  have e7 : check9 ⟨true, 9, false, 0, 0, 0, 0, ⟨#[]⟩⟩ = 0 := by kernel_rfl
  rw [e7]
  have HT6 := Lib.hid (HT4.out.trans ht)
  clear e7 ht
  go_wp2
  go_ret
  exact ⟨rfl, HT6.out⟩
end Go.Proofs.Ytfafpcmdgjmlhaa
