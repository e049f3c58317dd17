/- close: plain laws of Put and Get; law11: awake. -/
import Derived.Test.YtfafpcmdgjmlhaaCc
import Derived.Test.YtfafpcmdgjmlhaaCd
import Derived.Test.YtfafpcmdgjmlhaaPf
namespace Go.Proofs.Ytfafpcmdgjmlhaa
open Go.RowKit
set_option linter.unusedSimpArgs false
set_option linter.unusedVariables false

theorem lets_nil : lets ⟨#[]⟩ = true := by decide +kernel
theorem sb_two (x v : Int) (hx : 0 ≤ x ∧ x ≤ 255) (hv : 0 ≤ v ∧ v ≤ 255) (s : ByteArray) : sb (Go.strOfNums [x, v] ++ s) = x :: v :: sb s := by
  rw [sb_append, sb_nums]
  · rfl
  · intro y hy
    simp at hy
    rcases hy with rfl | rfl
    · exact hx
    · exact hv
theorem size_two (x v : Int) (s : ByteArray) : (Go.strOfNums [x, v] ++ s).size = 2 + s.size := by
  rw [ByteArray.size_append, numsB_size]; rfl
theorem tail_two (x v : Int) (hx : 0 ≤ x ∧ x ≤ 255) (hv : 0 ≤ v ∧ v ≤ 255) (s : ByteArray) : (Go.strOfNums [x, v] ++ s).extract 2 (Go.strOfNums [x, v] ++ s).size = s := by
  apply sb_inj
  rw [sb_extract, List.take_of_length_le (by rw [sb_length]; exact Nat.le_refl _), sb_two x v hx hv]
  rfl
theorem code_two (x v : Int) (hx : 0 ≤ x ∧ x ≤ 255) (hv : 0 ≤ v ∧ v ≤ 255) (s : ByteArray) : codeOf (Go.strOfNums [x, v] ++ s) = x * 256 + v := by
  unfold codeOf
  rw [sb_two x v hx hv]
  rfl
theorem cget_two (n : Int) (h0 : 0 ≤ n) (h1 : n ≤ 65535) (s : ByteArray) (hs : s.size ≤ 123) : cget (Go.strOfNums [n / 256, n % 256] ++ s) = if valid11 n = false then (0, ⟨#[]⟩, 110) else if lets s = false then (0, ⟨#[]⟩, 111) else (n, s, 0) := by
  unfold cget
  rw [size_two, if_neg (by omega), if_neg (by omega), code_two _ _ (by omega) (by omega), ← size_two (n / 256) (n % 256) s, tail_two _ _ (by omega) (by omega)]
  rw [show n / 256 * 256 + n % 256 = n from by omega]
/-- What is put is got. -/
theorem cget_put (n : Int) (s : ByteArray) (h : (cput n s).2 = 0) : cget (cput n s).1 = (if n = 0 then 1005 else n, s, 0) := by
  unfold cput at h ⊢
  by_cases h0 : n = 0 ∧ s.size = 0
  · rw [if_pos h0]
    obtain ⟨rfl, h0⟩ := h0
    obtain rfl : s = ⟨#[]⟩ := ByteArray.ext (Array.eq_empty_of_size_eq_zero h0)
    rfl
  rw [if_neg h0] at h ⊢
  by_cases h1 : valid11 n = false ∨ 123 < s.size
  · rw [if_pos h1] at h; cases h
  rw [if_neg h1] at h ⊢
  by_cases h2 : lets s = false
  · rw [if_pos h2] at h; cases h
  rw [if_neg h2] at h ⊢
  have hv : valid11 n = true := by cases hv : valid11 n; exact absurd (.inl hv) h1; rfl
  obtain ⟨hn0, hn1⟩ := valid11_le hv
  show cget (Go.strOfNums [n / 256, n % 256] ++ s) = _
  rw [cget_two n (by omega) (by omega) s (by omega), if_neg (by rw [hv]; simp), if_neg h2, if_neg (by omega)]
theorem across_self {n : Int} (h : valid11 n = true) : across11 n = n := by
  unfold across11
  rw [if_neg (by rintro rfl; revert h; decide), if_pos h]
/-- What is got is put. -/
theorem cput_get (s : ByteArray) (h : (cget s).2.2 = 0) : cput (across11 (cget s).1) (cget s).2.1 = (s, 0) := by
  unfold cget at h ⊢
  by_cases h0 : s.size = 0
  · rw [if_pos h0]
    obtain rfl : s = ⟨#[]⟩ := ByteArray.ext (Array.eq_empty_of_size_eq_zero h0)
    rfl
  rw [if_neg h0] at h ⊢
  by_cases h1 : s.size < 2 ∨ 125 < s.size
  · rw [if_pos h1] at h; cases h
  rw [if_neg h1] at h ⊢
  by_cases h2 : valid11 (codeOf s) = false
  · rw [if_pos h2] at h; cases h
  rw [if_neg h2] at h ⊢
  by_cases h3 : lets (s.extract 2 s.size) = false
  · rw [if_pos h3] at h; cases h
  rw [if_neg h3] at h ⊢
  have hv : valid11 (codeOf s) = true := by cases hv : valid11 (codeOf s); exact absurd hv h2; rfl
  obtain ⟨hn0, hn1⟩ := valid11_le hv
  show cput (across11 (codeOf s)) (s.extract 2 s.size) = _
  rw [across_self hv]
  unfold cput
  rw [if_neg (by omega), if_neg (by rw [hv]; simp; omega), if_neg h3]
  have hx := getD_in (sb_in s) 0 (by omega) 0
  have hy := getD_in (sb_in s) 0 (by omega) 1
  refine Prod.ext (sb_inj ?_) rfl
  show sb (Go.strOfNums [codeOf s / 256, codeOf s % 256] ++ s.extract 2 s.size) = sb s
  rw [sb_two _ _ (by omega) (by omega), sb_extract, List.take_of_length_le (by rw [sb_length]; exact Nat.le_refl _)]
  have hl := sb_length s
  have e1 : codeOf s / 256 = (sb s).getD 0 0 := by unfold codeOf; omega
  have e2 : codeOf s % 256 = (sb s).getD 1 0 := by unfold codeOf; omega
  rw [e1, e2]
  rcases hs : sb s with _ | ⟨a, _ | ⟨b, t⟩⟩
  · rw [hs] at hl; simp at hl; omega
  · rw [hs] at hl; simp at hl; omega
  · rfl
/-- What is put, at its length. -/
theorem cput_no {n : Int} {s : ByteArray} (h : (cput n s).2 ≠ 0) : (cput n s).1 = ⟨#[]⟩ := by
  unfold cput at h ⊢
  split
  · rfl
  split
  · rfl
  split
  · rfl
  · rename_i h0 h1 h2
    rw [if_neg h0, if_neg h1, if_neg h2] at h
    exact absurd rfl h
theorem cput_size {n : Int} {s : ByteArray} (h : (cput n s).2 = 0) : (n = 0 ∧ (cput n s).1 = ⟨#[]⟩) ∨ (n ≠ 0 ∧ (cput n s).1.size = 2 + s.size ∧ (cput n s).1.size ≤ 125 ∧ (cput n s).1.extract 2 (cput n s).1.size = s) := by
  unfold cput at h ⊢
  by_cases h0 : n = 0 ∧ s.size = 0
  · rw [if_pos h0]; exact .inl ⟨h0.1, rfl⟩
  rw [if_neg h0] at h ⊢
  by_cases h1 : valid11 n = false ∨ 123 < s.size
  · rw [if_pos h1] at h; cases h
  rw [if_neg h1] at h ⊢
  by_cases h2 : lets s = false
  · rw [if_pos h2] at h; cases h
  rw [if_neg h2]
  have hv : valid11 n = true := by cases hv : valid11 n; exact absurd (.inl hv) h1; rfl
  obtain ⟨hn0, hn1⟩ := valid11_le hv
  refine .inr ⟨by omega, size_two _ _ _, ?_, tail_two _ _ (by omega) (by omega) _⟩
  show (Go.strOfNums [n / 256, n % 256] ++ s).size ≤ 125
  rw [size_two]
  omega
theorem cput_apart {a b : Int} {v w : ByteArray} (h1 : (cput a v).2 = 0) (h2 : (cput b w).2 = 0) : (cput a v).1 = (cput b w).1 ↔ a = b ∧ v = w := by
  constructor
  · intro h
    have e1 := cget_put a v h1
    have e2 := cget_put b w h2
    rw [h, e2] at e1
    have q1 := congrArg Prod.fst e1
    have q2 := congrArg (fun x => x.2.1) e1
    simp only at q1 q2
    refine ⟨?_, q2.symm⟩
    have na : a ≠ 1005 := by
      rintro rfl
      unfold cput at h1
      rw [if_neg (by omega), if_pos (.inl (by decide))] at h1
      cases h1
    have nb : b ≠ 1005 := by
      rintro rfl
      unfold cput at h2
      rw [if_neg (by omega), if_pos (.inl (by decide))] at h2
      cases h2
    by_cases ha : a = 0
    · by_cases hb : b = 0
      · omega
      · rw [if_pos ha, if_neg hb] at q1; exact absurd q1 nb
    · by_cases hb : b = 0
      · rw [if_neg ha, if_pos hb] at q1; exact absurd q1.symm na
      · rw [if_neg ha, if_neg hb] at q1; exact q1.symm
  · rintro ⟨rfl, rfl⟩; rfl

theorem aw_get1 : cget ⟨#[3, 232]⟩ = (1000, ⟨#[]⟩, 0) := by kernel_rfl
theorem aw_get2 : cget ⟨#[3, 237]⟩ = (0, ⟨#[]⟩, 110) := by kernel_rfl
theorem aw_put1 : cput 1000 ⟨#[]⟩ = (⟨#[3, 232]⟩, 0) := by kernel_rfl
set_option maxHeartbeats 3200000 in
set_option maxRecDepth 100000 in
theorem aw11 (w : World) : Calls Try.prog 33 #[] w fun e w' => e = .returned (.bool true) ∧ Touch NoS w w' := by
  have h1 := fun W => c_get ⟨#[3, 232]⟩ (by unfold maxLen; decide) W
  have h2 := fun W => c_get ⟨#[3, 237]⟩ (by unfold maxLen; decide) W
  have h3 := fun W => c_put 1000 ⟨#[]⟩ (by unfold maxLen; decide) W
  rw [aw_get1] at h1
  rw [aw_get2] at h2
  rw [aw_put1] at h3
  have H1 := Lib.hid h1
  have H2 := Lib.hid h2
  have H3 := Lib.hid h3
  have h4 := fun W => c_valid 1000 W
  have h5 := fun W => c_code 122 W
  have h6 := fun W => c_across 1006 W
  rw [show valid11 1000 = true from by decide] at h4
  rw [show code11 122 = 1007 from by decide] at h5
  rw [show across11 1006 = 1011 from by decide] at h6
  have H4 := Lib.hid h4
  have H5 := Lib.hid h5
  have H6 := Lib.hid h6
  clear h1 h2 h3 h4 h5 h6
  go_enter Try.func33, Try.ntmps33
  go_wp2_with fail
  refine (H1.out _).mono ?_
  rintro e w1 ⟨rfl, ht⟩
  have HT1 := Lib.hid ht
  clear ht
  go_wp2_with fail
  refine (H2.out _).mono ?_
  rintro e w2 ⟨rfl, ht⟩
  have HT2 := Lib.hid (HT1.out.trans ht)
  clear ht
  go_wp2_with fail
  refine (H3.out _).mono ?_
  rintro e w3 ⟨rfl, ht⟩
  have HT3 := Lib.hid (HT2.out.trans ht)
  clear ht
  go_wp2_with fail
  refine (H4.out _).mono ?_
  rintro e w4 ⟨rfl, ht⟩
  have HT4 := Lib.hid (HT3.out.trans ht)
  clear ht
  go_wp2_with fail
  refine (H5.out _).mono ?_
  rintro e w5 ⟨rfl, ht⟩
  have HT5 := Lib.hid (HT4.out.trans ht)
  clear ht
  go_wp2_with fail
  refine (H6.out _).mono ?_
  rintro e w6 ⟨rfl, ht⟩
  have HT6 := Lib.hid (HT5.out.trans ht)
  clear ht
  go_wp2
  go_ret
  exact ⟨rfl, HT6.out⟩
end Go.Proofs.Ytfafpcmdgjmlhaa
