/- close: Put; ref11: letters, Put. -/
import Derived.Test.YtfafpcmdgjmlhaaCa
import Derived.Test.YtfafpcmdgjmlhaaUd
import Derived.Test.YtfafpcmdgjmlhaaVf
import Derived.Test.YtfafpcmdgjmlhaaFc
import Derived.Test.YtfafpcmdgjmlhaaSg
namespace Go.Proofs.Ytfafpcmdgjmlhaa
open Go.RowKit
set_option linter.unusedSimpArgs false
set_option linter.unusedVariables false

/-- Are bytes letters? -/
def lets (s : ByteArray) : Bool := (ucount (sb s)).2
theorem lets_eq (s : ByteArray) : lets s = (ufeed Uc.new (sb s)).1.whole := by
  unfold lets ucount
  cases h : (ufeed Uc.new (sb s)).1.whole <;> rfl
theorem r11_letters (s : ByteArray) (hs : s.size ≤ 1000) (w : World) : Calls Try.prog 59 #[.string s] w fun e w' => e = .returned (.bool (lets s)) ∧ Touch NoS w w' := by
  rw [lets_eq]
  have HR := Lib.hid (fun W => r3_read s hs W)
  obtain ⟨c, hc⟩ : ∃ c, c = (ufeed Uc.new (sb s)).1.whole := ⟨_, rfl⟩
  rw [← hc] at HR ⊢
  clear hc
  go_enter Try.func59, Try.ntmps59
  go_wp2_with fail
  refine (HR.out _).mono ?_
  rintro e w1 ⟨n, rfl, _, _, _, ht⟩
  have HT := Lib.hid ht
  clear ht
  go_wp2
  go_ret
  exact ⟨rfl, HT.out⟩
/-- An end's data. -/
def cput (n : Int) (s : ByteArray) : ByteArray × Int :=
  if n = 0 ∧ s.size = 0 then (⟨#[]⟩, 0)
  else if valid11 n = false ∨ 123 < s.size then (⟨#[]⟩, 110)
  else if lets s = false then (⟨#[]⟩, 111)
  else (Go.strOfNums [n / 256, n % 256] ++ s, 0)
theorem valid11_le {n : Int} (h : valid11 n = true) : 1000 ≤ n ∧ n ≤ 4999 := by
  have := of_decide_eq_true h
  omega

set_option maxHeartbeats 3200000 in
set_option maxRecDepth 100000 in
theorem c_put (n : Int) (s : ByteArray) (hs : s.size ≤ maxLen) (w : World) : Calls Try.prog 34 #[.int .i64 n, .string s] w fun e w' => e = .returned (.tuple #[.string (cput n s).1, .int .i64 (cput n s).2]) ∧ Touch NoS w w' := by
  obtain ⟨R, hR⟩ : ∃ R, R = cput n s := ⟨_, rfl⟩
  rw [← hR]
  unfold cput at hR
  have HV := Lib.hid (fun W => c_valid n W)
  by_cases h0 : n = 0 ∧ s.size = 0
  · rw [if_pos h0] at hR
    obtain ⟨rfl, h0⟩ := h0
    obtain rfl : s = ⟨#[]⟩ := ByteArray.ext (Array.eq_empty_of_size_eq_zero h0)
    subst hR
    go_enter Try.func34, Try.ntmps34
    go_wp2
    go_ret2
    exact ⟨rfl, Touch.refl _ _⟩
  rw [if_neg h0] at hR
  have hq : (n = 0 ∧ (s.toList == []) = false ∧ s.toList.isEmpty = false) ∨ (n ≠ 0 ∧ (n == 0) = false) := by
    by_cases hn : n = 0
    · exact .inl ⟨hn, str_ne s (by by_cases hz : s.size = 0; exact absurd ⟨hn, hz⟩ h0; omega)⟩
    · exact .inr ⟨hn, by rw [beq_eq_false_iff_ne]; exact hn⟩
  clear h0
  cases hv : valid11 n with
  | false =>
    rw [if_pos (.inl hv)] at hR
    rw [hv] at HV
    clear hv
    subst hR
    rcases hq with ⟨rfl, hq1, hq2⟩ | ⟨hq1, hq2⟩
    all_goals
      go_enter Try.func34, Try.ntmps34
      go_wp2_with fail
      refine (HV.out _).mono ?_
      rintro e w1 ⟨rfl, ht⟩
      have HT := Lib.hid ht
      clear ht
      go_wp2
      go_ret2
      exact ⟨rfl, HT.out⟩
  | true =>
    obtain ⟨hn0, hn1⟩ := valid11_le hv
    rw [hv] at HV
    have hq2 : (n == 0) = false := by rw [beq_eq_false_iff_ne]; omega
    have hq3 : ¬ n = 0 := by omega
    clear hq
    by_cases hz : 123 < s.size
    · rw [if_pos (.inr hz)] at hR
      subst hR
      clear hv
      go_enter Try.func34, Try.ntmps34
      go_wp2_with fail
      refine (HV.out _).mono ?_
      rintro e w1 ⟨rfl, ht⟩
      have HT := Lib.hid ht
      clear ht
      go_wp2
      go_ret2
      exact ⟨rfl, HT.out⟩
    rw [if_neg (by rw [hv]; rintro (h | h); cases h; exact hz h)] at hR
    have HS := Lib.hid hs
    have HCV := Lib.hid (fun W => conv_ex W s hs)
    have hz' : s.size ≤ 123 := by omega
    obtain ⟨b, hb⟩ : ∃ b, b = lets s := ⟨_, rfl⟩
    have HB := Lib.hid hb
    rw [← hb] at hR
    have HR := Lib.hid hR
    clear hv hb hR hs hz
    go_enter Try.func34, Try.ntmps34
    go_wp2_with fail
    refine (HV.out _).mono ?_
    rintro e w1 ⟨rfl, ht⟩
    have HT := Lib.hid ht
    clear ht
    obtain ⟨w2, cp, hconv, ht, hrd, hcp, hcm, h23⟩ := HCV.out w1
    have HT2 := Lib.hid (HT.out.trans ht)
    have HRD := Lib.hid hrd
    clear ht hrd hcp hcm HT HV
    go_wp2_with fail
    refine (u_validn _ (sb s) s.size cp (sb_length s) w2 HRD.out (sb_in s) (by intro a ha; injection ha with ha; subst ha; exact h23) (by omega)).mono ?_
    rintro e w3 ⟨rfl, ht⟩
    rw [show (ucount (sb s)).2 = b from HB.out.symm]
    have HT3 := Lib.hid (HT2.out.trans ht)
    clear ht HT2 HRD HCV hconv h23
    cases b with
    | false =>
      have hR := HR.out
      rw [if_pos rfl] at hR
      subst hR
      go_wp2
      go_ret2
      exact ⟨rfl, HT3.out⟩
    | true =>
      have hcv := fun (w : World) (a b : Int) (t : TypeId) (cap : Nat) => conv_two w a b t (0, 0) cap
      have hvz : (Go.strOfNums [n / 256, n % 256]).size = 2 := by rw [numsB_size]; rfl
      have hR := HR.out
      rw [if_neg (by simp)] at hR
      have HR3 := Lib.hid hR
      clear hR
      go_wp2
      go_ret2
      rw [HR3.out]
      exact ⟨rfl, HT3.out.alloc _⟩

set_option maxHeartbeats 3200000 in
set_option maxRecDepth 100000 in
theorem r11_put (n : Int) (s : ByteArray) (hs : s.size ≤ maxLen) (w : World) : Calls Try.prog 35 #[.int .i64 n, .string s] w fun e w' => e = .returned (.tuple #[.string (cput n s).1, .int .i64 (cput n s).2]) ∧ Touch NoS w w' := by
  obtain ⟨R, hR⟩ : ∃ R, R = cput n s := ⟨_, rfl⟩
  rw [← hR]
  unfold cput at hR
  have HV := Lib.hid (fun W => r11_valid n W)
  by_cases h0 : n = 0 ∧ s.size = 0
  · rw [if_pos h0] at hR
    obtain ⟨rfl, h0⟩ := h0
    obtain rfl : s = ⟨#[]⟩ := ByteArray.ext (Array.eq_empty_of_size_eq_zero h0)
    subst hR
    go_enter Try.func35, Try.ntmps35
    go_wp2
    go_ret2
    exact ⟨rfl, Touch.refl _ _⟩
  rw [if_neg h0] at hR
  have hq : (n = 0 ∧ (s.toList == []) = false ∧ s.toList.isEmpty = false) ∨ (n ≠ 0 ∧ (n == 0) = false) := by
    by_cases hn : n = 0
    · exact .inl ⟨hn, str_ne s (by by_cases hz : s.size = 0; exact absurd ⟨hn, hz⟩ h0; omega)⟩
    · exact .inr ⟨hn, by rw [beq_eq_false_iff_ne]; exact hn⟩
  clear h0
  cases hv : valid11 n with
  | false =>
    rw [if_pos (.inl hv)] at hR
    rw [hv] at HV
    clear hv
    subst hR
    rcases hq with ⟨rfl, hq1, hq2⟩ | ⟨hq1, hq2⟩
    all_goals
      go_enter Try.func35, Try.ntmps35
      go_wp2_with fail
      refine (HV.out _).mono ?_
      rintro e w1 ⟨rfl, rfl⟩
      go_wp2
      go_ret2
      exact ⟨rfl, Touch.refl _ _⟩
  | true =>
    obtain ⟨hn0, hn1⟩ := valid11_le hv
    rw [hv] at HV
    have hq2 : (n == 0) = false := by rw [beq_eq_false_iff_ne]; omega
    have hq3 : ¬ n = 0 := by omega
    clear hq
    by_cases hz : 123 < s.size
    · rw [if_pos (.inr hz)] at hR
      subst hR
      clear hv
      go_enter Try.func35, Try.ntmps35
      go_wp2_with fail
      refine (HV.out _).mono ?_
      rintro e w1 ⟨rfl, rfl⟩
      go_wp2
      go_ret2
      exact ⟨rfl, Touch.refl _ _⟩
    rw [if_neg (by rw [hv]; rintro (h | h); cases h; exact hz h)] at hR
    have hz' : s.size ≤ 123 := by omega
    have HL := Lib.hid (fun W => r11_letters s (by omega) W)
    obtain ⟨b, hb⟩ : ∃ b, b = lets s := ⟨_, rfl⟩
    rw [← hb] at hR HL
    have HR := Lib.hid hR
    clear hv hb hR hs hz
    go_enter Try.func35, Try.ntmps35
    go_wp2_with fail
    refine (HV.out _).mono ?_
    rintro e w1 ⟨rfl, rfl⟩
    go_wp2_with fail
    refine (HL.out _).mono ?_
    rintro e w3 ⟨rfl, ht⟩
    have HT3 := Lib.hid ht
    clear ht
    cases b with
    | false =>
      have hR := HR.out
      rw [if_pos rfl] at hR
      subst hR
      go_wp2
      go_ret2
      exact ⟨rfl, HT3.out⟩
    | true =>
      have hcv := fun (w : World) (a b : Int) (t : TypeId) (cap : Nat) => conv_two w a b t (0, 0) cap
      have hvz : (Go.strOfNums [n / 256, n % 256]).size = 2 := by rw [numsB_size]; rfl
      have hR := HR.out
      rw [if_neg (by simp)] at hR
      have HR3 := Lib.hid hR
      clear hR
      go_wp2
      go_ret2
      rw [HR3.out]
      exact ⟨rfl, HT3.out.alloc _⟩
end Go.Proofs.Ytfafpcmdgjmlhaa
