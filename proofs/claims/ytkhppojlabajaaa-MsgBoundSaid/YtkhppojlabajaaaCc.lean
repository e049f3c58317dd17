/- close: Get; ref11: Get. -/
import Derived.Test.YtkhppojlabajaaaCb
namespace Go.Proofs.Ytkhppojlabajaaa
open Go.RowKit
set_option linter.unusedSimpArgs false
set_option linter.unusedVariables false

def codeOf (s : ByteArray) : Int := (sb s).getD 0 0 * 256 + (sb s).getD 1 0
/-- The code and the words of an end's data. -/
def cget (s : ByteArray) : Int × ByteArray × Int :=
  if s.size = 0 then (1005, ⟨#[]⟩, 0)
  else if s.size < 2 ∨ 125 < s.size then (0, ⟨#[]⟩, 110)
  else if valid11 (codeOf s) = false then (0, ⟨#[]⟩, 110)
  else if lets (s.extract 2 s.size) = false then (0, ⟨#[]⟩, 111)
  else (codeOf s, s.extract 2 s.size, 0)

set_option maxHeartbeats 3200000 in
set_option maxRecDepth 100000 in
theorem c_get (s : ByteArray) (hs : s.size ≤ maxLen) (w : World) : Calls Try.prog 61 #[.string s] w fun e w' => e = .returned (.tuple #[.int .i64 (cget s).1, .string (cget s).2.1, .int .i64 (cget s).2.2]) ∧ Touch NoS w w' := by
  obtain ⟨R, hR⟩ : ∃ R, R = cget s := ⟨_, rfl⟩
  rw [← hR]
  unfold cget at hR
  by_cases h0 : s.size = 0
  · rw [if_pos h0] at hR
    obtain rfl : s = ⟨#[]⟩ := ByteArray.ext (Array.eq_empty_of_size_eq_zero h0)
    subst hR
    go_enter Try.func61, Try.ntmps61
    go_wp2
    refine bodyPost_ret (v := .tuple #[.int .i64 1005, .string ⟨#[]⟩, .int .i64 0]) (by simp [results, Try.results61, go_sem]) rfl ⟨rfl, Touch.refl _ _⟩
  rw [if_neg h0] at hR
  obtain ⟨hq1, hq2⟩ := str_ne s (by omega)
  by_cases h1 : s.size < 2
  · rw [if_pos (.inl h1)] at hR
    subst hR
    go_enter Try.func61, Try.ntmps61
    go_wp2
    refine bodyPost_ret (v := .tuple #[.int .i64 0, .string ⟨#[]⟩, .int .i64 110]) (by simp [results, Try.results61, go_sem]) rfl ⟨rfl, Touch.refl _ _⟩
  by_cases h2 : 125 < s.size
  · rw [if_pos (.inr h2)] at hR
    subst hR
    have h1' : 2 ≤ s.size := by omega
    clear h1
    go_enter Try.func61, Try.ntmps61
    go_wp2
    refine bodyPost_ret (v := .tuple #[.int .i64 0, .string ⟨#[]⟩, .int .i64 110]) (by simp [results, Try.results61, go_sem]) rfl ⟨rfl, Touch.refl _ _⟩
  rw [if_neg (by omega)] at hR
  have h1' : 2 ≤ s.size := by omega
  have h2' : s.size ≤ 125 := by omega
  clear h0 h1 h2
  obtain ⟨x, hx⟩ : ∃ x, x = (sb s).getD 0 0 := ⟨_, rfl⟩
  obtain ⟨v, hv⟩ : ∃ v, v = (sb s).getD 1 0 := ⟨_, rfl⟩
  have hx8 : 0 ≤ x ∧ x ≤ 255 := by rw [hx]; exact getD_in (sb_in s) 0 (by omega) 0
  have hv8 : 0 ≤ v ∧ v ≤ 255 := by rw [hv]; exact getD_in (sb_in s) 0 (by omega) 1
  have hxs : ((s[0].toNat : Nat) : Int) = x := by rw [hx, sb_getD s 0 (by omega)]
  have hvs : ((s[1].toNat : Nat) : Int) = v := by rw [hv, sb_getD s 1 (by omega)]
  have hcd : codeOf s = x * 256 + v := by unfold codeOf; rw [← hx, ← hv]
  rw [hcd] at hR
  have hor : bits .or .i64 (x * 256) v = x * 256 + v := bits_join .i64 63 (by decide) (fun n h0 h1 => IntWalk.i64_in n (by omega)) 8 _ _ (by omega) (by omega) (by omega) (by omega) (by omega) (by omega)
  have hw1 : IntKind.i64.wrap (x * 2 ^ 8) = x * 256 := by rw [IntWalk.i64_in _ (by omega)]; omega
  have hw2 : IntKind.i64.wrap (x * 256) = x * 256 := IntWalk.i64_in _ (by omega)
  obtain ⟨r, hr⟩ : ∃ r, r = s.extract 2 s.size := ⟨_, rfl⟩
  have hrz : r.size ≤ 125 := by rw [hr]; simp; omega
  have HRX := Lib.hid hr
  have HRR := Lib.hid hR
  have HV := Lib.hid (fun W => c_valid (x * 256 + v) W)
  have HCV := Lib.hid (fun W => conv_ex W r (by unfold maxLen; omega))
  obtain ⟨b, hb⟩ : ∃ b, b = lets r := ⟨_, rfl⟩
  have HB := Lib.hid hb
  obtain ⟨a, ha⟩ : ∃ a, a = valid11 (x * 256 + v) := ⟨_, rfl⟩
  have HA := Lib.hid ha
  rw [← ha] at HV
  have p0 : (0 : Int) < s.size := by omega
  have p1 : (1 : Int) < s.size := by omega
  have p2 : (2 : Int) ≤ s.size := by omega
  clear hx hv hcd hR hr hb ha hs
  go_enter Try.func61, Try.ntmps61
  go_wp2_with fail
  go_region
  rw [← HRX.out]
  go_wp2_with fail
  refine (HV.out _).mono ?_
  rintro e w1 ⟨rfl, ht⟩
  have HT1 : Hid (Touch NoS w w1) := (Touch.refl _ w).drew.trans ht
  clear ht
  cases a with
  | false =>
    have hR := HRR.out
    rw [if_pos HA.out.symm] at hR
    subst hR
    go_wp2
    refine bodyPost_ret (v := .tuple #[.int .i64 0, .string ⟨#[]⟩, .int .i64 110]) (by simp [results, Try.results61, go_sem]) rfl ⟨rfl, HT1.out⟩
  | true =>
    obtain ⟨w2, cp, hconv, ht, hrd, hcp, hcm, h23⟩ := HCV.out w1
    have HT2 := Lib.hid (HT1.out.trans ht)
    have HRD := Lib.hid hrd
    clear ht hrd hcp hcm HT1 HV
    go_wp2_with fail
    refine (u_validn _ (sb r) r.size cp (sb_length r) w2 HRD.out (sb_in r) (by intro a ha; injection ha with ha; subst ha; exact h23) (by omega)).mono ?_
    rintro e w3 ⟨rfl, ht⟩
    rw [show (ucount (sb r)).2 = b from HB.out.symm]
    have HT3 := Lib.hid (HT2.out.trans ht)
    clear ht HT2 HRD HCV hconv h23
    cases b with
    | false =>
      have hR := HRR.out
      rw [if_neg (by rw [← HA.out]; simp), ← HRX.out, if_pos HB.out.symm] at hR
      subst hR
      go_wp2
      refine bodyPost_ret (v := .tuple #[.int .i64 0, .string ⟨#[]⟩, .int .i64 111]) (by simp [results, Try.results61, go_sem]) rfl ⟨rfl, HT3.out⟩
    | true =>
      have hR := HRR.out
      rw [if_neg (by rw [← HA.out]; simp), ← HRX.out, if_neg (by rw [← HB.out]; simp)] at hR
      subst hR
      go_wp2
      refine bodyPost_ret (v := .tuple #[.int .i64 (x * 256 + v), .string r, .int .i64 0]) (by simp [results, Try.results61, go_sem]) rfl ⟨rfl, HT3.out⟩

end Go.Proofs.Ytkhppojlabajaaa
