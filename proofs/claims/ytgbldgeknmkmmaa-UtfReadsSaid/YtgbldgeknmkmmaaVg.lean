/- The law UtfReads: the walk. -/
import Derived.Test.YtgbldgeknmkmmaaVf
namespace Go.Proofs.Ytgbldgeknmkmmaa
open Go.RowKit
set_option linter.unusedSimpArgs false
set_option linter.unusedVariables false

set_option maxHeartbeats 1600000 in
theorem reads_row (w : World) (s : ByteArray) (hs : s.size ≤ maxLen) :
    Calls Try.prog 8 #[.string s] w fun e w' => e = .returned (.bool true) ∧ Touch NoS w w' := by
  have kv := fun (W : World) (s : ByteArray) => Lib.run_convert_string_bytes (P := Try.prog) W 9 48 5 s Try.underlying9 Try.underlying48 Try.underlying5
  unfold maxLen at hs
  go_enter Try.func8, Try.ntmps8
  go_wp2_with fail
  refine (u_new _).mono ?_
  rintro e w1 ⟨g, rfl, hgw, hu, ht⟩
  have HU := Lib.hid hu
  have HT := Lib.hid ht
  clear hu ht
  go_wp2_with fail
  refine (u_awake _).mono ?_
  rintro e w2 ⟨rfl, ht⟩
  have HU2 := Lib.hid (HU.out.no ht)
  have HT2 := Lib.hid (HT.out.trans ht)
  clear ht HU HT
  by_cases h300 : 300 < s.size
  · go_wp2_with fail
    refine (u_awake _).mono ?_
    rintro e w3 ⟨rfl, ht⟩
    have HT3 := Lib.hid (HT2.out.trans ht)
    clear ht
    go_wp2
    go_ret
    exact ⟨rfl, HT3.out⟩
  obtain ⟨N, hN⟩ : ∃ N, N = (ufeed Uc.new (sb s)).2 := ⟨_, rfl⟩
  obtain ⟨c, hc⟩ : ∃ c, c = (ufeed Uc.new (sb s)).1 := ⟨_, rfl⟩
  obtain ⟨W, hW⟩ : ∃ W, W = c.whole := ⟨_, rfl⟩
  have hNl : N ≤ s.size := by have := (ufeed_ok (sb s) new_ok).2.2.2; rw [sb_length] at this; omega
  have hbad : (!c.bad) = decide (N = s.size) := by
    have := ufeed_bad (sb s) Uc.new rfl
    rw [← hc, ← hN, sb_length] at this
    cases hb : c.bad
    · rw [hb] at this
      simp at this
      simp
      omega
    · rw [hb] at this
      simp at this
      simp
      omega
  have hcount : ucount (sb s) = (if W = true then c.count else 0, W) := by
    unfold ucount
    rw [← hc, ← hW]
    cases W <;> rfl
  have HN := Lib.hid hN
  have HC := Lib.hid hc
  have HW := Lib.hid hW
  have HB := Lib.hid hbad
  have HCO := Lib.hid hcount
  have HV : Hid ((ucount (sb s)).2 = W) := by rw [hcount]; rfl
  clear hN hc hW hbad hcount
  go_wp2_with fail
  refine (r3_read s (by omega) _).mono ?_
  rintro e w3 ⟨n, rfl, hn, hn0, hn1, ht⟩
  rw [← HN.out, ← HC.out, ← HW.out]
  rw [← HC.out, ← HW.out] at hn
  have HNN := Lib.hid hn
  have HU3 := Lib.hid (HU2.out.no ht)
  have HT3 := Lib.hid (HT2.out.trans ht)
  clear hn ht HU2 HT2
  go_wp2_with fail
  refine (u_feedc g _ s _ _ rfl _ HU3.out new_ok (by simp [Uc.new]; omega)).mono ?_
  rintro e w4 ⟨rfl, hu, ht⟩
  have HU4 := Lib.hid hu
  have HT4 := Lib.hid (HT3.out.at_new ht hgw)
  clear hu ht HU3 HT3
  rw [← HC.out] at HU4
  rw [← HN.out]
  go_wp2_with fail
  refine (u_countc s _ _ rfl _ (by omega)).mono ?_
  rintro e w5 ⟨rfl, ht⟩
  have HU5 := Lib.hid (HU4.out.no ht)
  have HT5 := Lib.hid (HT4.out.trans ht)
  clear ht HU4 HT4
  rw [HCO.out]
  cases W with
  | true =>
    have hn := HNN.out rfl
    subst hn
    rw [if_pos rfl]
    go_wp2_with fail
    refine (u_right g _ _ HU5.out).mono ?_
    rintro e w6 ⟨rfl, rfl⟩
    rw [HB.out]
    have d1 : ((N : Int) == (s.size : Int)) = decide (N = s.size) := int_beq_nat N s.size
    have d2 : (decide (N = s.size) == decide (N = s.size)) = true := by simp
    go_wp2_with fail
    refine (u_whole g _ _ HU5.out).mono ?_
    rintro e w6 ⟨rfl, rfl⟩
    rw [← HW.out]
    go_wp2_with fail
    refine (u_validc s _ _ rfl _ (by omega)).mono ?_
    rintro e w6 ⟨rfl, ht⟩
    have HT6 := Lib.hid (HT5.out.trans ht)
    clear ht HT5
    rw [HV.out]
    go_wp2
    go_ret
    exact ⟨rfl, HT6.out⟩
  | false =>
    rw [if_neg (by simp)]
    clear HNN
    go_wp2_with fail
    refine (u_right g _ _ HU5.out).mono ?_
    rintro e w6 ⟨rfl, rfl⟩
    rw [HB.out]
    have d1 : ((N : Int) == (s.size : Int)) = decide (N = s.size) := int_beq_nat N s.size
    have d2 : (decide (N = s.size) == decide (N = s.size)) = true := by simp
    go_wp2_with fail
    refine (u_whole g _ _ HU5.out).mono ?_
    rintro e w6 ⟨rfl, rfl⟩
    rw [← HW.out]
    go_wp2_with fail
    refine (u_validc s _ _ rfl _ (by omega)).mono ?_
    rintro e w6 ⟨rfl, ht⟩
    have HT6 := Lib.hid (HT5.out.trans ht)
    clear ht HT5
    rw [HV.out]
    go_wp2
    go_ret
    exact ⟨rfl, HT6.out⟩
end Go.Proofs.Ytgbldgeknmkmmaa
