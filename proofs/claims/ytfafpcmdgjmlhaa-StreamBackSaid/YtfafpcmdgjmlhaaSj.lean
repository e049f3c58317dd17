/- ref09: Get, in one; law09: FrameGets: the walk. -/
import Derived.Test.YtfafpcmdgjmlhaaSi
import Derived.Test.YtfafpcmdgjmlhaaRb
namespace Go.Proofs.Ytfafpcmdgjmlhaa
open Go.RowKit
set_option linter.unusedSimpArgs false
set_option linter.unusedVariables false

theorem r9_get (s : ByteArray) (hs : s.size ≤ 70368744177664) (most : Int) (hm : (Lit.int .i64 most).wf = true) (w : World) :
    Calls Try.prog 52 #[.string s, .int .i64 most] w fun e w' =>
      e = .returned (.tuple #[.agg (fget (sb s) most).1.cs, .int .i64 (fget (sb s) most).2.1, .int .i64 (fget (sb s) most).2.2]) ∧ Touch NoS w w' := by
  have hlen := sb_length s
  by_cases h0 : s.size = 0
  · have hg : fget (sb s) most = (Fr.zero, 0, 90) := by
      unfold fget
      rw [if_pos (List.eq_nil_of_length_eq_zero (by omega))]
    rw [hg]
    exact r9_get_none most s h0 w
  have hpos : 0 < s.size := by omega
  have hx8 := getD_in (sb_in s) 0 (by omega) 0
  have hv8 := getD_in (sb_in s) 0 (by omega) 1
  unfold fget
  rw [if_neg (by intro h; rw [h] at hlen; simp at hlen; omega)]
  have hxs := sb_getD s 0 hpos
  obtain ⟨x, hx⟩ : ∃ x, x = (sb s).getD 0 0 := ⟨_, rfl⟩
  rw [← hx] at hx8 hxs ⊢
  by_cases hbad : x / 16 % 8 ≠ 0 ∨ known9 (x % 16) = false ∨ (control9 (x % 16) = true ∧ (x < 128 ∨ (1 < (sb s).length ∧ 125 < (sb s).getD 1 0 % 128)))
  · rw [if_pos hbad]
    by_cases hz : x / 16 % 8 = 0
    · by_cases hk : known9 (x % 16) = true
      · have hc : control9 (x % 16) = true ∧ (x < 128 ∨ (1 < (sb s).length ∧ 125 < (sb s).getD 1 0 % 128)) := by
          rcases hbad with h | h | h
          · exact absurd hz h
          · rw [hk] at h; cases h
          · exact h
        by_cases hf : x < 128
        · exact r9_get_nofin s hpos hs x (x % 16) most w hxs.symm hx8.1 (by omega) (decide_eq_false (by omega)) rfl hz hc.1
        · obtain ⟨h1, h2⟩ : 1 < (sb s).length ∧ 125 < (sb s).getD 1 0 % 128 := by
            rcases hc.2 with h | h
            · exact absurd h hf
            · exact h
          rw [hlen] at h1
          exact r9_get_large s h1 hs x (x % 16) ((sb s).getD 1 0) most w hxs.symm hx8.1 (by omega) (decide_eq_true (by omega)) rfl hz hc.1 (sb_getD s 1 h1).symm hv8.1 (by omega) h2
      · have hk' : known9 (x % 16) = false := by cases h : known9 (x % 16); rfl; exact absurd h hk
        have h1 := of_decide_eq_false hk'
        exact r9_get_unknown s hpos hs x (x % 16) (decide (128 ≤ x)) most w hxs.symm hx8.1 (by omega) rfl rfl hz (by omega) (by unfold control9; exact decide_eq_false (by omega))
    · exact r9_get_high s hpos hs x (x % 16) (x / 16 % 8) (decide (128 ≤ x)) most w hxs.symm hx8.1 (by omega) rfl rfl rfl hz
  · rw [if_neg hbad]
    have hz : x / 16 % 8 = 0 := by
      rcases Decidable.em (x / 16 % 8 = 0) with h | h
      · exact h
      · exact absurd (.inl h) hbad
    have hk : known9 (x % 16) = true := by
      cases h : known9 (x % 16)
      · exact absurd (.inr (.inl h)) hbad
      · rfl
    have hok : control9 (x % 16) = true → decide (128 ≤ x) = true ∧ (1 < (sb s).length → ¬ 125 < (sb s).getD 1 0 % 128) := fun h => by
      refine ⟨decide_eq_true ?_, fun h1 h2 => hbad (.inr (.inr ⟨h, .inr ⟨h1, h2⟩⟩))⟩
      rcases Int.lt_or_le x 128 with h2 | h2
      · exact absurd (.inr (.inr ⟨h, .inl h2⟩)) hbad
      · exact h2
    by_cases hn1 : 1 < s.size
    · exact r9_get_many s hn1 hs x (x % 16) ((sb s).getD 1 0) (decide (128 ≤ x)) (control9 (x % 16)) most hm w hxs.symm hx8.1 (by omega) rfl rfl hz rfl hk (sb_getD s 1 hn1).symm hv8.1 (by omega) (fun h => ⟨(hok h).1, (hok h).2 (by omega)⟩)
    · have hR : flen (sb s) most (decide (128 ≤ x)) (x % 16) = (Fr.zero, 0, 90) := by
        have : (sb s).drop 1 = [] := List.eq_nil_of_length_eq_zero (by simp; omega)
        unfold flen
        rw [this]
        rfl
      rw [hR]
      exact r9_get_one s (by omega) x (x % 16) (decide (128 ≤ x)) (control9 (x % 16)) most w hxs.symm hx8.1 (by omega) rfl rfl hz rfl hk (fun h => (hok h).1)

set_option maxHeartbeats 3200000 in
set_option maxRecDepth 100000 in
theorem gets_row (w : World) (s : ByteArray) (hs : s.size ≤ maxLen) (most : Int) (hm : (Lit.int .i64 most).wf = true) : Calls Try.prog 16 #[.string s, .int .i64 most] w fun e w' => e = .returned (.bool true) ∧ Touch NoS w w' := by
  have HS := Lib.hid hs
  have HM := Lib.hid hm
  unfold maxLen at hs
  clear hm
  go_enter Try.func16, Try.ntmps16
  go_wp2_with fail
  refine (aw9 _).mono ?_
  rintro e w1 ⟨rfl, ht⟩
  have HT := Lib.hid ht
  clear ht
  by_cases h5 : 500 < s.size
  · go_wp2_with fail
    refine (aw9 _).mono ?_
    rintro e w2 ⟨rfl, ht⟩
    have HT2 := Lib.hid (HT.out.trans ht)
    clear ht
    go_wp2
    go_ret
    exact ⟨rfl, HT2.out⟩
  have h5' : s.size ≤ 500 := by omega
  obtain ⟨w2, cp, hconv, ht, hrd, hcp, hcm, h23⟩ := conv_ex w1 s HS.out
  have HT2 := Lib.hid (HT.out.trans ht)
  have HR := Lib.hid hrd
  have HCP := Lib.hid hcp
  have HCM := Lib.hid hcm
  clear ht hrd hcp hcm
  go_wp2_with fail
  refine (f_get _ (sb s) s.size cp (sb_length s) most HM.out _ HR.out (sb_in s) HCP.out HCM.out (by omega)).mono ?_
  rintro e w3 ⟨rfl, ht⟩
  have HT3 := Lib.hid (HT2.out.trans ht)
  clear ht
  have hq := fun W => r9_get s (by omega) most HM.out W
  obtain ⟨f, n, er, hG⟩ : ∃ f n er, fget (sb s) most = (f, n, er) := ⟨_, _, _, rfl⟩
  rw [hG] at hq ⊢
  simp only at hq ⊢
  have HQ := Lib.hid hq
  have heql := eql_fr_all f f true (Fr.same_self _)
  clear hq hG hconv HR HCP HCM HS HM HT HT2
  obtain ⟨fin, op, masked, k0, k1, k2, k3, d⟩ := f
  simp only [Fr.cs] at *
  go_wp2_with fail
  refine (HQ.out _).mono ?_
  rintro e w4 ⟨rfl, ht⟩
  have hb : Blk w4 w3.heap.size 43 #[.bool fin, .int .i64 op, .bool masked, .int .u8 k0, .int .u8 k1, .int .u8 k2, .int .u8 k3, .string d] := (Blk.new _ _ _).touch ht (fun h => h)
  have HT4 : Hid (Touch NoS w w4) := (HT3.out.alloc _).trans ht
  have b0 := hb.cell 0
  have b1 := hb.cell 1
  have b2 := hb.cell 2
  have b3 := hb.cell 3
  have b4 := hb.cell 4
  have b5 := hb.cell 5
  have b6 := hb.cell 6
  have b7 := hb.cell 7
  have hlt := hb.lt
  simp at b0 b1 b2 b3 b4 b5 b6 b7
  clear hb ht HT3
  go_wp2
  go_ret
  exact ⟨rfl, HT4.out.alloc _⟩
end Go.Proofs.Ytfafpcmdgjmlhaa
