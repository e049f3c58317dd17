/- ref10: One, All. -/
import Derived.Test.YtfafpcmdgjmlhaaTc
import Derived.Test.YtfafpcmdgjmlhaaSj
namespace Go.Proofs.Ytfafpcmdgjmlhaa
open Go.RowKit
set_option linter.unusedSimpArgs false
set_option linter.unusedVariables false

theorem one_results (tmps : Array Value) (w : World) (f : Fr) (g : Nat) (n e : Int) (h4 : tmps.getD 6 undef = .pointer (some ⟨g, 0, none⟩)) (h5 : tmps.getD 7 undef = .int .i64 n) (h6 : tmps.getD 8 undef = .int .i64 e)
    (hb : Blk w g 43 f.cs) : (results Try.f55 tmps).run Try.prog w = .ok (.tuple #[.agg f.cs, .int .i64 n, .int .i64 e]) w := by
  have hld := fr_load hb rfl
  obtain ⟨a, b, c, d, e', h, i, j⟩ := f
  have c0 := hb.cell 0
  have c1 := hb.cell 1
  have c2 := hb.cell 2
  have c3 := hb.cell 3
  have c4 := hb.cell 4
  have c5 := hb.cell 5
  have c6 := hb.cell 6
  have c7 := hb.cell 7
  simp only [Array.getD_eq_getD_getElem?] at h4 h5 h6
  simp [Fr.cs] at c0 c1 c2 c3 c4 c5 c6 c7
  simp [results, Try.results55, go_sem, h4, h5, h6, c0, c1, c2, c3, c4, c5, c6, c7, Fr.cs]

set_option maxHeartbeats 6400000 in
set_option maxRecDepth 100000 in
theorem r10_one (s : ByteArray) (hs : s.size ≤ 70368744177664) (mk : Bool) (most : Int) (hm : (Lit.int .i64 most).wf = true) (w : World) :
    Calls Try.prog 55 #[.string s, .bool mk, .int .i64 most] w fun e w' => e = .returned (.tuple #[.agg (slook mk most (sb s)).1.cs, .int .i64 (slook mk most (sb s)).2.1, .int .i64 (slook mk most (sb s)).2.2]) ∧ Touch NoS w w' := by
  have hlen := sb_length s
  obtain ⟨R, hR⟩ : ∃ R, R = slook mk most (sb s) := ⟨_, rfl⟩
  rw [← hR]
  unfold slook at hR
  obtain ⟨f, k, e, hG⟩ : ∃ f k e, fget (sb s) most = (f, k, e) := ⟨_, _, _, rfl⟩
  have HG := Lib.hid (fun W => r9_get s hs most hm W)
  rw [hG] at HG hR
  simp only at HG
  by_cases h0 : s.size = 0
  · rw [if_neg (fun h => by omega), if_neg (fun h => by omega)] at hR
    subst hR
    clear hG hm
    obtain ⟨fin, op, masked, k0, k1, k2, k3, d⟩ := f
    have hz : (s.size : Int) = 0 := by omega
    go_enter Try.func55, Try.ntmps55
    go_wp2_with fail
    refine (HG.out _).mono ?_
    rintro e' w1 ⟨rfl, ht⟩
    have HB := Lib.hid ((Blk.new w 43 Fr.zero.cs).touch ht (fun h => h))
    have HT : Hid (Touch NoS w w1) := ((Touch.refl _ w).alloc _).trans ht
    clear ht
    go_wp2_with (refine wpList_store_row rfl 43 (.tmp 6) (.tmp 41) rfl w.heap.size (Fr.cs ⟨fin, op, masked, k0, k1, k2, k3, d⟩) rfl rfl 43 Fr.zero.cs HB.out fr_info rfl (fr_one _) ?_)
    refine bodyPost_ret (v := .tuple #[.agg (Fr.cs ⟨fin, op, masked, k0, k1, k2, k3, d⟩), .int .i64 k, .int .i64 e]) (one_results _ _ _ _ _ _ rfl rfl rfl HB.out.row) rfl ⟨rfl, HT.out.row (Nat.le_refl _) _⟩
  have hp0 : (0 : Int) < s.size := by omega
  have hp1 : (1 : Int) ≤ s.size := by omega
  have hs1 : sb (s.extract 0 1) = (sb s).take 1 := by rw [sb_extract, List.drop_zero]
  obtain ⟨f1, kk, e1, hG1⟩ : ∃ f k e, fget ((sb s).take 1) most = (f, k, e) := ⟨_, _, _, rfl⟩
  have HG1 := Lib.hid (fun W => r9_get (s.extract 0 1) (by simp; omega) most hm W)
  rw [hs1, hG1] at HG1
  rw [hG1] at hR
  simp only at HG1 hR
  obtain ⟨fin1, op1, masked1, k01, k11, k21, k31, d1⟩ := f1
  have hone : (sb s).length = 1 → e1 = 91 → (f, k, e) = (Fr.zero, 0, 91) := fun h1 h2 => by
    have ht : (sb s).take 1 = sb s := List.take_of_length_le (by omega)
    rw [ht, hG] at hG1
    have h3 := fget_no (sb_in s) (most := most) (by rw [hG, hG1]; simp only; omega)
    rw [hG] at h3
    simp only at h3
    injection hG1 with _ hG1
    injection hG1 with _ hG1
    rw [h3.1, h3.2, hG1, h2]
  have HONE := Lib.hid hone
  have HRR := Lib.hid hR
  have HLN := Lib.hid hlen
  clear hG hG1 hs1 hm hR hone
  simp only [Fr.cs] at HG1
  by_cases he1 : e1 = 91
  · subst he1
    have hR : R = (Fr.zero, 0, 91) := by
      rw [HRR.out]
      by_cases h1 : 1 < s.size
      · rw [if_pos ⟨by omega, rfl⟩]
      · rw [if_neg (fun h => by omega), if_neg (fun h => by omega)]
        exact HONE.out (by omega) rfl
    subst hR
    clear HRR HONE
    go_enter Try.func55, Try.ntmps55
    go_wp2_with fail
    refine (HG1.out _).mono ?_
    rintro e' w1 ⟨rfl, ht⟩
    have HB := Lib.hid (((Blk.new w 43 Fr.zero.cs).touch ht (fun h => h)).alloc (.cells #[.bool fin1, .int .i64 op1, .bool masked1, .int .u8 k01, .int .u8 k11, .int .u8 k21, .int .u8 k31, .string d1] 43))
    have HT : Hid (Touch NoS w (w1.alloc (.cells #[.bool fin1, .int .i64 op1, .bool masked1, .int .u8 k01, .int .u8 k11, .int .u8 k21, .int .u8 k31, .string d1] 43))) := (((Touch.refl _ w).alloc _).trans ht).alloc _
    clear ht
    go_upto_region 4 with (fail)
    go_wp2_with (refine wpList_store_row rfl 43 (.tmp 6) (.tmp 25) rfl w.heap.size Fr.zero.cs rfl rfl 43 Fr.zero.cs HB.out fr_info rfl (fr_one _) ?_; rw [setRow_same HB.out])
    refine bodyPost_ret (v := .tuple #[.agg Fr.zero.cs, .int .i64 0, .int .i64 91]) (one_results _ _ _ _ _ _ rfl rfl rfl HB.out) rfl ⟨rfl, HT.out⟩
  have hq1 : (e1 == 91) = false := by rw [beq_eq_false_iff_ne]; exact he1
  obtain ⟨v, hv⟩ : ∃ v, v = (sb s).getD 1 0 := ⟨_, rfl⟩
  obtain ⟨nb, hnb⟩ : ∃ nb, nb = decide (1 < s.size ∧ decide (128 ≤ v) ≠ mk) := ⟨_, rfl⟩
  have hR : R = if nb = true then (Fr.zero, 0, 100) else (f, k, e) := by
    rw [HRR.out, if_neg (fun h => he1 h.2), ← hv, HLN.out, hnb]
    simp only [decide_eq_true_eq]
  have HRd := Lib.hid hR
  clear HRR HONE hR
  obtain ⟨fin, op, masked, k0, k1, k2, k3, d⟩ := f
  simp only [Fr.cs] at HG
  have hcase : (s.size = 1 ∧ nb = false) ∨ (1 < s.size ∧ ∃ mb, decide (128 ≤ v) = mb ∧ (!(mb == mk)) = nb) := by
    by_cases h1 : 1 < s.size
    · right
      refine ⟨h1, _, rfl, ?_⟩
      rw [hnb]
      cases hm : decide (128 ≤ v) <;> cases mk <;> simp [h1]
    · left
      refine ⟨by omega, ?_⟩
      rw [hnb, decide_eq_false (fun h => h1 h.1)]
  have hv8 : 0 ≤ v ∧ v ≤ 255 := by rw [hv]; exact getD_in (sb_in s) 0 (by omega) 1
  have hvx : ∀ h : 1 < s.size, ((s[1].toNat : Nat) : Int) = v := fun h => by rw [hv, sb_getD s 1 h]
  clear he1 hnb hv
  rcases hcase with ⟨h1, rfl⟩ | ⟨h1, mb, hmb, hnb⟩
  · have hR := HRd.out
    rw [if_neg (by simp)] at hR
    subst hR
    have hi1 : (s.size : Int) = 1 := by omega
    clear hvx
    go_enter Try.func55, Try.ntmps55
    go_wp2_with fail
    refine (HG1.out _).mono ?_
    rintro e' w1 ⟨rfl, ht⟩
    have HB1 := Lib.hid (((Blk.new w 43 Fr.zero.cs).touch ht (fun h => h)).alloc (.cells #[.bool fin1, .int .i64 op1, .bool masked1, .int .u8 k01, .int .u8 k11, .int .u8 k21, .int .u8 k31, .string d1] 43))
    have HT1 : Hid (Touch NoS w (w1.alloc (.cells #[.bool fin1, .int .i64 op1, .bool masked1, .int .u8 k01, .int .u8 k11, .int .u8 k21, .int .u8 k31, .string d1] 43))) := (((Touch.refl _ w).alloc _).trans ht).alloc _
    clear ht
    go_wp2_with fail
    refine (HG.out _).mono ?_
    rintro e' w2 ⟨rfl, ht⟩
    have HB := Lib.hid (HB1.out.touch ht (fun h => h))
    have HT := Lib.hid (HT1.out.trans ht)
    clear ht HB1 HT1
    go_wp2_with (refine wpList_store_row rfl 43 (.tmp 6) (.tmp 41) rfl w.heap.size (Fr.cs ⟨fin, op, masked, k0, k1, k2, k3, d⟩) rfl rfl 43 Fr.zero.cs HB.out fr_info rfl (fr_one _) ?_)
    refine bodyPost_ret (v := .tuple #[.agg (Fr.cs ⟨fin, op, masked, k0, k1, k2, k3, d⟩), .int .i64 k, .int .i64 e]) (one_results _ _ _ _ _ _ rfl rfl rfl HB.out.row) rfl ⟨rfl, HT.out.row (Nat.le_refl _) _⟩
  · have hvy := hvx h1
    have h1' : (1 : Int) < s.size := by omega
    clear hvx
    cases nb with
    | true =>
      have hR := HRd.out
      rw [if_pos rfl] at hR
      subst hR
      go_enter Try.func55, Try.ntmps55
      go_wp2_with fail
      refine (HG1.out _).mono ?_
      rintro e' w1 ⟨rfl, ht⟩
      have HB := Lib.hid (((Blk.new w 43 Fr.zero.cs).touch ht (fun h => h)).alloc (.cells #[.bool fin1, .int .i64 op1, .bool masked1, .int .u8 k01, .int .u8 k11, .int .u8 k21, .int .u8 k31, .string d1] 43))
      have HT : Hid (Touch NoS w (w1.alloc (.cells #[.bool fin1, .int .i64 op1, .bool masked1, .int .u8 k01, .int .u8 k11, .int .u8 k21, .int .u8 k31, .string d1] 43))) := (((Touch.refl _ w).alloc _).trans ht).alloc _
      clear ht
      go_upto_region 6 with (fail)
      go_wp2_with (refine wpList_store_row rfl 43 (.tmp 6) (.tmp 37) rfl w.heap.size Fr.zero.cs rfl rfl 43 Fr.zero.cs HB.out fr_info rfl (fr_one _) ?_; rw [setRow_same HB.out])
      refine bodyPost_ret (v := .tuple #[.agg Fr.zero.cs, .int .i64 0, .int .i64 100]) (one_results _ _ _ _ _ _ rfl rfl rfl HB.out) rfl ⟨rfl, HT.out⟩
    | false =>
      have hR := HRd.out
      rw [if_neg (by simp)] at hR
      subst hR
      go_enter Try.func55, Try.ntmps55
      go_wp2_with fail
      refine (HG1.out _).mono ?_
      rintro e' w1 ⟨rfl, ht⟩
      have HB1 := Lib.hid (((Blk.new w 43 Fr.zero.cs).touch ht (fun h => h)).alloc (.cells #[.bool fin1, .int .i64 op1, .bool masked1, .int .u8 k01, .int .u8 k11, .int .u8 k21, .int .u8 k31, .string d1] 43))
      have HT1 : Hid (Touch NoS w (w1.alloc (.cells #[.bool fin1, .int .i64 op1, .bool masked1, .int .u8 k01, .int .u8 k11, .int .u8 k21, .int .u8 k31, .string d1] 43))) := (((Touch.refl _ w).alloc _).trans ht).alloc _
      clear ht
      go_wp2_with fail
      refine (HG.out _).mono ?_
      rintro e' w2 ⟨rfl, ht⟩
      have HB := Lib.hid (HB1.out.touch ht (fun h => h))
      have HT := Lib.hid (HT1.out.trans ht)
      clear ht HB1 HT1
      go_wp2_with (refine wpList_store_row rfl 43 (.tmp 6) (.tmp 41) rfl w.heap.size (Fr.cs ⟨fin, op, masked, k0, k1, k2, k3, d⟩) rfl rfl 43 Fr.zero.cs HB.out fr_info rfl (fr_one _) ?_)
      refine bodyPost_ret (v := .tuple #[.agg (Fr.cs ⟨fin, op, masked, k0, k1, k2, k3, d⟩), .int .i64 k, .int .i64 e]) (one_results _ _ _ _ _ _ rfl rfl rfl HB.out.row) rfl ⟨rfl, HT.out.row (Nat.le_refl _) _⟩
end Go.Proofs.Ytfafpcmdgjmlhaa
