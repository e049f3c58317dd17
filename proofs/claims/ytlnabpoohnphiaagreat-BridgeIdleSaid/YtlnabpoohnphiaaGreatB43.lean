/- law09: FrameBack, FrameSoon: the walks. | ref09: Get, in one; law09: FrameGets: the walk. | ref10: One, All. | ref10: All. -/
import Derived.Test.YtlnabpoohnphiaaGreatB42
import Derived.Test.YtlnabpoohnphiaaGreatB12
import Derived.Test.YtlnabpoohnphiaaGreatB13
/- law09: FrameBack, FrameSoon: the walks. -/
namespace Go.Proofs.YtlnabpoohnphiaaGreat
open Go.RowKit
set_option linter.unusedSimpArgs false
set_option linter.unusedVariables false

/-- What was known one byte ago. -/
def soonS (l : List Int) (most : Int) (k : Nat) : Fr × Nat × Int := if k = 0 then (Fr.zero, 0, 90) else fget (l.take (k - 1)) most
theorem soon_fact {l : List Int} (hb : bytesIn l) (hl : l.length ≤ maxLen) (most : Int) (k : Nat) (hk : k ≤ l.length) :
    ((soonS l most k).2.2 ≠ 90 → fget (l.take k) most = soonS l most k) ∧ ((fget (l.take k) most).2.2 = 0 → 2 ≤ (fget (l.take k) most).2.1 ∧ (fget (l.take k) most).2.1 ≤ k) ∧ ((fget (l.take k) most).2.2 ≠ 0 → (fget (l.take k) most).2.1 = 0) := by
  refine ⟨fun h => ?_, fun h => ?_, fun h => (fget_no (hb.take k) h).2⟩
  · unfold soonS at h ⊢
    by_cases h0 : k = 0
    · rw [if_pos h0] at h; exact absurd rfl h
    · rw [if_neg h0] at h ⊢
      have e : l.take k = l.take (k - 1) ++ [l[k - 1]] := by
        have := List.take_add_one (l := l) (i := k - 1)
        rw [show k - 1 + 1 = k from by omega, List.getElem?_eq_getElem (by omega)] at this
        exact this
      have hbk := hb.take k
      rw [e] at hbk ⊢
      exact fget_mono hbk most h
  · have := fget_ok (hb.take k) (by rw [List.length_take]; omega) (most := most) (f := (fget (l.take k) most).1) (n := (fget (l.take k) most).2.1) (by rw [← h])
    obtain ⟨_, _, _, h4, h5⟩ := this
    have h6 := congrArg List.length h5
    rw [fput_length, List.length_take] at h6
    rw [List.length_take] at h4 h6
    unfold size9 at h6
    omega
end Go.Proofs.YtlnabpoohnphiaaGreat
/- ref09: Get, in one; law09: FrameGets: the walk. -/
namespace Go.Proofs.YtlnabpoohnphiaaGreat
open Go.RowKit
set_option linter.unusedSimpArgs false
set_option linter.unusedVariables false

theorem r9_get (s : ByteArray) (hs : s.size ≤ 70368744177664) (most : Int) (hm : (Lit.int .i64 most).wf = true) (w : World) :
    Calls Tryz.prog 71 #[.string s, .int .i64 most] w fun e w' =>
      e = .returned (.tuple #[.agg (fget (sb s) most).1.cs, .int .i64 (fget (sb s) most).2.1, .int .i64 (fget (sb s) most).2.2]) ∧ Touch NoS w w' := by
  have hlen := sb_length s
  by_cases h0 : s.size = 0
  · have hg : fget (sb s) most = (Fr.zero, 0, 90) := by
      unfold fget
      rw [if_pos (List.eq_nil_of_length_eq_zero (by omega))]
    rw [hg]
    exact r9_get_none most s h0 w
  have hpos : 0 < s.size := by omega
  have hx8 := getD_in (sb_in s) 0 (by omega) 0
  have hv8 := getD_in (sb_in s) 0 (by omega) 1
  unfold fget
  rw [if_neg (by intro h; rw [h] at hlen; simp at hlen; omega)]
  have hxs := sb_getD s 0 hpos
  obtain ⟨x, hx⟩ : ∃ x, x = (sb s).getD 0 0 := ⟨_, rfl⟩
  rw [← hx] at hx8 hxs ⊢
  by_cases hbad : x / 16 % 8 ≠ 0 ∨ known9 (x % 16) = false ∨ (control9 (x % 16) = true ∧ (x < 128 ∨ (1 < (sb s).length ∧ 125 < (sb s).getD 1 0 % 128)))
  · rw [if_pos hbad]
    by_cases hz : x / 16 % 8 = 0
    · by_cases hk : known9 (x % 16) = true
      · have hc : control9 (x % 16) = true ∧ (x < 128 ∨ (1 < (sb s).length ∧ 125 < (sb s).getD 1 0 % 128)) := by
          rcases hbad with h | h | h
          · exact absurd hz h
          · rw [hk] at h; cases h
          · exact h
        by_cases hf : x < 128
        · exact r9_get_nofin s hpos hs x (x % 16) most w hxs.symm hx8.1 (by omega) (decide_eq_false (by omega)) rfl hz hc.1
        · obtain ⟨h1, h2⟩ : 1 < (sb s).length ∧ 125 < (sb s).getD 1 0 % 128 := by
            rcases hc.2 with h | h
            · exact absurd h hf
            · exact h
          rw [hlen] at h1
          exact r9_get_large s h1 hs x (x % 16) ((sb s).getD 1 0) most w hxs.symm hx8.1 (by omega) (decide_eq_true (by omega)) rfl hz hc.1 (sb_getD s 1 h1).symm hv8.1 (by omega) h2
      · have hk' : known9 (x % 16) = false := by cases h : known9 (x % 16); rfl; exact absurd h hk
        have h1 := of_decide_eq_false hk'
        exact r9_get_unknown s hpos hs x (x % 16) (decide (128 ≤ x)) most w hxs.symm hx8.1 (by omega) rfl rfl hz (by omega) (by unfold control9; exact decide_eq_false (by omega))
    · exact r9_get_high s hpos hs x (x % 16) (x / 16 % 8) (decide (128 ≤ x)) most w hxs.symm hx8.1 (by omega) rfl rfl rfl hz
  · rw [if_neg hbad]
    have hz : x / 16 % 8 = 0 := by
      rcases Decidable.em (x / 16 % 8 = 0) with h | h
      · exact h
      · exact absurd (.inl h) hbad
    have hk : known9 (x % 16) = true := by
      cases h : known9 (x % 16)
      · exact absurd (.inr (.inl h)) hbad
      · rfl
    have hok : control9 (x % 16) = true → decide (128 ≤ x) = true ∧ (1 < (sb s).length → ¬ 125 < (sb s).getD 1 0 % 128) := fun h => by
      refine ⟨decide_eq_true ?_, fun h1 h2 => hbad (.inr (.inr ⟨h, .inr ⟨h1, h2⟩⟩))⟩
      rcases Int.lt_or_le x 128 with h2 | h2
      · exact absurd (.inr (.inr ⟨h, .inl h2⟩)) hbad
      · exact h2
    by_cases hn1 : 1 < s.size
    · exact r9_get_many s hn1 hs x (x % 16) ((sb s).getD 1 0) (decide (128 ≤ x)) (control9 (x % 16)) most hm w hxs.symm hx8.1 (by omega) rfl rfl hz rfl hk (sb_getD s 1 hn1).symm hv8.1 (by omega) (fun h => ⟨(hok h).1, (hok h).2 (by omega)⟩)
    · have hR : flen (sb s) most (decide (128 ≤ x)) (x % 16) = (Fr.zero, 0, 90) := by
        have : (sb s).drop 1 = [] := List.eq_nil_of_length_eq_zero (by simp; omega)
        unfold flen
        rw [this]
        rfl
      rw [hR]
      exact r9_get_one s (by omega) x (x % 16) (decide (128 ≤ x)) (control9 (x % 16)) most w hxs.symm hx8.1 (by omega) rfl rfl hz rfl hk (fun h => (hok h).1)

end Go.Proofs.YtlnabpoohnphiaaGreat
/- ref10: One, All. -/
namespace Go.Proofs.YtlnabpoohnphiaaGreat
open Go.RowKit
set_option linter.unusedSimpArgs false
set_option linter.unusedVariables false

theorem one_results (tmps : Array Value) (w : World) (f : Fr) (g : Nat) (n e : Int) (h4 : tmps.getD 6 undef = .pointer (some ⟨g, 0, none⟩)) (h5 : tmps.getD 7 undef = .int .i64 n) (h6 : tmps.getD 8 undef = .int .i64 e)
    (hb : Blk w g 42 f.cs) : (results Tryz.f46 tmps).run Tryz.prog w = .ok (.tuple #[.agg f.cs, .int .i64 n, .int .i64 e]) w := by
  have hld := fr_load hb rfl
  obtain ⟨a, b, c, d, e', h, i, j⟩ := f
  have c0 := hb.cell 0
  have c1 := hb.cell 1
  have c2 := hb.cell 2
  have c3 := hb.cell 3
  have c4 := hb.cell 4
  have c5 := hb.cell 5
  have c6 := hb.cell 6
  have c7 := hb.cell 7
  simp only [Array.getD_eq_getD_getElem?] at h4 h5 h6
  simp [Fr.cs] at c0 c1 c2 c3 c4 c5 c6 c7
  simp [results, Tryz.results46, go_sem, h4, h5, h6, c0, c1, c2, c3, c4, c5, c6, c7, Fr.cs]

set_option maxHeartbeats 6400000 in
set_option maxRecDepth 100000 in
theorem r10_one (s : ByteArray) (hs : s.size ≤ 70368744177664) (mk : Bool) (most : Int) (hm : (Lit.int .i64 most).wf = true) (w : World) :
    Calls Tryz.prog 46 #[.string s, .bool mk, .int .i64 most] w fun e w' => e = .returned (.tuple #[.agg (slook mk most (sb s)).1.cs, .int .i64 (slook mk most (sb s)).2.1, .int .i64 (slook mk most (sb s)).2.2]) ∧ Touch NoS w w' := by
  have hlen := sb_length s
  obtain ⟨R, hR⟩ : ∃ R, R = slook mk most (sb s) := ⟨_, rfl⟩
  rw [← hR]
  unfold slook at hR
  obtain ⟨f, k, e, hG⟩ : ∃ f k e, fget (sb s) most = (f, k, e) := ⟨_, _, _, rfl⟩
  have HG := Lib.hid (fun W => r9_get s hs most hm W)
  rw [hG] at HG hR
  simp only at HG
  by_cases h0 : s.size = 0
  · rw [if_neg (fun h => by omega), if_neg (fun h => by omega)] at hR
    subst hR
    clear hG hm
    obtain ⟨fin, op, masked, k0, k1, k2, k3, d⟩ := f
    have hz : (s.size : Int) = 0 := by omega
    go_enter Tryz.func46, Tryz.ntmps46
    go_wp2_with fail
    refine (HG.out _).mono ?_
    rintro e' w1 ⟨rfl, ht⟩
    have HB := Lib.hid ((Blk.new w 42 Fr.zero.cs).touch ht (fun h => h))
    have HT : Hid (Touch NoS w w1) := ((Touch.refl _ w).alloc _).trans ht
    clear ht
    go_wp2_with (refine wpList_store_row rfl 42 (.tmp 6) (.tmp 41) rfl w.heap.size (Fr.cs ⟨fin, op, masked, k0, k1, k2, k3, d⟩) rfl rfl 42 Fr.zero.cs HB.out fr_info rfl (fr_one _) ?_)
    refine bodyPost_ret (v := .tuple #[.agg (Fr.cs ⟨fin, op, masked, k0, k1, k2, k3, d⟩), .int .i64 k, .int .i64 e]) (one_results _ _ _ _ _ _ rfl rfl rfl HB.out.row) rfl ⟨rfl, HT.out.row (Nat.le_refl _) _⟩
  have hp0 : (0 : Int) < s.size := by omega
  have hp1 : (1 : Int) ≤ s.size := by omega
  have hs1 : sb (s.extract 0 1) = (sb s).take 1 := by rw [sb_extract, List.drop_zero]
  obtain ⟨f1, kk, e1, hG1⟩ : ∃ f k e, fget ((sb s).take 1) most = (f, k, e) := ⟨_, _, _, rfl⟩
  have HG1 := Lib.hid (fun W => r9_get (s.extract 0 1) (by simp; omega) most hm W)
  rw [hs1, hG1] at HG1
  rw [hG1] at hR
  simp only at HG1 hR
  obtain ⟨fin1, op1, masked1, k01, k11, k21, k31, d1⟩ := f1
  have hone : (sb s).length = 1 → e1 = 91 → (f, k, e) = (Fr.zero, 0, 91) := fun h1 h2 => by
    have ht : (sb s).take 1 = sb s := List.take_of_length_le (by omega)
    rw [ht, hG] at hG1
    have h3 := fget_no (sb_in s) (most := most) (by rw [hG, hG1]; simp only; omega)
    rw [hG] at h3
    simp only at h3
    injection hG1 with _ hG1
    injection hG1 with _ hG1
    rw [h3.1, h3.2, hG1, h2]
  have HONE := Lib.hid hone
  have HRR := Lib.hid hR
  have HLN := Lib.hid hlen
  clear hG hG1 hs1 hm hR hone
  simp only [Fr.cs] at HG1
  by_cases he1 : e1 = 91
  · subst he1
    have hR : R = (Fr.zero, 0, 91) := by
      rw [HRR.out]
      by_cases h1 : 1 < s.size
      · rw [if_pos ⟨by omega, rfl⟩]
      · rw [if_neg (fun h => by omega), if_neg (fun h => by omega)]
        exact HONE.out (by omega) rfl
    subst hR
    clear HRR HONE
    go_enter Tryz.func46, Tryz.ntmps46
    go_wp2_with fail
    refine (HG1.out _).mono ?_
    rintro e' w1 ⟨rfl, ht⟩
    have HB := Lib.hid (((Blk.new w 42 Fr.zero.cs).touch ht (fun h => h)).alloc (.cells #[.bool fin1, .int .i64 op1, .bool masked1, .int .u8 k01, .int .u8 k11, .int .u8 k21, .int .u8 k31, .string d1] 42))
    have HT : Hid (Touch NoS w (w1.alloc (.cells #[.bool fin1, .int .i64 op1, .bool masked1, .int .u8 k01, .int .u8 k11, .int .u8 k21, .int .u8 k31, .string d1] 42))) := (((Touch.refl _ w).alloc _).trans ht).alloc _
    clear ht
    go_upto_region 4 with (fail)
    go_wp2_with (refine wpList_store_row rfl 42 (.tmp 6) (.tmp 25) rfl w.heap.size Fr.zero.cs rfl rfl 42 Fr.zero.cs HB.out fr_info rfl (fr_one _) ?_; rw [setRow_same HB.out])
    refine bodyPost_ret (v := .tuple #[.agg Fr.zero.cs, .int .i64 0, .int .i64 91]) (one_results _ _ _ _ _ _ rfl rfl rfl HB.out) rfl ⟨rfl, HT.out⟩
  have hq1 : (e1 == 91) = false := by rw [beq_eq_false_iff_ne]; exact he1
  obtain ⟨v, hv⟩ : ∃ v, v = (sb s).getD 1 0 := ⟨_, rfl⟩
  obtain ⟨nb, hnb⟩ : ∃ nb, nb = decide (1 < s.size ∧ decide (128 ≤ v) ≠ mk) := ⟨_, rfl⟩
  have hR : R = if nb = true then (Fr.zero, 0, 100) else (f, k, e) := by
    rw [HRR.out, if_neg (fun h => he1 h.2), ← hv, HLN.out, hnb]
    simp only [decide_eq_true_eq]
  have HRd := Lib.hid hR
  clear HRR HONE hR
  obtain ⟨fin, op, masked, k0, k1, k2, k3, d⟩ := f
  simp only [Fr.cs] at HG
  have hcase : (s.size = 1 ∧ nb = false) ∨ (1 < s.size ∧ ∃ mb, decide (128 ≤ v) = mb ∧ (!(mb == mk)) = nb) := by
    by_cases h1 : 1 < s.size
    · right
      refine ⟨h1, _, rfl, ?_⟩
      rw [hnb]
      cases hm : decide (128 ≤ v) <;> cases mk <;> simp [h1]
    · left
      refine ⟨by omega, ?_⟩
      rw [hnb, decide_eq_false (fun h => h1 h.1)]
  have hv8 : 0 ≤ v ∧ v ≤ 255 := by rw [hv]; exact getD_in (sb_in s) 0 (by omega) 1
  have hvx : ∀ h : 1 < s.size, ((s[1].toNat : Nat) : Int) = v := fun h => by rw [hv, sb_getD s 1 h]
  clear he1 hnb hv
  rcases hcase with ⟨h1, rfl⟩ | ⟨h1, mb, hmb, hnb⟩
  · have hR := HRd.out
    rw [if_neg (by simp)] at hR
    subst hR
    have hi1 : (s.size : Int) = 1 := by omega
    clear hvx
    go_enter Tryz.func46, Tryz.ntmps46
    go_wp2_with fail
    refine (HG1.out _).mono ?_
    rintro e' w1 ⟨rfl, ht⟩
    have HB1 := Lib.hid (((Blk.new w 42 Fr.zero.cs).touch ht (fun h => h)).alloc (.cells #[.bool fin1, .int .i64 op1, .bool masked1, .int .u8 k01, .int .u8 k11, .int .u8 k21, .int .u8 k31, .string d1] 42))
    have HT1 : Hid (Touch NoS w (w1.alloc (.cells #[.bool fin1, .int .i64 op1, .bool masked1, .int .u8 k01, .int .u8 k11, .int .u8 k21, .int .u8 k31, .string d1] 42))) := (((Touch.refl _ w).alloc _).trans ht).alloc _
    clear ht
    go_wp2_with fail
    refine (HG.out _).mono ?_
    rintro e' w2 ⟨rfl, ht⟩
    have HB := Lib.hid (HB1.out.touch ht (fun h => h))
    have HT := Lib.hid (HT1.out.trans ht)
    clear ht HB1 HT1
    go_wp2_with (refine wpList_store_row rfl 42 (.tmp 6) (.tmp 41) rfl w.heap.size (Fr.cs ⟨fin, op, masked, k0, k1, k2, k3, d⟩) rfl rfl 42 Fr.zero.cs HB.out fr_info rfl (fr_one _) ?_)
    refine bodyPost_ret (v := .tuple #[.agg (Fr.cs ⟨fin, op, masked, k0, k1, k2, k3, d⟩), .int .i64 k, .int .i64 e]) (one_results _ _ _ _ _ _ rfl rfl rfl HB.out.row) rfl ⟨rfl, HT.out.row (Nat.le_refl _) _⟩
  · have hvy := hvx h1
    have h1' : (1 : Int) < s.size := by omega
    clear hvx
    cases nb with
    | true =>
      have hR := HRd.out
      rw [if_pos rfl] at hR
      subst hR
      go_enter Tryz.func46, Tryz.ntmps46
      go_wp2_with fail
      refine (HG1.out _).mono ?_
      rintro e' w1 ⟨rfl, ht⟩
      have HB := Lib.hid (((Blk.new w 42 Fr.zero.cs).touch ht (fun h => h)).alloc (.cells #[.bool fin1, .int .i64 op1, .bool masked1, .int .u8 k01, .int .u8 k11, .int .u8 k21, .int .u8 k31, .string d1] 42))
      have HT : Hid (Touch NoS w (w1.alloc (.cells #[.bool fin1, .int .i64 op1, .bool masked1, .int .u8 k01, .int .u8 k11, .int .u8 k21, .int .u8 k31, .string d1] 42))) := (((Touch.refl _ w).alloc _).trans ht).alloc _
      clear ht
      go_upto_region 6 with (fail)
      go_wp2_with (refine wpList_store_row rfl 42 (.tmp 6) (.tmp 37) rfl w.heap.size Fr.zero.cs rfl rfl 42 Fr.zero.cs HB.out fr_info rfl (fr_one _) ?_; rw [setRow_same HB.out])
      refine bodyPost_ret (v := .tuple #[.agg Fr.zero.cs, .int .i64 0, .int .i64 100]) (one_results _ _ _ _ _ _ rfl rfl rfl HB.out) rfl ⟨rfl, HT.out⟩
    | false =>
      have hR := HRd.out
      rw [if_neg (by simp)] at hR
      subst hR
      go_enter Tryz.func46, Tryz.ntmps46
      go_wp2_with fail
      refine (HG1.out _).mono ?_
      rintro e' w1 ⟨rfl, ht⟩
      have HB1 := Lib.hid (((Blk.new w 42 Fr.zero.cs).touch ht (fun h => h)).alloc (.cells #[.bool fin1, .int .i64 op1, .bool masked1, .int .u8 k01, .int .u8 k11, .int .u8 k21, .int .u8 k31, .string d1] 42))
      have HT1 : Hid (Touch NoS w (w1.alloc (.cells #[.bool fin1, .int .i64 op1, .bool masked1, .int .u8 k01, .int .u8 k11, .int .u8 k21, .int .u8 k31, .string d1] 42))) := (((Touch.refl _ w).alloc _).trans ht).alloc _
      clear ht
      go_wp2_with fail
      refine (HG.out _).mono ?_
      rintro e' w2 ⟨rfl, ht⟩
      have HB := Lib.hid (HB1.out.touch ht (fun h => h))
      have HT := Lib.hid (HT1.out.trans ht)
      clear ht HB1 HT1
      go_wp2_with (refine wpList_store_row rfl 42 (.tmp 6) (.tmp 41) rfl w.heap.size (Fr.cs ⟨fin, op, masked, k0, k1, k2, k3, d⟩) rfl rfl 42 Fr.zero.cs HB.out fr_info rfl (fr_one _) ?_)
      refine bodyPost_ret (v := .tuple #[.agg (Fr.cs ⟨fin, op, masked, k0, k1, k2, k3, d⟩), .int .i64 k, .int .i64 e]) (one_results _ _ _ _ _ _ rfl rfl rfl HB.out.row) rfl ⟨rfl, HT.out.row (Nat.le_refl _) _⟩
end Go.Proofs.YtlnabpoohnphiaaGreat
/- ref10: All. -/
namespace Go.Proofs.YtlnabpoohnphiaaGreat
open Go.RowKit
set_option linter.unusedSimpArgs false
set_option linter.unusedVariables false

set_option maxHeartbeats 6400000 in
set_option maxRecDepth 100000 in
theorem r10_all (s : ByteArray) (hs : s.size ≤ 1000000) (mk : Bool) (most : Int) (hm : (Lit.int .i64 most).wf = true) (w : World) :
    Calls Tryz.prog 21 #[.string s, .bool mk, .int .i64 most] w fun e w' => ∃ v, e = .returned (.tuple #[v, .int .i64 (scan mk most (sb s)).2.2, .int .i64 (scan mk most (sb s)).2.1.length]) ∧
      w'.ownsRow w.heap.size 42 8 v (scan mk most (sb s)).1.length (frs (scan mk most (sb s)).1) ∧ Touch NoS w w' := by
  have HM := Lib.hid hm
  obtain ⟨i, hi, hz0, hz1, hz2⟩ := info_parts info_fr
  obtain ⟨R, hR⟩ : ∃ R, R = scan mk most (sb s) := ⟨_, rfl⟩
  rw [← hR]
  have HRR := Lib.hid hR
  clear hm hR
  go_enter Tryz.func21, Tryz.ntmps21
  go_wp2_with fail
  go_loopw [0, 9] (fun sv ov wr => ∃ (l : List Fr) (t : ByteArray), sv = .string t ∧ t.size ≤ 1000000 ∧ l.length + t.size ≤ 1000000 ∧ wr.ownsRow w.heap.size 42 8 ov l.length (frs l) ∧ Hid (R = (l ++ (scan mk most (sb t)).1, (scan mk most (sb t)).2)) ∧ Touch NoS w wr)
    (fun sv _ _ => match sv with | .string t => t.size | _ => 0)
  case atStart =>
    refine ⟨[], s, rfl, hs, by simp; omega, ⟨rfl, .inr ⟨w.heap.size, 0, #[], rfl, Nat.le_refl _, Blk.new _ _ _, Nat.le_refl _, by simp [maxLen], rfl, rfl⟩⟩, HRR.out, (Touch.refl _ _).alloc _⟩
  case round =>
    obtain ⟨l, t, rfl, htz, hlz, ho, hsc, ht⟩ := hrel
    have hin := sb_in t
    have hlen := sb_length t
    have hse := scan_eq mk most (sb t) hin (by rw [hlen]; unfold maxLen; omega)
    have HON := Lib.hid (r10_one t (by omega) mk most HM.out wr)
    have h2 := fun h => slook_two (mk := mk) (most := most) hin (by rw [hlen]; unfold maxLen; omega) h
    obtain ⟨f, k, e, hS⟩ : ∃ f k e, slook mk most (sb t) = (f, k, e) := ⟨_, _, _, rfl⟩
    rw [hS] at hse HON h2
    simp only at hse HON h2
    rw [hlen] at h2
    obtain ⟨Av, cv, rfl, hlc, hcm, _, _, _⟩ := own_cases ho
    have HO := Lib.hid ho
    have HSC := Lib.hid hsc
    have HSE := Lib.hid hse
    have HT := Lib.hid ht
    have H2 := Lib.hid h2
    have hsz : w.heap.size ≤ wr.heap.size := ht.size
    clear hin hlen hse hS ho hsc ht h2 hlc hcm
    obtain ⟨fin, op, masked, k0, k1, k2, k3, d⟩ := f
    simp only [Fr.cs] at HON
    by_cases he9 : e = 90
    · subst he9
      have hR : R = (l, sb t, 0) := by
        have h := HSC.out.out
        rw [HSE.out, if_neg (by omega), if_pos rfl] at h
        rw [h, List.append_nil]
      have HR2 := Lib.hid hR
      clear HSC HSE H2 HRR
      go_wp2_with fail
      refine HON.out.mono ?_
      rintro e' w1 ⟨rfl, ht⟩
      have HO1 := Lib.hid (own_no HO.out (ht.alloc (.cells #[.bool fin, .int .i64 op, .bool masked, .int .u8 k0, .int .u8 k1, .int .u8 k2, .int .u8 k3, .string d] 42)))
      have HT1 := Lib.hid ((HT.out.trans ht).alloc (.cells #[.bool fin, .int .i64 op, .bool masked, .int .u8 k0, .int .u8 k1, .int .u8 k2, .int .u8 k3, .string d] 42))
      clear ht
      go_wp2
      refine bodyPost_ret (v := .tuple #[.slice Av l.length cv, .int .i64 0, .int .i64 t.size]) (by simp [results, Tryz.results21, go_sem]) rfl ?_
      have h := HR2.out
      subst h
      exact ⟨_, by rw [sb_length], HO1.out, HT1.out⟩
    by_cases he0 : e = 0
    · subst he0
      have hR : R = (l ++ [⟨fin, op, masked, k0, k1, k2, k3, d⟩] ++ (scan mk most ((sb t).drop k)).1, (scan mk most ((sb t).drop k)).2) := by
        have h := HSC.out.out
        rw [HSE.out, if_pos rfl] at h
        rw [h]
        simp
      have HR2 := Lib.hid hR
      have h2 := H2.out rfl
      have hk2 : 2 ≤ k := h2.1
      have hkt : k ≤ t.size := h2.2
      have hki : (k : Int) ≤ t.size := by omega
      have HFO : Hid (∀ u ∈ (Fr.mk fin op masked k0 k1 k2 k3 d).cl, u.oneCell' = true) := by have := frs_one [⟨fin, op, masked, k0, k1, k2, k3, d⟩]; rw [frs_single] at this; exact this
      have HFC : Hid ((Fr.mk fin op masked k0 k1 k2 k3 d).cl.length = 1 * 8) := rfl
      clear HSC HSE H2 HRR h2 hR he9
      go_wp2_with fail
      refine HON.out.mono ?_
      rintro e' w1 ⟨rfl, ht⟩
      have hs1 : w.heap.size ≤ w1.heap.size := Nat.le_trans hsz ht.size
      have HO1 := Lib.hid (own_no HO.out ht)
      have HT1 := Lib.hid (HT.out.trans ht)
      clear ht HO HT hsz
      go_wp2_with fail
      obtain ⟨w2, hw2⟩ : ∃ w2, w2 = w1.alloc (.cells #[.bool fin, .int .i64 op, .bool masked, .int .u8 k0, .int .u8 k1, .int .u8 k2, .int .u8 k3, .string d] 42) := ⟨_, rfl⟩
      rw [← hw2]
      have hb2 : Blk w2 w1.heap.size 42 #[.bool fin, .int .i64 op, .bool masked, .int .u8 k0, .int .u8 k1, .int .u8 k2, .int .u8 k3, .string d] := by rw [hw2]; exact Blk.new _ _ _
      have HO2 : Hid (w2.ownsRow w.heap.size 42 8 (.slice Av l.length cv) l.length (frs l)) := by rw [hw2]; exact own_no HO1.out ((Touch.refl _ _).alloc _)
      have HT2 : Hid (Touch NoS w w2) := by rw [hw2]; exact HT1.out.alloc _
      have hs2 : w.heap.size ≤ w2.heap.size := HT2.out.size
      have c0 := hb2.cell 0
      have c1 := hb2.cell 1
      have c2 := hb2.cell 2
      have c3 := hb2.cell 3
      have c4 := hb2.cell 4
      have c5 := hb2.cell 5
      have c6 := hb2.cell 6
      have c7 := hb2.cell 7
      have blt := hb2.lt
      simp at c0 c1 c2 c3 c4 c5 c6 c7
      have HRN : Hid (Rd (w2.alloc (.cells (Fr.mk fin op masked k0 k1 k2 k3 d).cl.toArray 42)).drew (some ⟨w2.heap.size, 0, none⟩) (Fr.mk fin op masked k0 k1 k2 k3 d).cl) := (Rd.new w2 (Fr.mk fin op masked k0 k1 k2 k3 d).cl 42 (0, 0)).touch_no (Touch.refl _ _).drew
      clear hw2 hb2 HO1 HT1
      go_region_law (first
        | (refine step_app_row _ rfl (.tmp 31) (.tmp 33) 51 rfl w.heap.size 42 i _ 8 40 Tryz.underlying51 hi hz0 hz1 hz2 rfl (by decide) (.slice Av l.length cv) l.length (frs l) (by simp [Act.eval, Act.put]) (own_no HO2.out ((Touch.refl _ _).alloc _).drew) (some ⟨w2.heap.size, 0, none⟩) 1 1 (Fr.mk fin op masked k0 k1 k2 k3 d).cl (by simp [Act.eval, Act.put]) HFC.out HRN.out HFO.out (by unfold maxLen; omega) (by omega) (by simp; omega) ?_
           intro v' w4 ho hgr _
           have HO4 := Lib.hid ho
           have HT4 := Lib.hid (((HT2.out.alloc _).drew).grown hgr (fun q hq hl => absurd (own_base HO2.out hq) (by omega)))
           clear ho hgr))
      all_goals
        simp [Act.put]
        go_wp2_with fail
        go_roundw
        · refine ⟨l ++ [(Fr.mk fin op masked k0 k1 k2 k3 d)], t.extract k t.size, rfl, by simp; omega, by simp; omega, ?_, ?_, HT4.out⟩
          · rw [List.length_append, frs_append, frs_single]
            exact HO4.out
          · show R = _
            rw [HR2.out, sb_extract, List.take_of_length_le (by rw [sb_length]; exact Nat.le_refl _)]
        · show (t.extract k t.size).size < t.size
          simp
          omega
    · have hR : R = (l, [], e) := by
        have h := HSC.out.out
        rw [HSE.out, if_neg he0, if_neg he9] at h
        rw [h, List.append_nil]
      have HR2 := Lib.hid hR
      have q0 : (e != 0) = true := by rw [bne_iff_ne]; exact he0
      have q9 : (e == 90) = false := by rw [beq_eq_false_iff_ne]; exact he9
      clear HSC HSE H2 HRR hR
      go_wp2_with fail
      refine HON.out.mono ?_
      rintro e' w1 ⟨rfl, ht⟩
      have HO1 := Lib.hid (own_no HO.out (ht.alloc (.cells #[.bool fin, .int .i64 op, .bool masked, .int .u8 k0, .int .u8 k1, .int .u8 k2, .int .u8 k3, .string d] 42)))
      have HT1 := Lib.hid ((HT.out.trans ht).alloc (.cells #[.bool fin, .int .i64 op, .bool masked, .int .u8 k0, .int .u8 k1, .int .u8 k2, .int .u8 k3, .string d] 42))
      clear ht
      go_wp2
      refine bodyPost_ret (v := .tuple #[.slice Av l.length cv, .int .i64 e, .int .i64 0]) (by simp [results, Tryz.results21, go_sem]) rfl ?_
      have h := HR2.out
      subst h
      exact ⟨_, rfl, HO1.out, HT1.out⟩
end Go.Proofs.YtlnabpoohnphiaaGreat
