/- law09: FrameOver, FrameTwo: the walks. -/
import Derived.Test.YtfafpcmdgjmlhaaRb
namespace Go.Proofs.Ytfafpcmdgjmlhaa
open Go.RowKit
set_option linter.unusedSimpArgs false
set_option linter.unusedVariables false

theorem check_form {f : Fr} (h : check9 f = 0) : form9 f = true ∧ f.data.size ≤ 65536 := ⟨(check_ok h).2.2, (check_ok h).2.1⟩
theorem size9_le (f : Fr) : size9 f ≤ f.data.size + 14 := by
  have h1 : (if 65536 ≤ f.data.size then 8 else if 125 < f.data.size then 2 else 0) ≤ 8 := by split; omega; split <;> omega
  have h2 : (if f.masked = true then 4 else 0) ≤ 4 := by split <;> omega
  unfold size9
  omega
theorem size9_ge (f : Fr) : 2 ≤ size9 f := by unfold size9; omega
/-- The beginning of a frame's bytes that holds its length: too long is told. -/
theorem fget_long {f : Fr} (hf : f.good) (hc : form9 f = true) (most : Int) (hm : most < f.data.size) (n : Nat) (hn : 1 + (lenB f.data.size).length ≤ n) : fget ((fput f).take n) most = (Fr.zero, 0, 92) := by
  have hz : f.data.size ≤ 9223372036854775807 := hf.2.2
  have hk : known9 f.op = true ∧ (control9 f.op = true → f.fin = true ∧ f.data.size ≤ 125) := by
    have h := hc
    unfold form9 at h
    simp only [Bool.and_eq_true, Bool.not_eq_true'] at h
    refine ⟨h.1.1, fun hcn => ?_⟩
    have h2 := h.1.2
    rw [hcn] at h2
    simp at h2
    exact h2
  have hop : 0 ≤ f.op ∧ f.op ≤ 10 := by
    have := hk.1
    unfold known9 at this
    have := of_decide_eq_true this
    omega
  obtain ⟨x, t, hx, hx1, hx2⟩ := long9_head f
  have hl := long9_length f
  obtain ⟨T, hT⟩ : ∃ T, (fput f).take n = first9 f :: (long9 f ++ T) := by
    refine ⟨(((if f.masked = true then f.key else []) ++ (if f.masked = true then turn f.key 0 (sb f.data) else sb f.data))).take (n - 1 - (long9 f).length), ?_⟩
    unfold fput
    rw [show n = (n - 1) + 1 from by omega, List.take_succ_cons, List.take_append, List.take_of_length_le (by omega), show n - 1 + 1 - 1 = n - 1 from by omega]
  rw [hT]
  have hG : getLen (long9 f ++ T) = ((f.data.size : Int), (lenB f.data.size).length, 0) := getLen_lenB f.data.size (by omega) f.masked T
  have hf0 : first9 f % 16 = f.op := by unfold first9; split <;> omega
  have hf1 : first9 f / 16 % 8 = 0 := by unfold first9; split <;> omega
  have hf2 : decide (128 ≤ first9 f) = f.fin := by
    unfold first9
    cases hfin : f.fin
    · simp; omega
    · simp; omega
  have h1 : (first9 f :: (long9 f ++ T)).getD 1 0 = x := by rw [hx]; rfl
  have hbad : ¬ ((first9 f :: (long9 f ++ T)).getD 0 0 / 16 % 8 ≠ 0 ∨ known9 ((first9 f :: (long9 f ++ T)).getD 0 0 % 16) = false ∨ (control9 ((first9 f :: (long9 f ++ T)).getD 0 0 % 16) = true ∧ ((first9 f :: (long9 f ++ T)).getD 0 0 < 128 ∨ (1 < (first9 f :: (long9 f ++ T)).length ∧ 125 < (first9 f :: (long9 f ++ T)).getD 1 0 % 128)))) := by
    rw [h1, List.getD_cons_zero, hf0, hf1, hk.1, hx1]
    rintro (h | h | ⟨h, h2⟩)
    · exact h rfl
    · cases h
    · obtain ⟨h3, h4⟩ := hk.2 h
      rw [h3] at hf2
      have := of_decide_eq_true hf2
      rcases h2 with h2 | ⟨_, h2⟩
      · omega
      · have := (lenB_small f.data.size).2 h4
        omega
  unfold fget
  rw [if_neg (by simp), if_neg hbad]
  unfold flen
  simp only [List.drop_succ_cons, List.drop_zero, hG]
  rw [if_neg (by omega), if_neg (by omega), if_pos (.inr hm)]
theorem fget_full {f : Fr} (hf : f.good) (hc : form9 f = true) (most : Int) : fget (fput f) most = if most < f.data.size then (Fr.zero, 0, 92) else (f, (fput f).length, 0) := by
  have := fget_fput f hf hc [] most
  rwa [List.append_nil] at this
theorem fput_bytes {f : Fr} (hf : f.good) (hc : form9 f = true) : bytesIn (fput f) := by
  refine fput_in f hf ?_
  have h := hc
  unfold form9 at h
  simp only [Bool.and_eq_true, Bool.not_eq_true'] at h
  have := h.1.1
  unfold known9 at this
  have := of_decide_eq_true this
  omega
/-- A beginning of a frame's bytes that isn't too long is none yet, or all of them. -/
theorem fget_begin {f : Fr} (hf : f.good) (hc : form9 f = true) (most : Int) (hm : ¬ most < f.data.size) (n : Nat) (hn : n ≤ (fput f).length) (hl : (fput f).length ≤ maxLen) : (fget ((fput f).take n) most).2.2 = 90 ∨ n = (fput f).length := by
  by_cases he : (fget ((fput f).take n) most).2.2 = 90
  · exact .inl he
  · right
    have hb := fput_bytes hf hc
    have e : fput f = (fput f).take n ++ (fput f).drop n := (List.take_append_drop n _).symm
    have hb2 := hb
    rw [e] at hb2
    have hmono := fget_mono hb2 most he
    rw [← e, fget_full hf hc, if_neg hm] at hmono
    have hn2 := congrArg (fun q => q.2.1) hmono
    simp only at hn2
    by_cases h0 : (fget ((fput f).take n) most).2.2 = 0
    · -- the bytes that it takes are in the beginning
      have h4 : (fget ((fput f).take n) most).2.1 ≤ ((fput f).take n).length := by
        exact (fget_ok (hb.take n) (by rw [List.length_take]; omega) (most := most) (f := (fget ((fput f).take n) most).1) (n := (fget ((fput f).take n) most).2.1) (by rw [← h0])).2.2.2.1
      rw [← hn2, List.length_take] at h4
      omega
    · have := congrArg (fun q => q.2.2) hmono
      simp only at this
      exact absurd this.symm h0

set_option maxHeartbeats 3200000 in
set_option maxRecDepth 100000 in
theorem over_row (w : World) (f : Fr) (hf : f.good) (most : Int) (hm : (Lit.int .u16 most).wf = true) : Calls Try.prog 21 #[.agg f.cs, .int .u16 most] w fun e w' => e = .returned (.bool true) ∧ Touch NoS w w' := by
  have hz : f.data.size ≤ 2 ^ 63 - 1 := hf.2.2
  obtain ⟨hm0, hm1⟩ := (Lit.wf_int_iff .u16 most).1 hm
  rw [show IntKind.u16.min = 0 from rfl] at hm0
  rw [show IntKind.u16.max = 65535 from rfl] at hm1
  obtain ⟨er, her⟩ : ∃ er, er = check9 f := ⟨_, rfl⟩
  have HPN := Lib.hid (fun h W => f_put_no f hf h W)
  have HPY := Lib.hid (fun h W => f_put f hf h W)
  rw [← her] at HPN HPY
  have hform := fun h => check_form (f := f) (by rw [← her]; exact h)
  have HF := Lib.hid hform
  have HGD := Lib.hid hf
  obtain ⟨L, hL⟩ : ∃ L, L = fput f := ⟨_, rfl⟩
  have HL := Lib.hid hL
  rw [← hL] at HPY
  obtain ⟨f', hff⟩ : ∃ f', f' = f := ⟨_, rfl⟩
  rw [← hff] at HL HF HGD
  obtain ⟨fin, op, masked, k0, k1, k2, k3, d⟩ := f
  have HFF := Lib.hid hff
  have hdz : f'.data.size = d.size := by rw [hff]
  have HDZ := Lib.hid hdz
  simp only [Fr.cs] at *
  clear hm her hf hform hL hff hdz
  go_enter Try.func21, Try.ntmps21
  go_wp2_with fail
  refine (aw9 _).mono ?_
  rintro e w1 ⟨rfl, ht⟩
  have hb := (Blk.new w 43 #[.bool fin, .int .i64 op, .bool masked, .int .u8 k0, .int .u8 k1, .int .u8 k2, .int .u8 k3, .string d]).touch ht (fun h => h)
  have HT := Lib.hid (((Touch.refl NoS w).alloc (.cells #[.bool fin, .int .i64 op, .bool masked, .int .u8 k0, .int .u8 k1, .int .u8 k2, .int .u8 k3, .string d] 43)).trans ht)
  have b0 := hb.cell 0
  have b1 := hb.cell 1
  have b2 := hb.cell 2
  have b3 := hb.cell 3
  have b4 := hb.cell 4
  have b5 := hb.cell 5
  have b6 := hb.cell 6
  have b7 := hb.cell 7
  have HB := Lib.hid hb
  simp at b0 b1 b2 b3 b4 b5 b6 b7
  clear ht hb
  by_cases h5 : 1000 < d.size
  · go_wp2_with fail
    refine (aw9 _).mono ?_
    rintro e w2 ⟨rfl, ht⟩
    have HT2 := Lib.hid (HT.out.trans ht)
    clear ht
    go_wp2
    go_ret
    exact ⟨rfl, HT2.out⟩
  have h5' : d.size ≤ 1000 := by omega
  clear h5 hz
  by_cases her : er = 0
  · subst her
    go_wp2_with fail
    refine (HPY.out trivial _).mono ?_
    rintro e w2 ⟨v, rfl, ho, ht⟩
    obtain ⟨hfm, _⟩ := HF.out trivial
    have hll : L.length = size9 f' := by rw [HL.out, fput_length]
    have h2L : 2 ≤ L.length := by rw [hll]; exact size9_ge _
    obtain ⟨g, c, rfl, hlc, hgb⟩ := own_out ho (by omega)
    have HR := Lib.hid (Row.of_own ho).rd
    have hcm : c ≤ maxLen := by
      obtain ⟨A, c', hv, _, hcm, _⟩ := own_cases ho
      injection hv with _ _ h3
      omega
    have HCM := Lib.hid hcm
    have HT2 := Lib.hid (HT.out.trans ht)
    have b7 := ht.cell b7
    have hLB : bytesIn L := by rw [HL.out]; exact fput_bytes HGD.out hfm
    have HLB := Lib.hid hLB
    have hLz : L.length ≤ 2000 := by rw [hll]; have := size9_le f'; rw [HDZ.out] at this; omega
    have hgl : g < w2.heap.size := by
      obtain ⟨A, c', hv, _, _, _, _, h4⟩ := own_cases ho
      injection hv with h1 _ _
      exact (h4 ⟨g, 0, none⟩ h1.symm).2.2.2
    obtain ⟨N, hN⟩ : ∃ N, N = L.length := ⟨_, rfl⟩
    have HN := Lib.hid hN
    rw [← hN] at hlc h2L hLz hll ⊢
    have HLL := Lib.hid hll
    clear ho ht hN hll hLB hcm b0 b1 b2 b3 b4 b5 b6
    by_cases h125 : 125 < d.size
    · have h4L : 4 ≤ N := by rw [HLL.out]; unfold size9; rw [HDZ.out, if_neg (by omega), if_pos h125]; omega
      have hTl : (L.take 4).length = 4 := by rw [List.length_take]; have := HN.out; omega
      have HTl := Lib.hid hTl
      clear hTl
      have i1 : (4 : Int) ≤ c := by omega
      go_wp2_with fail
      refine (f_get _ (L.take 4) 4 c HTl.out most (wf_i64 (by omega) (by omega)) _ (rd_window HR.out 0 4) (HLB.out.take 4) (by omega) HCM.out (by omega)).mono ?_
      rintro e w3 ⟨rfl, ht⟩
      have HT3 := Lib.hid (HT2.out.trans ht)
      have HR3 := Lib.hid (HR.out.touch_no ht)
      have b7 := ht.cell b7
      clear ht
      obtain ⟨f1, n1, e1, hG1⟩ : ∃ f1 n1 e1, fget (L.take 4) most = (f1, n1, e1) := ⟨_, _, _, rfl⟩
      rw [hG1]
      obtain ⟨fin1, op1, masked1, l0, l1, l2, l3, d1⟩ := f1
      simp only [Fr.cs]
      by_cases hmd : most < d.size
      · have hG2 : fget L most = (Fr.zero, 0, 92) := by rw [HL.out, fget_full HGD.out hfm, if_pos (by rw [HDZ.out]; exact hmd)]
        have hG3 := fget_long HGD.out hfm most (by rw [HDZ.out]; exact hmd) 4 (by rw [lenB_length, HDZ.out]; rw [if_neg (by omega), if_pos (by omega)]; omega)
        rw [← HL.out, hG1] at hG3
        injection hG3 with q1 q2
        injection q2 with q2 q3
        have HG2 := Lib.hid hG2
        subst q2 q3
        clear hG1 hG2 q1
        go_wp2_with fail
        refine (f_get _ L N c HN.out.symm most (wf_i64 (by omega) (by omega)) _ (HR3.out.touch_no ((Touch.refl _ _).alloc _)) HLB.out hlc HCM.out (by omega)).mono ?_
        rintro e w4 ⟨rfl, ht⟩
        have HT4 := Lib.hid ((HT3.out.alloc (.cells #[.bool fin1, .int .i64 op1, .bool masked1, .int .u8 l0, .int .u8 l1, .int .u8 l2, .int .u8 l3, .string d1] 43)).trans ht)
        have b7 := ht.cell (((Touch.refl NoS w3).alloc (.cells #[.bool fin1, .int .i64 op1, .bool masked1, .int .u8 l0, .int .u8 l1, .int .u8 l2, .int .u8 l3, .string d1] 43)).cell b7)
        have hz4 : w.heap.size < w4.heap.size := World.block_lt_of_cell? w4 _ b7
        rw [HG2.out]
        simp only [Fr.zero, Fr.cs]
        clear ht
        go_wp2
        go_ret
        exact ⟨rfl, HT4.out.alloc _⟩
      · have hG2 : fget L most = (f', N, 0) := by rw [HL.out, fget_full HGD.out hfm, if_neg (by rw [HDZ.out]; exact hmd), ← HL.out, ← HN.out]
        have hG3 := fget_begin HGD.out hfm most (by rw [HDZ.out]; exact hmd) 4 (by rw [← HL.out]; have := HN.out; omega) (by rw [← HL.out]; have := HN.out; unfold maxLen; omega)
        rw [← HL.out, ← HN.out, hG1] at hG3
        simp only at hG3
        rw [HFF.out] at hG2
        have HG2 := Lib.hid hG2
        have HG3 := Lib.hid hG3
        clear hG1 hG2 hG3
        go_wp2_with fail
        refine (f_get _ L N c HN.out.symm most (wf_i64 (by omega) (by omega)) _ (HR3.out.touch_no ((Touch.refl _ _).alloc _)) HLB.out hlc HCM.out (by omega)).mono ?_
        rintro e w4 ⟨rfl, ht⟩
        have HT4 := Lib.hid ((HT3.out.alloc (.cells #[.bool fin1, .int .i64 op1, .bool masked1, .int .u8 l0, .int .u8 l1, .int .u8 l2, .int .u8 l3, .string d1] 43)).trans ht)
        have b7 := ht.cell (((Touch.refl NoS w3).alloc (.cells #[.bool fin1, .int .i64 op1, .bool masked1, .int .u8 l0, .int .u8 l1, .int .u8 l2, .int .u8 l3, .string d1] 43)).cell b7)
        have hz4 : w.heap.size < w4.heap.size := World.block_lt_of_cell? w4 _ b7
        rw [HG2.out]
        simp only [Fr.cs]
        clear ht
        by_cases he90 : e1 = 90
        · subst he90
          go_wp2
          go_ret
          exact ⟨rfl, HT4.out.alloc _⟩
        · have he91 : (e1 == 90) = false := by rw [beq_eq_false_iff_ne]; exact he90
          have hNh : N = 4 := by
            rcases HG3.out with h | h
            · exact absurd h he90
            · exact h.symm
          subst hNh
          clear he90
          go_wp2
          go_ret
          exact ⟨rfl, HT4.out.alloc _⟩
    · have h2L' : (2 : Int) ≤ N := by omega
      have hTl : (L.take 2).length = 2 := by rw [List.length_take]; have := HN.out; omega
      have HTl := Lib.hid hTl
      clear hTl
      have i1 : (2 : Int) ≤ c := by omega
      go_wp2_with fail
      refine (f_get _ (L.take 2) 2 c HTl.out most (wf_i64 (by omega) (by omega)) _ (rd_window HR.out 0 2) (HLB.out.take 2) (by omega) HCM.out (by omega)).mono ?_
      rintro e w3 ⟨rfl, ht⟩
      have HT3 := Lib.hid (HT2.out.trans ht)
      have HR3 := Lib.hid (HR.out.touch_no ht)
      have b7 := ht.cell b7
      clear ht
      obtain ⟨f1, n1, e1, hG1⟩ : ∃ f1 n1 e1, fget (L.take 2) most = (f1, n1, e1) := ⟨_, _, _, rfl⟩
      rw [hG1]
      obtain ⟨fin1, op1, masked1, l0, l1, l2, l3, d1⟩ := f1
      simp only [Fr.cs]
      by_cases hmd : most < d.size
      · have hG2 : fget L most = (Fr.zero, 0, 92) := by rw [HL.out, fget_full HGD.out hfm, if_pos (by rw [HDZ.out]; exact hmd)]
        have hG3 := fget_long HGD.out hfm most (by rw [HDZ.out]; exact hmd) 2 (by rw [lenB_length, HDZ.out]; rw [if_pos (by omega)]; omega)
        rw [← HL.out, hG1] at hG3
        injection hG3 with q1 q2
        injection q2 with q2 q3
        have HG2 := Lib.hid hG2
        subst q2 q3
        clear hG1 hG2 q1
        go_wp2_with fail
        refine (f_get _ L N c HN.out.symm most (wf_i64 (by omega) (by omega)) _ (HR3.out.touch_no ((Touch.refl _ _).alloc _)) HLB.out hlc HCM.out (by omega)).mono ?_
        rintro e w4 ⟨rfl, ht⟩
        have HT4 := Lib.hid ((HT3.out.alloc (.cells #[.bool fin1, .int .i64 op1, .bool masked1, .int .u8 l0, .int .u8 l1, .int .u8 l2, .int .u8 l3, .string d1] 43)).trans ht)
        have b7 := ht.cell (((Touch.refl NoS w3).alloc (.cells #[.bool fin1, .int .i64 op1, .bool masked1, .int .u8 l0, .int .u8 l1, .int .u8 l2, .int .u8 l3, .string d1] 43)).cell b7)
        have hz4 : w.heap.size < w4.heap.size := World.block_lt_of_cell? w4 _ b7
        rw [HG2.out]
        simp only [Fr.zero, Fr.cs]
        clear ht
        go_wp2
        go_ret
        exact ⟨rfl, HT4.out.alloc _⟩
      · have hG2 : fget L most = (f', N, 0) := by rw [HL.out, fget_full HGD.out hfm, if_neg (by rw [HDZ.out]; exact hmd), ← HL.out, ← HN.out]
        have hG3 := fget_begin HGD.out hfm most (by rw [HDZ.out]; exact hmd) 2 (by rw [← HL.out]; have := HN.out; omega) (by rw [← HL.out]; have := HN.out; unfold maxLen; omega)
        rw [← HL.out, ← HN.out, hG1] at hG3
        simp only at hG3
        rw [HFF.out] at hG2
        have HG2 := Lib.hid hG2
        have HG3 := Lib.hid hG3
        clear hG1 hG2 hG3
        go_wp2_with fail
        refine (f_get _ L N c HN.out.symm most (wf_i64 (by omega) (by omega)) _ (HR3.out.touch_no ((Touch.refl _ _).alloc _)) HLB.out hlc HCM.out (by omega)).mono ?_
        rintro e w4 ⟨rfl, ht⟩
        have HT4 := Lib.hid ((HT3.out.alloc (.cells #[.bool fin1, .int .i64 op1, .bool masked1, .int .u8 l0, .int .u8 l1, .int .u8 l2, .int .u8 l3, .string d1] 43)).trans ht)
        have b7 := ht.cell (((Touch.refl NoS w3).alloc (.cells #[.bool fin1, .int .i64 op1, .bool masked1, .int .u8 l0, .int .u8 l1, .int .u8 l2, .int .u8 l3, .string d1] 43)).cell b7)
        have hz4 : w.heap.size < w4.heap.size := World.block_lt_of_cell? w4 _ b7
        rw [HG2.out]
        simp only [Fr.cs]
        clear ht
        by_cases he90 : e1 = 90
        · subst he90
          go_wp2
          go_ret
          exact ⟨rfl, HT4.out.alloc _⟩
        · have he91 : (e1 == 90) = false := by rw [beq_eq_false_iff_ne]; exact he90
          have hNh : N = 2 := by
            rcases HG3.out with h | h
            · exact absurd h he90
            · exact h.symm
          subst hNh
          clear he90
          go_wp2
          go_ret
          exact ⟨rfl, HT4.out.alloc _⟩
  · have her1 : (er != 0) = true := by rw [bne_iff_ne]; exact her
    have HE := Lib.hid her
    clear her
    go_wp2_with fail
    refine (HPN.out HE.out _).mono ?_
    rintro e w2 ⟨rfl, ht⟩
    have HT2 := Lib.hid (HT.out.trans ht)
    clear ht
    go_wp2
    go_ret
    exact ⟨rfl, HT2.out⟩
end Go.Proofs.Ytfafpcmdgjmlhaa
