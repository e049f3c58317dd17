/- law09: FrameTwo: the walk. -/
import Derived.Test.YtfafpcmdgjmlhaaRc
namespace Go.Proofs.Ytfafpcmdgjmlhaa
open Go.RowKit
set_option linter.unusedSimpArgs false
set_option linter.unusedVariables false

set_option maxHeartbeats 6400000 in
set_option maxRecDepth 100000 in
theorem two_row (w : World) (f : Fr) (hf : f.good) (g : Fr) (hg : g.good) : Calls Try.prog 20 #[.agg f.cs, .agg g.cs] w fun e w' => e = .returned (.bool true) ∧ Touch NoS w w' := by
  have hz : f.data.size ≤ 2 ^ 63 - 1 := hf.2.2
  have hzg : g.data.size ≤ 2 ^ 63 - 1 := hg.2.2
  obtain ⟨er, her⟩ : ∃ er, er = check9 f := ⟨_, rfl⟩
  obtain ⟨es, hes⟩ : ∃ es, es = check9 g := ⟨_, rfl⟩
  have HPN := Lib.hid (fun h W => f_put_no f hf h W)
  have HPY := Lib.hid (fun h W => f_put f hf h W)
  have HQN := Lib.hid (fun h W => f_put_no g hg h W)
  have HQY := Lib.hid (fun h W => f_put g hg h W)
  rw [← her] at HPN HPY
  rw [← hes] at HQN HQY
  have HF := Lib.hid (fun h => check_form (f := f) (by rw [← her]; exact h))
  have HG := Lib.hid (fun h => check_form (f := g) (by rw [← hes]; exact h))
  have HFD := Lib.hid hf
  have HGD := Lib.hid hg
  obtain ⟨L, hL⟩ : ∃ L, L = fput f := ⟨_, rfl⟩
  obtain ⟨M, hM⟩ : ∃ M, M = fput g := ⟨_, rfl⟩
  have HL := Lib.hid hL
  have HM := Lib.hid hM
  rw [← hL] at HPY
  rw [← hM] at HQY
  obtain ⟨N, hN⟩ : ∃ N, N = L.length := ⟨_, rfl⟩
  obtain ⟨K, hK⟩ : ∃ K, K = M.length := ⟨_, rfl⟩
  have HN := Lib.hid hN
  have HK := Lib.hid hK
  rw [← hN] at HPY
  rw [← hK] at HQY
  have hneq := neq_fr_all f f true (Fr.same_self _)
  have heql := eql_fr_all g g true (Fr.same_self _)
  obtain ⟨f', hff⟩ : ∃ f', f' = f := ⟨_, rfl⟩
  obtain ⟨g', hgg⟩ : ∃ g', g' = g := ⟨_, rfl⟩
  rw [← hff] at HL HF HFD
  rw [← hgg] at HM HG HGD
  obtain ⟨fin, op, masked, k0, k1, k2, k3, d⟩ := f
  obtain ⟨gin, oq, nasked, l0, l1, l2, l3, q⟩ := g
  have HFF := Lib.hid hff
  have HGG := Lib.hid hgg
  have hdz : f'.data.size = d.size := by rw [hff]
  have hqz : g'.data.size = q.size := by rw [hgg]
  have HDZ := Lib.hid hdz
  have HQZ := Lib.hid hqz
  simp only [Fr.cs] at *
  clear her hes hf hg hL hM hff hgg hdz hqz hN hK
  go_enter Try.func20, Try.ntmps20
  go_wp2_with fail
  refine (aw9 _).mono ?_
  rintro e w1 ⟨rfl, ht⟩
  have hb0 : Touch NoS w ((w.alloc (.cells #[.bool fin, .int .i64 op, .bool masked, .int .u8 k0, .int .u8 k1, .int .u8 k2, .int .u8 k3, .string d] 43)).alloc (.cells #[.bool gin, .int .i64 oq, .bool nasked, .int .u8 l0, .int .u8 l1, .int .u8 l2, .int .u8 l3, .string q] 43)) := ((Touch.refl _ _).alloc _).alloc _
  have hb := ((Blk.new w 43 #[.bool fin, .int .i64 op, .bool masked, .int .u8 k0, .int .u8 k1, .int .u8 k2, .int .u8 k3, .string d]).alloc (.cells #[.bool gin, .int .i64 oq, .bool nasked, .int .u8 l0, .int .u8 l1, .int .u8 l2, .int .u8 l3, .string q] 43)).touch ht (fun h => h)
  have hc := (Blk.new (w.alloc (.cells #[.bool fin, .int .i64 op, .bool masked, .int .u8 k0, .int .u8 k1, .int .u8 k2, .int .u8 k3, .string d] 43)) 43 #[.bool gin, .int .i64 oq, .bool nasked, .int .u8 l0, .int .u8 l1, .int .u8 l2, .int .u8 l3, .string q]).touch ht (fun h => h)
  rw [show (w.alloc (.cells #[.bool fin, .int .i64 op, .bool masked, .int .u8 k0, .int .u8 k1, .int .u8 k2, .int .u8 k3, .string d] 43)).heap.size = w.heap.size + 1 from by simp] at hc
  have HT := Lib.hid (hb0.trans ht)
  have b7 := hb.cell 7
  have c7 := hc.cell 7
  have HB := Lib.hid hb
  have HC := Lib.hid hc
  simp at b7 c7
  clear ht hb hc hb0
  by_cases h5 : 1000 < d.size
  · go_wp2_with fail
    refine (aw9 _).mono ?_
    rintro e w2 ⟨rfl, ht⟩
    have HT2 := Lib.hid (HT.out.trans ht)
    clear ht
    go_wp2
    go_ret
    exact ⟨rfl, HT2.out⟩
  have h5' : d.size ≤ 1000 := by omega
  clear h5 hz
  by_cases h6 : 1000 < q.size
  · go_wp2_with fail
    refine (aw9 _).mono ?_
    rintro e w2 ⟨rfl, ht⟩
    have HT2 := Lib.hid (HT.out.trans ht)
    clear ht
    go_wp2
    go_ret
    exact ⟨rfl, HT2.out⟩
  have h6' : q.size ≤ 1000 := by omega
  clear h6 hzg
  have b0 := HB.out.cell 0
  have b1 := HB.out.cell 1
  have b2 := HB.out.cell 2
  have b3 := HB.out.cell 3
  have b4 := HB.out.cell 4
  have b5 := HB.out.cell 5
  have b6 := HB.out.cell 6
  simp at b0 b1 b2 b3 b4 b5 b6
  by_cases her : er = 0
  · subst her
    obtain ⟨hfm, _⟩ := HF.out rfl
    have hll : N = size9 f' := by rw [HN.out, HL.out, fput_length]
    have h2L : 2 ≤ N := by rw [hll]; exact size9_ge _
    have hLz : N ≤ 2000 := by rw [hll]; have := size9_le f'; rw [HDZ.out] at this; omega
    have HLB : Hid (bytesIn L) := by rw [HL.out]; exact fput_bytes HFD.out hfm
    clear hll
    go_wp2_with fail
    refine (HPY.out trivial _).mono ?_
    rintro e w2 ⟨v, rfl, ho, ht⟩
    obtain ⟨A, c, rfl, hlc, hcm, hrd, _, _⟩ := own_cases ho
    have HR := Lib.hid hrd
    have HT2 := Lib.hid (HT.out.trans ht)
    have HB2 := Lib.hid (HB.out.touch ht (fun h => h))
    have HC2 := Lib.hid (HC.out.touch ht (fun h => h))
    clear ho ht hrd b0 b1 b2 b3 b4 b5 b6 b7 c7 HB HC hlc hcm
    have c0 := HC2.out.cell 0
    have c1 := HC2.out.cell 1
    have c2 := HC2.out.cell 2
    have c3 := HC2.out.cell 3
    have c4 := HC2.out.cell 4
    have c5 := HC2.out.cell 5
    have c6 := HC2.out.cell 6
    have c7 := HC2.out.cell 7
    simp at c0 c1 c2 c3 c4 c5 c6 c7
    by_cases hes : es = 0
    · subst hes
      obtain ⟨hgm, _⟩ := HG.out rfl
      have hmm : K = size9 g' := by rw [HK.out, HM.out, fput_length]
      have h2M : 2 ≤ K := by rw [hmm]; exact size9_ge _
      have hMz : K ≤ 2000 := by rw [hmm]; have := size9_le g'; rw [HQZ.out] at this; omega
      have HMB : Hid (bytesIn M) := by rw [HM.out]; exact fput_bytes HGD.out hgm
      clear hmm
      go_wp2_with fail
      refine (HQY.out trivial _).mono ?_
      rintro e w3 ⟨v, rfl, ho, ht⟩
      obtain ⟨A2, c2', rfl, hlc, hcm, hrd, _, _⟩ := own_cases ho
      have HR3 := Lib.hid (HR.out.touch_no ht)
      have HS3 := Lib.hid hrd
      have HT3 := Lib.hid (HT2.out.trans ht)
      have HB3 := Lib.hid (HB2.out.touch ht (fun h => h))
      have HC3 := Lib.hid (HC2.out.touch ht (fun h => h))
      clear ho ht hrd HB2 HC2 hlc hcm c0 c1 c2 c3 c4 c5 c6 c7 HR HT2
      have hown0 : (w3.alloc (.cells #[] 5)).ownsRow w3.heap.size 5 1 (.slice (some ⟨w3.heap.size, 0, none⟩) 0 0) 0 [] := own_blk (Blk.new w3 5 #[]) rfl (Nat.le_refl _) (by simp [maxLen])
      have HO0 := Lib.hid hown0
      have HTa : Touch NoS w3 (w3.alloc (.cells #[] 5)) := (Touch.refl _ _).alloc _
      have HTA := Lib.hid HTa
      clear hown0 HTa
      obtain ⟨i, hi, hz0, hz1, hz2⟩ := info_u8
      go_wp2_with (at_builtin; refine wpList_app_row _ rfl (.tmp 47) (.tmp 48) 32 rfl w3.heap.size 5 i _ 1 1 Try.underlying32 hi hz0 hz1 hz2 rfl (by decide) _ 0 [] rfl HO0.out A N c (u8s L) rfl (by simp [u8s]; exact HN.out.symm) (HR3.out.touch_no HTA.out) (u8s_one _) (by unfold maxLen; omega) (by omega) (by simp) ?_)
      intro v' w4 ho hgr _
      have HO4 := Lib.hid ho
      have HT34 := Lib.hid (HTA.out.grown hgr (fun q hq hl => absurd (own_base HO0.out hq) (by omega)))
      have hs34 : w3.heap.size ≤ w4.heap.size := HT34.out.size
      clear ho hgr
      go_wp2_with (at_builtin; refine wpList_app_row _ rfl (.tmp 49) (.tmp 50) 32 rfl w3.heap.size 5 i _ 1 1 Try.underlying32 hi hz0 hz1 hz2 rfl (by decide) _ N (u8s L) rfl HO4.out A2 K c2' (u8s M) rfl (by simp [u8s]; exact HK.out.symm) (HS3.out.touch_no HT34.out) (u8s_one _) (by unfold maxLen; omega) (by omega) (by omega) ?_)
      intro v'' w5 ho hgr _
      have HT35 := Lib.hid (HT34.out.grown hgr (fun q hq hl => absurd (own_base HO4.out hq) (by omega)))
      rw [← u8s_append] at ho
      obtain ⟨gA, cc, rfl, hlc, hgb⟩ := own_out ho (by omega)
      obtain ⟨A5, c5, hv5, _, hcm, hrd, _, _⟩ := own_cases ho
      injection hv5 with hv51 _ hv53
      subst hv51 hv53
      have HR5 := Lib.hid hrd
      have HCM := Lib.hid hcm
      have HT5 := Lib.hid (HT3.out.trans HT35.out)
      have HB5 := Lib.hid (HB3.out.touch HT35.out (fun h => h))
      have HC5 := Lib.hid (HC3.out.touch HT35.out (fun h => h))
      clear ho hgr hi hz0 hz1 hz2 hrd hcm hs34 HT34 HT35 HO4 HO0 HTA HB3 HC3
      have hga : fget (L ++ M) 65536 = (f', N, 0) := by rw [HL.out, fget_fput f' HFD.out hfm, if_neg (by rw [HDZ.out]; omega), ← HL.out, ← HN.out]
      have hgb2 : fget M 65536 = (g', K, 0) := by rw [HM.out, fget_full HGD.out hgm, if_neg (by rw [HQZ.out]; omega), ← HM.out, ← HK.out]
      rw [HFF.out] at hga
      rw [HGG.out] at hgb2
      have HGA := Lib.hid hga
      have HGB := Lib.hid hgb2
      clear hga hgb2
      have hbb : bytesIn (L ++ M) := by
        intro x hx
        rcases List.mem_append.1 hx with h | h
        · exact HLB.out x h
        · exact HMB.out x h
      have HBB := Lib.hid hbb
      clear hbb
      go_wp2_with fail
      refine (f_get _ (L ++ M) (N + K) cc (by rw [List.length_append, ← HN.out, ← HK.out]) 65536 (wf_i64 (by omega) (by omega)) _ HR5.out HBB.out hlc HCM.out (by omega)).mono ?_
      rintro e w6 ⟨rfl, ht⟩
      have HT6 := Lib.hid (HT5.out.trans ht)
      have HB6 := Lib.hid (HB5.out.touch ht (fun h => h))
      have HC6 := Lib.hid (HC5.out.touch ht (fun h => h))
      have HR6 := Lib.hid (HR5.out.touch_no ht)
      rw [HGA.out]
      simp only [Fr.cs]
      clear ht HB5 HC5 HR5 HT5
      have b0 := HB6.out.cell 0
      have b1 := HB6.out.cell 1
      have b2 := HB6.out.cell 2
      have b3 := HB6.out.cell 3
      have b4 := HB6.out.cell 4
      have b5 := HB6.out.cell 5
      have b6 := HB6.out.cell 6
      have b7 := HB6.out.cell 7
      simp at b0 b1 b2 b3 b4 b5 b6 b7
      have hlt6 := HB6.out.lt
      have hlt7 := HC6.out.lt
      have hNc : (cc == N) = false := by rw [beq_eq_false_iff_ne]; omega
      have hNc' : ¬ cc = N := by omega
      have i1 : (0 : Int) ≤ N := by omega
      have i2 : (N : Int) ≤ N + K := by omega
      have i3 : (N : Int) + K ≤ cc := by omega
      go_wp2_with fail
      refine (f_get _ M K (cc - N) HK.out.symm 65536 (wf_i64 (by omega) (by omega)) _ ?_ HMB.out (by omega) (by have := HCM.out; omega) (by omega)).mono ?_
      · have h := rd_window HR6.out N (N + K)
        rw [List.take_of_length_le (by rw [List.length_append, ← HN.out, ← HK.out]; omega), List.drop_left' HN.out.symm, Nat.zero_add] at h
        exact h.touch_no ((Touch.refl _ _).alloc _)
      rintro e w7 ⟨rfl, ht⟩
      have HT7 := Lib.hid ((HT6.out.alloc (.cells #[.bool fin, .int .i64 op, .bool masked, .int .u8 k0, .int .u8 k1, .int .u8 k2, .int .u8 k3, .string d] 43)).trans ht)
      have HC7 := Lib.hid ((HC6.out.alloc (.cells #[.bool fin, .int .i64 op, .bool masked, .int .u8 k0, .int .u8 k1, .int .u8 k2, .int .u8 k3, .string d] 43)).touch ht (fun h => h))
      rw [HGB.out]
      simp only [Fr.cs]
      clear ht HB6 HC6 HR6 HT6 b0 b1 b2 b3 b4 b5 b6 b7 hlt6 hlt7
      have c0 := HC7.out.cell 0
      have c1 := HC7.out.cell 1
      have c2 := HC7.out.cell 2
      have c3 := HC7.out.cell 3
      have c4 := HC7.out.cell 4
      have c5 := HC7.out.cell 5
      have c6 := HC7.out.cell 6
      have c7 := HC7.out.cell 7
      simp at c0 c1 c2 c3 c4 c5 c6 c7
      have hlt8 := HC7.out.lt
      go_wp2
      go_ret
      exact ⟨rfl, HT7.out.alloc _⟩
    · have hes1 : (es != 0) = true := by rw [bne_iff_ne]; exact hes
      have HE := Lib.hid hes
      clear hes
      go_wp2_with fail
      refine (HQN.out HE.out _).mono ?_
      rintro e w3 ⟨rfl, ht⟩
      have HT3 := Lib.hid (HT2.out.trans ht)
      clear ht
      go_wp2
      go_ret
      exact ⟨rfl, HT3.out⟩
  · have her1 : (er != 0) = true := by rw [bne_iff_ne]; exact her
    have HE := Lib.hid her
    clear her
    go_wp2_with fail
    refine (HPN.out HE.out _).mono ?_
    rintro e w2 ⟨rfl, ht⟩
    have HT2 := Lib.hid (HT.out.trans ht)
    have HC2 := Lib.hid (HC.out.touch ht (fun h => h))
    have c0 := HC2.out.cell 0
    have c1 := HC2.out.cell 1
    have c2 := HC2.out.cell 2
    have c3 := HC2.out.cell 3
    have c4 := HC2.out.cell 4
    have c5 := HC2.out.cell 5
    have c6 := HC2.out.cell 6
    have c7 := HC2.out.cell 7
    simp at c0 c1 c2 c3 c4 c5 c6 c7
    clear ht
    by_cases hes : es = 0
    · subst hes
      go_wp2_with fail
      refine (HQY.out trivial _).mono ?_
      rintro e w3 ⟨v, rfl, _, ht⟩
      have HT3 := Lib.hid (HT2.out.trans ht)
      clear ht
      go_wp2
      go_ret
      exact ⟨rfl, HT3.out⟩
    · have HE2 := Lib.hid hes
      clear hes
      go_wp2_with fail
      refine (HQN.out HE2.out _).mono ?_
      rintro e w3 ⟨rfl, ht⟩
      have HT3 := Lib.hid (HT2.out.trans ht)
      clear ht
      go_wp2
      go_ret
      exact ⟨rfl, HT3.out⟩
end Go.Proofs.Ytfafpcmdgjmlhaa
