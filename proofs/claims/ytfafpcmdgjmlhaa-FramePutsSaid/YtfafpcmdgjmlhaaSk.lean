/- law09: FramePuts: the walk. -/
import Derived.Test.YtfafpcmdgjmlhaaSj
import Derived.Test.YtfafpcmdgjmlhaaRc
namespace Go.Proofs.Ytfafpcmdgjmlhaa
open Go.RowKit
set_option linter.unusedSimpArgs false
set_option linter.unusedVariables false

set_option maxHeartbeats 6400000 in
set_option maxRecDepth 100000 in
theorem puts_row (w : World) (f : Fr) (hf : f.good) (s : ByteArray) (hs : s.size ≤ maxLen) (most : Int) (hm : (Lit.int .i64 most).wf = true) : Calls Try.prog 15 #[.agg f.cs, .string s, .int .i64 most] w fun e w' => e = .returned (.bool true) ∧ Touch NoS w w' := by
  have hz : f.data.size ≤ 2 ^ 63 - 1 := hf.2.2
  have hzm : f.data.size ≤ maxLen := hf.2.2
  obtain ⟨er, her⟩ : ∃ er, er = check9 f := ⟨_, rfl⟩
  have HPN := Lib.hid (fun h W => f_put_no f hf h W)
  have HPY := Lib.hid (fun h W => f_put f hf h W)
  have HFC := Lib.hid (fun W => f_check f hf W)
  have HRC := Lib.hid (fun W => r9_check f hzm W)
  have HCT := Lib.hid (fun W => f_control f.op W)
  have HRT := Lib.hid (fun W => r9_control f.op W)
  rw [← her] at HPN HPY HFC HRC
  obtain ⟨cn, hcn⟩ : ∃ cn, cn = control9 f.op := ⟨_, rfl⟩
  rw [← hcn] at HCT HRT
  have HF := Lib.hid (fun h => check_form (f := f) (by rw [← her]; exact h))
  have HFD := Lib.hid hf
  have HSF := Lib.hid (fun h W => f_size f h W)
  have HTX := Lib.hid (fun h1 h2 W => r9_text f hf h1 h2 W)
  obtain ⟨L, hL⟩ : ∃ L, L = fput f := ⟨_, rfl⟩
  rw [← hL] at HPY HTX
  have HL := Lib.hid hL
  obtain ⟨N, hN⟩ : ∃ N, N = L.length := ⟨_, rfl⟩
  have HN := Lib.hid hN
  rw [← hN] at HPY
  have hNs : N = size9 f := by rw [hN, hL, fput_length]
  rw [← hNs] at HSF
  have HNS := Lib.hid hNs
  obtain ⟨f', hff⟩ : ∃ f', f' = f := ⟨_, rfl⟩
  rw [← hff] at HL HF HFD HNS
  have heql := eql_fr_all f f true (Fr.same_self _)
  have HM := Lib.hid hm
  have HS := Lib.hid hs
  obtain ⟨fin, op, masked, k0, k1, k2, k3, d⟩ := f
  have HFF := Lib.hid hff
  have hdz : f'.data.size = d.size := by rw [hff]
  have HDZ := Lib.hid hdz
  unfold maxLen at hs
  simp only [Fr.cs] at *
  clear her hcn hf hL hN hNs hff hdz hzm hm
  go_enter Try.func15, Try.ntmps15
  go_wp2_with fail
  refine (aw9 _).mono ?_
  rintro e w1 ⟨rfl, ht⟩
  have hb0 : Touch NoS w (w.alloc (.cells #[.bool fin, .int .i64 op, .bool masked, .int .u8 k0, .int .u8 k1, .int .u8 k2, .int .u8 k3, .string d] 43)) := (Touch.refl _ _).alloc _
  have hb := (Blk.new w 43 #[.bool fin, .int .i64 op, .bool masked, .int .u8 k0, .int .u8 k1, .int .u8 k2, .int .u8 k3, .string d]).touch ht (fun h => h)
  have HT := Lib.hid (hb0.trans ht)
  have b7 := hb.cell 7
  have HB := Lib.hid hb
  simp at b7
  clear ht hb hb0
  by_cases h5 : 70000 < d.size
  · go_wp2_with fail
    refine (aw9 _).mono ?_
    rintro e w2 ⟨rfl, ht⟩
    have HT2 := Lib.hid (HT.out.trans ht)
    clear ht
    go_wp2
    go_ret
    exact ⟨rfl, HT2.out⟩
  have h5' : d.size ≤ 70000 := by omega
  clear h5 hz
  by_cases h6 : 100 < s.size
  · go_wp2_with fail
    refine (aw9 _).mono ?_
    rintro e w2 ⟨rfl, ht⟩
    have HT2 := Lib.hid (HT.out.trans ht)
    clear ht
    go_wp2
    go_ret
    exact ⟨rfl, HT2.out⟩
  have h6' : s.size ≤ 100 := by omega
  clear h6 hs
  have b0 := HB.out.cell 0
  have b1 := HB.out.cell 1
  have b2 := HB.out.cell 2
  have b3 := HB.out.cell 3
  have b4 := HB.out.cell 4
  have b5 := HB.out.cell 5
  have b6 := HB.out.cell 6
  simp at b0 b1 b2 b3 b4 b5 b6
  by_cases her : er = 0
  · subst her
    obtain ⟨hfm, hfz⟩ := HF.out rfl
    rw [HDZ.out] at hfz
    have HFM := Lib.hid hfm
    have h2L : 2 ≤ N := by rw [HNS.out]; exact size9_ge _
    have hLz : N ≤ 70014 := by rw [HNS.out]; have := size9_le f'; rw [HDZ.out] at this; omega
    have HLB : Hid (bytesIn L) := by rw [HL.out]; exact fput_bytes HFD.out hfm
    clear hfm
    go_wp2_with fail
    refine (HPY.out trivial _).mono ?_
    rintro e w2 ⟨v, rfl, ho, ht⟩
    obtain ⟨A, c, rfl, hlc, hcm, hrd, _, _⟩ := own_cases ho
    have HR := Lib.hid hrd
    have HT2 := Lib.hid (HT.out.trans ht)
    have HB2 := Lib.hid (HB.out.touch ht (fun h => h))
    clear ho ht hrd b0 b1 b2 b3 b4 b5 b6 b7 HB hlc hcm HT
    have b0 := HB2.out.cell 0
    have b1 := HB2.out.cell 1
    have b2 := HB2.out.cell 2
    have b3 := HB2.out.cell 3
    have b4 := HB2.out.cell 4
    have b5 := HB2.out.cell 5
    have b6 := HB2.out.cell 6
    have b7 := HB2.out.cell 7
    simp at b0 b1 b2 b3 b4 b5 b6 b7
    go_wp2_with fail
    refine (HRC.out _).mono ?_
    rintro e w3 ⟨rfl, ht⟩
    have HR3 := Lib.hid (HR.out.touch_no ht)
    have HT3 := Lib.hid (HT2.out.trans ht)
    have HB3 := Lib.hid (HB2.out.touch ht (fun h => h))
    clear ht b0 b1 b2 b3 b4 b5 b6 b7 HB2 HT2 HR
    have b0 := HB3.out.cell 0
    have b1 := HB3.out.cell 1
    have b2 := HB3.out.cell 2
    have b3 := HB3.out.cell 3
    have b4 := HB3.out.cell 4
    have b5 := HB3.out.cell 5
    have b6 := HB3.out.cell 6
    have b7 := HB3.out.cell 7
    have hlt := HB3.out.lt
    simp at b0 b1 b2 b3 b4 b5 b6 b7
    go_wp2_with fail
    have hcl : ∀ W, Touch NoS w3.drew W → ∀ b o, b < w3.heap.size → W.cell? ⟨b, o, none⟩ = w3.cell? ⟨b, o, none⟩ := fun W h b o hb => World.cell?_of_block (h.block b hb (fun h => h))
    have HCL := Lib.hid hcl
    have htd : Touch NoS w3.drew w3.drew := Touch.refl _ _
    have hcd : ∀ b o, b < w3.heap.size → w3.drew.cell? ⟨b, o, none⟩ = w3.cell? ⟨b, o, none⟩ := fun b o _ => rfl
    clear hcl
    go_region_held (fun w' => Touch NoS w3.drew w' ∧ ∀ b o, b < w3.heap.size → w'.cell? ⟨b, o, none⟩ = w3.cell? ⟨b, o, none⟩)
      ((first | exact ⟨ht7, hc7⟩ | exact ⟨htd, hcd⟩))
      ((first
        | (go_at_call 47; refine (HFC.out _).mono ?_; rintro e w7 ⟨rfl, ht⟩; have ht7 : Touch NoS w3.drew w7 := (by first | exact ht7.trans ht | exact htd.trans ht); have hc7 := HCL.out _ ht7)
        | (go_at_call 48; refine (HCT.out _).mono ?_; rintro e w7 ⟨rfl, rfl⟩)
        | (go_at_call 49; refine (HRT.out _).mono ?_; rintro e w7 ⟨rfl, rfl⟩)))
    have ht37 : Touch NoS w3 w7 := (Touch.refl _ w3).drew.trans ht7
    have HR7 := Lib.hid (HR3.out.touch_no ht37)
    have HT7 := Lib.hid (HT3.out.trans ht37)
    have HB7 := Lib.hid (HB3.out.touch ht37 (fun h => h))
    rename_i hh
    clear hh ht37 ht ht7 hc7 hcd htd HCL b0 b1 b2 b3 b4 b5 b6 b7 hlt HB3 HT3 HR3 HCT HRT HFC HRC HPY HPN HF
    obtain ⟨D, hD⟩ : ∃ D, D = Go.strOfNums L := ⟨_, rfl⟩
    have hDz : D.size = N := by rw [hD, numsB_size, HN.out]
    have HD := Lib.hid hD
    have HTX2 := Lib.hid (HTX.out (by rw [← HFF.out]; exact HFM.out) (by omega))
    have HSF2 := Lib.hid (HSF.out (by omega))
    rw [← hD] at HTX2
    have hsbX : sb (D ++ s) = L ++ sb s := by rw [sb_append, hD, sb_nums L HLB.out]
    obtain ⟨X, hX⟩ : ∃ X, X = D ++ s := ⟨_, rfl⟩
    have hXz : X.size = N + s.size := by rw [hX, ByteArray.size_append, hDz]
    rw [← hX] at hsbX
    have HX := Lib.hid hsbX
    have kv1 : (convert 32 9 (.slice A N c)).run Try.prog w7 = .ok (.string D) w7 := by rw [hD]; exact conv_str w7 A L N c HN.out.symm HR7.out
    obtain ⟨w8, cp, hconv, ht, hrd, hcp, hcm, h23⟩ := conv_ex w7 X (by unfold maxLen; omega)
    obtain ⟨n', hn'⟩ : ∃ n', n' = X.size := ⟨_, rfl⟩
    rw [← hn'] at hconv hcp
    have HXZ : Hid (n' = N + s.size) := hn'.trans hXz
    have HXL : Hid (X.size = n') := hn'.symm
    rw [HX.out] at hrd
    rw [hX] at hconv
    have HRX := Lib.hid hrd
    have HCP := Lib.hid hcp
    have HCM := Lib.hid hcm
    have HT8 := Lib.hid (HT7.out.trans ht)
    have HB8 := Lib.hid (HB7.out.touch ht (fun h => h))
    have HR8 := Lib.hid (HR7.out.touch_no ht)
    clear ht hrd hcp hcm hn' hX hXz hsbX hD HTX HSF h23
    go_wp2_with fail
    have hgl : fget (L ++ sb s) most = if most < d.size then (Fr.zero, 0, 92) else (f', N, 0) := by rw [HL.out, fget_fput f' HFD.out HFM.out, HDZ.out, ← HL.out, ← HN.out]
    have HGL := Lib.hid hgl
    clear hgl
    refine (f_get _ (L ++ sb s) n' cp (by rw [List.length_append, sb_length, HXZ.out, HN.out]) most HM.out _ HRX.out (by intro x hx; rcases List.mem_append.1 hx with h | h; exact HLB.out x h; exact sb_in s x h) HCP.out HCM.out (by rw [HXZ.out]; omega)).mono ?_
    rintro e w9 ⟨rfl, ht⟩
    rw [HGL.out]
    have HT9 := Lib.hid (HT8.out.trans ht)
    have HB9 := Lib.hid (HB8.out.touch ht (fun h => h))
    have HR9 := Lib.hid (HR8.out.touch_no ht)
    clear ht HT7 HB7 HR7 HT8 HB8 HR8 HRX HCP HCM kv1 hconv
    by_cases hmo : most < d.size
    · rw [if_pos hmo]
      simp only [Fr.zero, Fr.cs]
      go_wp2_with fail
      have hb9 : Blk (w9.alloc (.cells #[.bool false, .int .i64 0, .bool false, .int .u8 0, .int .u8 0, .int .u8 0, .int .u8 0, .string ⟨#[]⟩] 43)) w9.heap.size 43 #[.bool false, .int .i64 0, .bool false, .int .u8 0, .int .u8 0, .int .u8 0, .int .u8 0, .string ⟨#[]⟩] := Blk.new _ _ _
      have hb3 := HB9.out.alloc (.cells #[.bool false, .int .i64 0, .bool false, .int .u8 0, .int .u8 0, .int .u8 0, .int .u8 0, .string ⟨#[]⟩] 43)
      obtain ⟨w10, hw10⟩ : ∃ w10, w10 = w9.alloc (.cells #[.bool false, .int .i64 0, .bool false, .int .u8 0, .int .u8 0, .int .u8 0, .int .u8 0, .string ⟨#[]⟩] 43) := ⟨_, rfl⟩
      obtain ⟨gx, hgx⟩ : ∃ gx, gx = w9.heap.size := ⟨_, rfl⟩
      have HT10 : Hid (Touch NoS w w10) := by rw [hw10]; exact HT9.out.alloc _
      have hr10 : Rd w10 A (u8s L) := by rw [hw10]; exact HR9.out.touch_no ((Touch.refl _ _).alloc _)
      rw [← hw10] at hb9 hb3 ⊢
      rw [← hgx] at hb9 ⊢
      have x0 := hb9.lt
      have x1 := hb3.lt
      have b0 := hb3.cell 0
      have b1 := hb3.cell 1
      have b2 := hb3.cell 2
      have b3 := hb3.cell 3
      have b4 := hb3.cell 4
      have b5 := hb3.cell 5
      have b6 := hb3.cell 6
      have b7 := hb3.cell 7
      have c0 := hb9.cell 0
      have c1 := hb9.cell 1
      have c2 := hb9.cell 2
      have c3 := hb9.cell 3
      have c4 := hb9.cell 4
      have c5 := hb9.cell 5
      have c6 := hb9.cell 6
      have c7 := hb9.cell 7
      simp at b0 b1 b2 b3 b4 b5 b6 b7 c0 c1 c2 c3 c4 c5 c6 c7
      have hcl : ∀ W, Touch NoS w10.drew W → ∀ b o, b < w10.heap.size → W.cell? ⟨b, o, none⟩ = w10.cell? ⟨b, o, none⟩ := fun W h b o hb => World.cell?_of_block (h.block b hb (fun h => h))
      have HCL := Lib.hid hcl
      have htd : Touch NoS w10.drew w10.drew := Touch.refl _ _
      have hcd : ∀ b o, b < w10.heap.size → w10.drew.cell? ⟨b, o, none⟩ = w10.cell? ⟨b, o, none⟩ := fun b o _ => rfl
      have hcv : ∀ W, Touch NoS w10.drew W → (convert 32 9 (.slice A N c)).run Try.prog W = .ok (.string D) W := fun W h => by rw [HD.out]; exact conv_str W A L N c HN.out.symm (hr10.touch_no ((Touch.refl _ w10).drew.trans h))
      clear hcl hw10 hgx hb9 hb3 hr10 HB9 HT9 HR9
      go_region_held3 (fun w' => Touch NoS w10.drew w' ∧ ∀ b o, b < w10.heap.size → w'.cell? ⟨b, o, none⟩ = w10.cell? ⟨b, o, none⟩)
        (first | exact ⟨ht7, hc7⟩ | exact ⟨htd, hcd⟩)
        (first
          | (go_at_call 32; refine (HTX2.out _).mono ?_; rintro e w7 ⟨rfl, ht⟩; have ht7 : Touch NoS w10.drew w7 := (by first | exact ht7.trans ht | exact htd.trans ht); have hc7 := HCL.out _ ht7)
          | (go_at_call 51; refine (HSF2.out _).mono ?_; rintro e w7 ⟨rfl, ht⟩; have ht7 : Touch NoS w10.drew w7 := (by first | exact ht7.trans ht | exact htd.trans ht); have hc7 := HCL.out _ ht7))
      go_wp2
      go_ret
      exact ⟨rfl, HT10.out.drew.trans ht7⟩
    · rw [if_neg hmo, HFF.out]
      simp only [Fr.cs]
      have hmo' : (d.size : Int) ≤ most := by omega
      clear hmo
      go_wp2_with fail
      have hb9 : Blk (w9.alloc (.cells #[.bool fin, .int .i64 op, .bool masked, .int .u8 k0, .int .u8 k1, .int .u8 k2, .int .u8 k3, .string d] 43)) w9.heap.size 43 #[.bool fin, .int .i64 op, .bool masked, .int .u8 k0, .int .u8 k1, .int .u8 k2, .int .u8 k3, .string d] := Blk.new _ _ _
      have hb3 := HB9.out.alloc (.cells #[.bool fin, .int .i64 op, .bool masked, .int .u8 k0, .int .u8 k1, .int .u8 k2, .int .u8 k3, .string d] 43)
      obtain ⟨w10, hw10⟩ : ∃ w10, w10 = w9.alloc (.cells #[.bool fin, .int .i64 op, .bool masked, .int .u8 k0, .int .u8 k1, .int .u8 k2, .int .u8 k3, .string d] 43) := ⟨_, rfl⟩
      obtain ⟨gx, hgx⟩ : ∃ gx, gx = w9.heap.size := ⟨_, rfl⟩
      have HT10 : Hid (Touch NoS w w10) := by rw [hw10]; exact HT9.out.alloc _
      have hr10 : Rd w10 A (u8s L) := by rw [hw10]; exact HR9.out.touch_no ((Touch.refl _ _).alloc _)
      rw [← hw10] at hb9 hb3 ⊢
      rw [← hgx] at hb9 ⊢
      have x0 := hb9.lt
      have x1 := hb3.lt
      have b0 := hb3.cell 0
      have b1 := hb3.cell 1
      have b2 := hb3.cell 2
      have b3 := hb3.cell 3
      have b4 := hb3.cell 4
      have b5 := hb3.cell 5
      have b6 := hb3.cell 6
      have b7 := hb3.cell 7
      have c0 := hb9.cell 0
      have c1 := hb9.cell 1
      have c2 := hb9.cell 2
      have c3 := hb9.cell 3
      have c4 := hb9.cell 4
      have c5 := hb9.cell 5
      have c6 := hb9.cell 6
      have c7 := hb9.cell 7
      simp at b0 b1 b2 b3 b4 b5 b6 b7 c0 c1 c2 c3 c4 c5 c6 c7
      have hcl : ∀ W, Touch NoS w10.drew W → ∀ b o, b < w10.heap.size → W.cell? ⟨b, o, none⟩ = w10.cell? ⟨b, o, none⟩ := fun W h b o hb => World.cell?_of_block (h.block b hb (fun h => h))
      have HCL := Lib.hid hcl
      have htd : Touch NoS w10.drew w10.drew := Touch.refl _ _
      have hcd : ∀ b o, b < w10.heap.size → w10.drew.cell? ⟨b, o, none⟩ = w10.cell? ⟨b, o, none⟩ := fun b o _ => rfl
      have hcv : ∀ W, Touch NoS w10.drew W → (convert 32 9 (.slice A N c)).run Try.prog W = .ok (.string D) W := fun W h => by rw [HD.out]; exact conv_str W A L N c HN.out.symm (hr10.touch_no ((Touch.refl _ w10).drew.trans h))
      clear hcl hw10 hgx hb9 hb3 hr10 HB9 HT9 HR9
      go_region_held3 (fun w' => Touch NoS w10.drew w' ∧ ∀ b o, b < w10.heap.size → w'.cell? ⟨b, o, none⟩ = w10.cell? ⟨b, o, none⟩)
        (first | exact ⟨ht7, hc7⟩ | exact ⟨htd, hcd⟩)
        (first
          | (go_at_call 32; refine (HTX2.out _).mono ?_; rintro e w7 ⟨rfl, ht⟩; have ht7 : Touch NoS w10.drew w7 := (by first | exact ht7.trans ht | exact htd.trans ht); have hc7 := HCL.out _ ht7)
          | (go_at_call 51; refine (HSF2.out _).mono ?_; rintro e w7 ⟨rfl, ht⟩; have ht7 : Touch NoS w10.drew w7 := (by first | exact ht7.trans ht | exact htd.trans ht); have hc7 := HCL.out _ ht7))
      go_wp2
      go_ret
      exact ⟨rfl, HT10.out.drew.trans ht7⟩
  · have her1 : (er != 0) = true := by rw [bne_iff_ne]; exact her
    have HE := Lib.hid her
    clear her
    go_wp2_with fail
    refine (HPN.out HE.out _).mono ?_
    rintro e w2 ⟨rfl, ht⟩
    have HT2 := Lib.hid (HT.out.trans ht)
    have HB2 := Lib.hid (HB.out.touch ht (fun h => h))
    clear ht b0 b1 b2 b3 b4 b5 b6 b7 HB HT
    have b0 := HB2.out.cell 0
    have b1 := HB2.out.cell 1
    have b2 := HB2.out.cell 2
    have b3 := HB2.out.cell 3
    have b4 := HB2.out.cell 4
    have b5 := HB2.out.cell 5
    have b6 := HB2.out.cell 6
    have b7 := HB2.out.cell 7
    simp at b0 b1 b2 b3 b4 b5 b6 b7
    go_wp2_with fail
    refine (HRC.out _).mono ?_
    rintro e w3 ⟨rfl, ht⟩
    have HT3 := Lib.hid (HT2.out.trans ht)
    have HB3 := Lib.hid (HB2.out.touch ht (fun h => h))
    clear ht b0 b1 b2 b3 b4 b5 b6 b7 HB2 HT2
    have b0 := HB3.out.cell 0
    have b1 := HB3.out.cell 1
    have b2 := HB3.out.cell 2
    have b3 := HB3.out.cell 3
    have b4 := HB3.out.cell 4
    have b5 := HB3.out.cell 5
    have b6 := HB3.out.cell 6
    have b7 := HB3.out.cell 7
    have hlt := HB3.out.lt
    simp at b0 b1 b2 b3 b4 b5 b6 b7
    go_wp2_with fail
    have hcl : ∀ W, Touch NoS w3.drew W → ∀ b o, b < w3.heap.size → W.cell? ⟨b, o, none⟩ = w3.cell? ⟨b, o, none⟩ := fun W h b o hb => World.cell?_of_block (h.block b hb (fun h => h))
    have HCL := Lib.hid hcl
    have htd : Touch NoS w3.drew w3.drew := Touch.refl _ _
    have hcd : ∀ b o, b < w3.heap.size → w3.drew.cell? ⟨b, o, none⟩ = w3.cell? ⟨b, o, none⟩ := fun b o _ => rfl
    clear hcl
    go_region_held (fun w' => Touch NoS w3.drew w' ∧ ∀ b o, b < w3.heap.size → w'.cell? ⟨b, o, none⟩ = w3.cell? ⟨b, o, none⟩)
      ((first | exact ⟨ht7, hc7⟩ | exact ⟨htd, hcd⟩))
      ((first
        | (go_at_call 47; refine (HFC.out _).mono ?_; rintro e w7 ⟨rfl, ht⟩; have ht7 : Touch NoS w3.drew w7 := (by first | exact ht7.trans ht | exact htd.trans ht); have hc7 := HCL.out _ ht7)
        | (go_at_call 48; refine (HCT.out _).mono ?_; rintro e w7 ⟨rfl, rfl⟩)
        | (go_at_call 49; refine (HRT.out _).mono ?_; rintro e w7 ⟨rfl, rfl⟩)))
    have ht37 : Touch NoS w3 w7 := (Touch.refl _ w3).drew.trans ht7
    go_wp2
    go_ret
    exact ⟨rfl, HT3.out.trans ht37⟩
end Go.Proofs.Ytfafpcmdgjmlhaa
