/- law09: FrameMasks: the walk. -/
import Derived.Test.YtfafpcmdgjmlhaaRd
namespace Go.Proofs.Ytfafpcmdgjmlhaa
open Go.RowKit
set_option linter.unusedSimpArgs false
set_option linter.unusedVariables false

/-- A frame with a mask. -/
def Fr.mask (f : Fr) (a0 a1 a2 a3 : Int) : Fr := ⟨f.fin, f.op, true, a0, a1, a2, a3, f.data⟩
theorem mask_check {f : Fr} {a0 a1 a2 a3 : Int} (hm : f.masked = false) (hk : f.key = [0, 0, 0, 0]) : check9 (f.mask a0 a1 a2 a3) = check9 f := by
  unfold check9 form9
  rw [hk, hm]
  simp only [Fr.mask, Bool.not_true, Bool.false_and, Bool.not_false, Bool.and_true, ne_eq, not_true_eq_false, decide_false, Bool.and_false]
  rfl
theorem check_key {f : Fr} (hm : f.masked = false) (h : check9 f = 0) : f.key = [0, 0, 0, 0] := form9_zero (check_form h).1 hm

set_option maxHeartbeats 6400000 in
set_option maxRecDepth 100000 in
theorem masks_row (w : World) (f : Fr) (hf : f.good) (a0 a1 a2 a3 : Int) (ha : bytesIn [a0, a1, a2, a3]) : Calls Try.prog 19 #[.agg f.cs, .agg #[.int .u8 a0, .int .u8 a1, .int .u8 a2, .int .u8 a3]] w fun e w' => e = .returned (.bool true) ∧ Touch NoS w w' := by
  have hz : f.data.size ≤ 2 ^ 63 - 1 := hf.2.2
  obtain ⟨g, hgd⟩ : ∃ g, g = f.mask a0 a1 a2 a3 := ⟨_, rfl⟩
  have hg : g.good := by rw [hgd]; exact ⟨hf.1, ha, hf.2.2⟩
  obtain ⟨er, her⟩ : ∃ er, er = check9 f := ⟨_, rfl⟩
  obtain ⟨es, hes⟩ : ∃ es, es = check9 g := ⟨_, rfl⟩
  have HPN := Lib.hid (fun h W => f_put_no f hf h W)
  have HPY := Lib.hid (fun h W => f_put f hf h W)
  have HQN := Lib.hid (fun h W => f_put_no g hg h W)
  have HQY := Lib.hid (fun h W => f_put g hg h W)
  rw [← her] at HPN HPY
  rw [← hes] at HQN HQY
  have HF := Lib.hid (fun h => check_form (f := f) (by rw [← her]; exact h))
  have HG := Lib.hid (fun h => check_form (f := g) (by rw [← hes]; exact h))
  have HFD := Lib.hid hf
  have HGD := Lib.hid hg
  obtain ⟨L, hL⟩ : ∃ L, L = fput f := ⟨_, rfl⟩
  obtain ⟨M, hM⟩ : ∃ M, M = fput g := ⟨_, rfl⟩
  have HL := Lib.hid hL
  have HM := Lib.hid hM
  rw [← hL] at HPY
  rw [← hM] at HQY
  obtain ⟨N, hN⟩ : ∃ N, N = L.length := ⟨_, rfl⟩
  obtain ⟨K, hK⟩ : ∃ K, K = M.length := ⟨_, rfl⟩
  have HN := Lib.hid hN
  have HK := Lib.hid hK
  rw [← hN] at HPY
  rw [← hK] at HQY
  have hNs : N = size9 f := by rw [hN, hL, fput_length]
  have hKs : K = size9 g := by rw [hK, hM, fput_length]
  have HNS := Lib.hid hNs
  have HKS := Lib.hid hKs
  have HSF := Lib.hid (fun h W => f_size f h W)
  have HSG := Lib.hid (fun h W => f_size g h W)
  rw [← hNs] at HSF
  rw [← hKs] at HSG
  rw [hgd] at HQN HQY HSG
  have heqk : f.masked = false → f.key = [0, 0, 0, 0] → es = er := fun h1 h2 => by rw [hes, her, hgd]; exact mask_check h1 h2
  have hkz : f.masked = false → er = 0 → f.key = [0, 0, 0, 0] := fun h1 h2 => check_key h1 (by rw [← her]; exact h2)
  have hNK : f.masked = false → K = N + 4 := fun h => by rw [hNs, hKs, hgd]; unfold size9 Fr.mask; rw [h]; simp
  have HEQ := Lib.hid heqk
  have HKZ := Lib.hid hkz
  have HNK := Lib.hid hNK
  obtain ⟨f', hff⟩ : ∃ f', f' = f := ⟨_, rfl⟩
  rw [← hff] at HL HF HFD HNS
  obtain ⟨fin, op, masked, k0, k1, k2, k3, d⟩ := f
  have HFF := Lib.hid hff
  have hdz : f'.data.size = d.size := by rw [hff]
  have HDZ := Lib.hid hdz
  have hgz : g.data.size = d.size := by rw [hgd]; rfl
  have HGZ := Lib.hid hgz
  simp only [Fr.cs, Fr.key, Fr.mask] at *
  have HGG := Lib.hid hgd
  clear her hes hf hg hL hM hff hgd hdz hN hK hNs hKs heqk hkz hNK hgz
  cases masked with
  | true =>
    go_enter Try.func19, Try.ntmps19
    go_wp2_with fail
    refine (aw9 _).mono ?_
    rintro e w1 ⟨rfl, ht⟩
    have hb0 : Touch NoS w ((w.alloc (.cells #[.bool fin, .int .i64 op, .bool true, .int .u8 k0, .int .u8 k1, .int .u8 k2, .int .u8 k3, .string d] 43)).alloc (.cells #[.int .u8 a0, .int .u8 a1, .int .u8 a2, .int .u8 a3] 41)) := ((Touch.refl _ _).alloc _).alloc _
    have hb := ((Blk.new w 43 #[.bool fin, .int .i64 op, .bool true, .int .u8 k0, .int .u8 k1, .int .u8 k2, .int .u8 k3, .string d]).alloc (.cells #[.int .u8 a0, .int .u8 a1, .int .u8 a2, .int .u8 a3] 41)).touch ht (fun h => h)
    have HT := Lib.hid (hb0.trans ht)
    have b2 := hb.cell 2
    have b7 := hb.cell 7
    simp at b2 b7
    clear ht hb hb0
    by_cases h5 : 1000 < d.size
    · go_wp2_with fail
      refine (aw9 _).mono ?_
      rintro e w2 ⟨rfl, ht⟩
      have HT2 := Lib.hid (HT.out.trans ht)
      clear ht
      go_wp2
      go_ret
      exact ⟨rfl, HT2.out⟩
    · go_wp2_with fail
      refine (aw9 _).mono ?_
      rintro e w2 ⟨rfl, ht⟩
      have HT2 := Lib.hid (HT.out.trans ht)
      clear ht
      go_wp2
      go_ret
      exact ⟨rfl, HT2.out⟩
  | false =>
    go_enter Try.func19, Try.ntmps19
    go_wp2_with fail
    refine (aw9 _).mono ?_
    rintro e w1 ⟨rfl, ht⟩
    have hb0 : Touch NoS w ((w.alloc (.cells #[.bool fin, .int .i64 op, .bool false, .int .u8 k0, .int .u8 k1, .int .u8 k2, .int .u8 k3, .string d] 43)).alloc (.cells #[.int .u8 a0, .int .u8 a1, .int .u8 a2, .int .u8 a3] 41)) := ((Touch.refl _ _).alloc _).alloc _
    have hb := ((Blk.new w 43 #[.bool fin, .int .i64 op, .bool false, .int .u8 k0, .int .u8 k1, .int .u8 k2, .int .u8 k3, .string d]).alloc (.cells #[.int .u8 a0, .int .u8 a1, .int .u8 a2, .int .u8 a3] 41)).touch ht (fun h => h)
    have hc := (Blk.new (w.alloc (.cells #[.bool fin, .int .i64 op, .bool false, .int .u8 k0, .int .u8 k1, .int .u8 k2, .int .u8 k3, .string d] 43)) 41 #[.int .u8 a0, .int .u8 a1, .int .u8 a2, .int .u8 a3]).touch ht (fun h => h)
    rw [show (w.alloc (.cells #[.bool fin, .int .i64 op, .bool false, .int .u8 k0, .int .u8 k1, .int .u8 k2, .int .u8 k3, .string d] 43)).heap.size = w.heap.size + 1 from by simp] at hc
    have HT := Lib.hid (hb0.trans ht)
    have b0 := hb.cell 0
    have b1 := hb.cell 1
    have b2 := hb.cell 2
    have b3 := hb.cell 3
    have b4 := hb.cell 4
    have b5 := hb.cell 5
    have b6 := hb.cell 6
    have b7 := hb.cell 7
    have c0 := hc.cell 0
    have c1 := hc.cell 1
    have c2 := hc.cell 2
    have c3 := hc.cell 3
    have HB := Lib.hid hb
    have HC := Lib.hid hc
    simp at b0 b1 b2 b3 b4 b5 b6 b7 c0 c1 c2 c3
    have hlt1 := hc.lt
    clear ht hb hc hb0
    by_cases h5 : 1000 < d.size
    · go_wp2_with fail
      refine (aw9 _).mono ?_
      rintro e w2 ⟨rfl, ht⟩
      have HT2 := Lib.hid (HT.out.trans ht)
      clear ht
      go_wp2
      go_ret
      exact ⟨rfl, HT2.out⟩
    have h5' : d.size ≤ 1000 := by omega
    clear h5 hz
    go_wp2_with fail
    go_region
    obtain ⟨w2, hw2⟩ : ∃ w2, w2 = (w1.alloc (.cells #[.bool fin, .int .i64 op, .bool true, .int .u8 a0, .int .u8 a1, .int .u8 a2, .int .u8 a3, .string d] 43)).drew := ⟨_, rfl⟩
    have HT2 : Hid (Touch NoS w w2) := by rw [hw2]; exact (HT.out.alloc _).drew
    have HB2 := Lib.hid (HB.out.alloc (.cells #[.bool fin, .int .i64 op, .bool true, .int .u8 a0, .int .u8 a1, .int .u8 a2, .int .u8 a3, .string d] 43)).drew
    have HC2 := Lib.hid (HC.out.alloc (.cells #[.bool fin, .int .i64 op, .bool true, .int .u8 a0, .int .u8 a1, .int .u8 a2, .int .u8 a3, .string d] 43)).drew
    have HD2 := Lib.hid (Blk.new w1 43 #[.bool fin, .int .i64 op, .bool true, .int .u8 a0, .int .u8 a1, .int .u8 a2, .int .u8 a3, .string d]).drew
    rw [← hw2] at HB2 HC2 HD2
    have b0 := HB2.out.cell 0
    have b1 := HB2.out.cell 1
    have b2 := HB2.out.cell 2
    have b3 := HB2.out.cell 3
    have b4 := HB2.out.cell 4
    have b5 := HB2.out.cell 5
    have b6 := HB2.out.cell 6
    have b7 := HB2.out.cell 7
    simp at b0 b1 b2 b3 b4 b5 b6 b7
    rw [← hw2]
    clear hw2 HB HC HT c0 c1 c2 c3
    by_cases her : er = 0
    · subst her
      have hkz := HKZ.out (by first | trivial | rfl) (by first | trivial | rfl)
      obtain rfl := HEQ.out (by first | trivial | rfl) hkz
      simp only [List.cons.injEq, and_true] at hkz
      obtain ⟨rfl, rfl, rfl, rfl⟩ := hkz
      obtain ⟨hfm, _⟩ := HF.out (by first | trivial | rfl)
      obtain ⟨hgm, _⟩ := HG.out (by first | trivial | rfl)
      have hNz : N ≤ 2000 := by rw [HNS.out]; have := size9_le f'; rw [HDZ.out] at this; omega
      have hKz : K ≤ 2000 := by rw [HKS.out]; have := size9_le g; rw [HGZ.out] at this; omega
      have HMB : Hid (bytesIn M) := by rw [HM.out]; exact fput_bytes HGD.out hgm
      have hga : fget M 65536 = (g, K, 0) := by rw [HM.out, fget_full HGD.out hgm, if_neg (by rw [HGZ.out]; omega), ← HM.out, ← HK.out]
      rw [HGG.out] at hga
      have HGA := Lib.hid hga
      clear hga
      go_wp2_with fail
      refine (HPY.out (by first | trivial | rfl) _).mono ?_
      rintro e w3 ⟨v, rfl, ho, ht⟩
      obtain ⟨A, c, rfl, _, _, _, _, _⟩ := own_cases ho
      have HT3 := Lib.hid (HT2.out.trans ht)
      have HB3 := Lib.hid (HB2.out.touch ht (fun h => h))
      have HC3 := Lib.hid (HC2.out.touch ht (fun h => h))
      have HD3 := Lib.hid (HD2.out.touch ht (fun h => h))
      clear ht ho HB2 HC2 HD2 HT2 b0 b1 b2 b3 b4 b5 b6 b7
      have d0 := HD3.out.cell 0
      have d1 := HD3.out.cell 1
      have d2 := HD3.out.cell 2
      have d3 := HD3.out.cell 3
      have d4 := HD3.out.cell 4
      have d5 := HD3.out.cell 5
      have d6 := HD3.out.cell 6
      have d7 := HD3.out.cell 7
      simp at d0 d1 d2 d3 d4 d5 d6 d7
      go_wp2_with fail
      refine (HQY.out (by first | trivial | rfl) _).mono ?_
      rintro e w4 ⟨v, rfl, ho, ht⟩
      obtain ⟨A2, c2, rfl, hlc, hcm, hrd, _, _⟩ := own_cases ho
      have HR := Lib.hid hrd
      have HCM := Lib.hid hcm
      have HT4 := Lib.hid (HT3.out.trans ht)
      have HB4 := Lib.hid (HB3.out.touch ht (fun h => h))
      have HC4 := Lib.hid (HC3.out.touch ht (fun h => h))
      have HD4 := Lib.hid (HD3.out.touch ht (fun h => h))
      clear ht ho hrd hcm HB3 HC3 HD3 HT3 d0 d1 d2 d3 d4 d5 d6 d7
      go_wp2_with fail
      refine (f_get _ M K c2 HK.out.symm 65536 (wf_i64 (by omega) (by omega)) _ HR.out HMB.out hlc HCM.out (by omega)).mono ?_
      rintro e w5 ⟨rfl, ht⟩
      rw [HGA.out]
      simp only [Fr.cs]
      have HT5 := Lib.hid (HT4.out.trans ht)
      have HB5 := Lib.hid (HB4.out.touch ht (fun h => h))
      have HC5 := Lib.hid (HC4.out.touch ht (fun h => h))
      have HD5 := Lib.hid (HD4.out.touch ht (fun h => h))
      clear ht HB4 HC4 HD4 HT4
      have hnk := HNK.out trivial
      have e1 : ((K : Int) == (N : Int) + 4) = true := by rw [beq_iff_eq]; omega
      have e2 : IntKind.i64.wrap ((N : Int) + 4) = (N : Int) + 4 := IntWalk.i64_in _ (by omega)
      have e3 : ([a0, a1, a2, a3] == [a0, a1, a2, a3]) = true := by rw [beq_iff_eq]
      have heqk : ∀ w, (binOp .eql 41 (.agg #[.int .u8 a0, .int .u8 a1, .int .u8 a2, .int .u8 a3]) (.agg #[.int .u8 a0, .int .u8 a1, .int .u8 a2, .int .u8 a3])).run Try.prog w = .ok (.bool true) w := fun w => by rw [eql_key, e3]
      have e4 : (d.toList == d.toList) = true := by simp
      clear e3 hnk
      go_upto_region 10 with (fail)
      obtain ⟨w6, hw6⟩ : ∃ w6, w6 = w5.alloc (.cells #[.bool fin, .int .i64 op, .bool true, .int .u8 a0, .int .u8 a1, .int .u8 a2, .int .u8 a3, .string d] 43) := ⟨_, rfl⟩
      have HT6 : Hid (Touch NoS w w6) := by rw [hw6]; exact HT5.out.alloc _
      have hb6 := HB5.out.alloc (.cells #[.bool fin, .int .i64 op, .bool true, .int .u8 a0, .int .u8 a1, .int .u8 a2, .int .u8 a3, .string d] 43)
      have hc6 := HC5.out.alloc (.cells #[.bool fin, .int .i64 op, .bool true, .int .u8 a0, .int .u8 a1, .int .u8 a2, .int .u8 a3, .string d] 43)
      have hd6 := HD5.out.alloc (.cells #[.bool fin, .int .i64 op, .bool true, .int .u8 a0, .int .u8 a1, .int .u8 a2, .int .u8 a3, .string d] 43)
      have he6 := Blk.new w5 43 #[.bool fin, .int .i64 op, .bool true, .int .u8 a0, .int .u8 a1, .int .u8 a2, .int .u8 a3, .string d]
      rw [← hw6] at hb6 hc6 hd6 he6
      rw [← hw6]
      obtain ⟨gx, hgx⟩ : ∃ gx, gx = w5.heap.size := ⟨_, rfl⟩
      rw [← hgx] at he6 ⊢
      have x0 := hb6.lt
      have x1 := hc6.lt
      have x2 := hd6.lt
      have x3 := he6.lt
      have b0 := hb6.cell 0
      have b1 := hb6.cell 1
      have b2 := hb6.cell 2
      have b3 := hb6.cell 3
      have b4 := hb6.cell 4
      have b5 := hb6.cell 5
      have b6 := hb6.cell 6
      have b7 := hb6.cell 7
      have c0 := hc6.cell 0
      have c1 := hc6.cell 1
      have c3' := hc6.cell 2
      have c3 := hc6.cell 3
      have d0 := hd6.cell 0
      have d1 := hd6.cell 1
      have d2 := hd6.cell 2
      have d3 := hd6.cell 3
      have d4 := hd6.cell 4
      have d5 := hd6.cell 5
      have d6 := hd6.cell 6
      have d7 := hd6.cell 7
      have f0 := he6.cell 0
      have f1 := he6.cell 1
      have f3 := he6.cell 3
      have f4 := he6.cell 4
      have f5 := he6.cell 5
      have f6 := he6.cell 6
      have f7 := he6.cell 7
      simp at b0 b1 b2 b3 b4 b5 b6 b7 c0 c1 c3' c3 d0 d1 d2 d3 d4 d5 d6 d7 f0 f1 f3 f4 f5 f6 f7
      have hcl : ∀ W, Touch NoS w6.drew W → ∀ b o, b < w6.heap.size → W.cell? ⟨b, o, none⟩ = w6.cell? ⟨b, o, none⟩ := fun W h b o hb => World.cell?_of_block (h.block b hb (fun h => h))
      have HCL := Lib.hid hcl
      have htd : Touch NoS w6.drew w6.drew := Touch.refl _ _
      have hcd : ∀ b o, b < w6.heap.size → w6.drew.cell? ⟨b, o, none⟩ = w6.cell? ⟨b, o, none⟩ := fun b o _ => rfl
      have hdz : d.size ≤ 4611686018427387904 := by omega
      have HSZ : Hid (∀ (m : Bool) (p0 p1 p2 p3 : Int) (fi : Bool) (oq : Int) (W : World), Calls Try.prog 51 #[.agg #[.bool fi, .int .i64 oq, .bool m, .int .u8 p0, .int .u8 p1, .int .u8 p2, .int .u8 p3, .string d]] W fun e w' => e = .returned (.int .i64 (size9 ⟨fi, oq, m, p0, p1, p2, p3, d⟩)) ∧ Touch NoS W w') := fun m p0 p1 p2 p3 fi oq W => f_size ⟨fi, oq, m, p0, p1, p2, p3, d⟩ hdz W
      have e5 : size9 ⟨fin, op, true, a0, a1, a2, a3, d⟩ = K := by rw [HKS.out, HGG.out]
      have e6 : size9 ⟨fin, op, false, 0, 0, 0, 0, d⟩ = N := by rw [HNS.out, HFF.out]
      clear hcl hw6 hgx hb6 hc6 hd6 he6 HB5 HC5 HD5 HT5 hdz
      go_region_held3 (fun w' => Touch NoS w6.drew w' ∧ ∀ b o, b < w6.heap.size → w'.cell? ⟨b, o, none⟩ = w6.cell? ⟨b, o, none⟩)
        (first | exact ⟨ht7, hc7⟩ | exact ⟨htd, hcd⟩)
        (first | (go_at_call 51; refine (HSZ.out _ _ _ _ _ _ _ _).mono ?_; rintro e w7 ⟨rfl, ht⟩; have ht7 : Touch NoS w6.drew w7 := (by first | exact ht7.trans ht | exact htd.trans ht); have hc7 := HCL.out _ ht7))
      clear hcd hc7 HCL
      go_wp2
      go_ret
      exact ⟨rfl, HT6.out.drew.trans ht7⟩
    · have HE := Lib.hid her
      have her1 : (er != 0) = true := by rw [bne_iff_ne]; exact her
      clear her
      go_wp2_with fail
      refine (HPN.out HE.out _).mono ?_
      rintro e w3 ⟨rfl, ht⟩
      have HT3 := Lib.hid (HT2.out.trans ht)
      have HB3 := Lib.hid (HB2.out.touch ht (fun h => h))
      have HD3 := Lib.hid (HD2.out.touch ht (fun h => h))
      clear ht HB2 HC2 HD2 HT2 b0 b1 b2 b3 b4 b5 b6 b7
      have d0 := HD3.out.cell 0
      have d1 := HD3.out.cell 1
      have d2 := HD3.out.cell 2
      have d3 := HD3.out.cell 3
      have d4 := HD3.out.cell 4
      have d5 := HD3.out.cell 5
      have d6 := HD3.out.cell 6
      have d7 := HD3.out.cell 7
      simp at d0 d1 d2 d3 d4 d5 d6 d7
      by_cases hkk : [k0, k1, k2, k3] = [0, 0, 0, 0]
      · obtain rfl := HEQ.out (by first | trivial | rfl) hkk
        clear hkk
        go_wp2_with fail
        refine (HQN.out HE.out _).mono ?_
        rintro e w4 ⟨rfl, ht⟩
        have HT4 := Lib.hid (HT3.out.trans ht)
        clear ht
        go_wp2
        go_ret
        exact ⟨rfl, HT4.out⟩
      · have hz1 : ([k0, k1, k2, k3] == [0, 0, 0, 0]) = false := by rw [beq_eq_false_iff_ne]; exact hkk
        have hneq : ∀ w, (binOp .neq 41 (.agg #[.int .u8 k0, .int .u8 k1, .int .u8 k2, .int .u8 k3]) (.agg #[.int .u8 0, .int .u8 0, .int .u8 0, .int .u8 0])).run Try.prog w = .ok (.bool true) w := fun w => by rw [neq_key, hz1]; rfl
        clear hkk hz1
        by_cases hes : es = 0
        · subst hes
          have her2 : (er == 0) = false := by rw [beq_eq_false_iff_ne]; exact HE.out
          go_wp2_with fail
          refine (HQY.out (by first | trivial | rfl) _).mono ?_
          rintro e w4 ⟨v, rfl, _, ht⟩
          have HT4 := Lib.hid (HT3.out.trans ht)
          have HB4 := Lib.hid (HB3.out.touch ht (fun h => h))
          have b3 := HB4.out.cell 3
          have b4 := HB4.out.cell 4
          have b5 := HB4.out.cell 5
          have b6 := HB4.out.cell 6
          simp at b3 b4 b5 b6
          clear ht
          go_wp2
          go_ret
          exact ⟨rfl, HT4.out⟩
        · have HE2 := Lib.hid hes
          clear hes
          go_wp2_with fail
          refine (HQN.out HE2.out _).mono ?_
          rintro e w4 ⟨rfl, ht⟩
          have HT4 := Lib.hid (HT3.out.trans ht)
          have HB4 := Lib.hid (HB3.out.touch ht (fun h => h))
          have b3 := HB4.out.cell 3
          have b4 := HB4.out.cell 4
          have b5 := HB4.out.cell 5
          have b6 := HB4.out.cell 6
          simp at b3 b4 b5 b6
          clear ht
          by_cases hee : er = es
          · subst hee
            go_wp2
            go_ret
            exact ⟨rfl, HT4.out⟩
          · have hee2 : (er == es) = false := by rw [beq_eq_false_iff_ne]; exact hee
            clear hee
            go_wp2
            go_ret
            exact ⟨rfl, HT4.out⟩
end Go.Proofs.Ytfafpcmdgjmlhaa
