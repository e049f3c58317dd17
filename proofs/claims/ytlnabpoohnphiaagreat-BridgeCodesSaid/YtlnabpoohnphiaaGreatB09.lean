/- frame: Get, whole. -/
import Derived.Test.YtlnabpoohnphiaaGreatB08
import Derived.Laws.CopyOwn
/- frame: Get, whole. -/
namespace Go.Proofs.YtlnabpoohnphiaaGreat
open Go.RowKit
set_option linter.unusedSimpArgs false
set_option linter.unusedVariables false

theorem getSize_cases (b : List Int) (hb : bytesIn b) (size : Nat) (hs : 1 ≤ size) (hs8 : size ≤ 8) (lo hi : Int) (hhi : hi ≤ 9223372036854775807) :
    getSize b size lo hi = (0, 0, 80) ∨ getSize b size lo hi = (0, 0, 81) ∨ (∃ n k, getSize b size lo hi = (n, k, 0) ∧ 0 ≤ n ∧ n ≤ 9223372036854775807 ∧ 1 ≤ k ∧ k ≤ 9 ∧ k ≤ b.length) := by
  unfold getSize
  have h0 := (numB_bound ((hb.take (1 + size)).drop 1) 0 (by omega) size).1
  split
  · exact .inr (.inl rfl)
  · split
    · exact .inl rfl
    · exact .inr (.inr ⟨_, _, rfl, h0, by omega, by omega, by omega, by omega⟩)
theorem getLen_cases {b : List Int} (hb : bytesIn b) : getLen b = (0, 0, 80) ∨ getLen b = (0, 0, 81) ∨ (∃ n k, getLen b = (n, k, 0) ∧ 0 ≤ n ∧ n ≤ 9223372036854775807 ∧ 1 ≤ k ∧ k ≤ 9 ∧ k ≤ b.length) := by
  unfold getLen
  split
  · exact .inl rfl
  · rename_i hne
    have hlen : 1 ≤ b.length := by cases b with | nil => exact absurd rfl hne | cons => simp
    split
    · exact getSize_cases b hb 2 (by omega) (by omega) _ _ (by omega)
    · split
      · exact getSize_cases b hb 8 (by omega) (by omega) _ _ (by omega)
      · have := getD_in hb 0 (by omega) 0
        exact .inr (.inr ⟨_, _, rfl, by omega, by omega, by omega, by omega, hlen⟩)

theorem setCell_keep {w : World} {b i j : Nat} {u v : Value} (hij : j ≠ i) (h : w.cell? ⟨b, j, none⟩ = some v) : (w.setCell ⟨b, i, none⟩ u).cell? ⟨b, j, none⟩ = some v := by
  rw [← h]
  unfold World.cell? World.setCell
  simp only [Array.getElem?_modify, if_true]
  cases w.heap[b]? with
  | none => rfl
  | some o =>
    cases o <;> simp [Array.getElem?_setIfInBounds, Ne.symm hij]
theorem u8_info1 : (Tryz.prog.info? 5).map (·.size) = some 1 := by kernel_rfl
theorem nat_sub (n at_ : Nat) (h : at_ ≤ n) : (((n - at_ : Nat) : Int)) = (n : Int) - at_ := by omega

set_option maxHeartbeats 12800000 in
set_option maxRecDepth 100000 in
theorem f_get_many (g off cap : Nat) (l : List Int) (w : World) (hr : Rd w (some ⟨g, off, none⟩) (u8s l)) (hb : bytesIn l) (hn1 : 1 < l.length) (hlc : l.length ≤ cap) (hc : cap ≤ maxLen) (hl2 : l.length ≤ 70368744177664)
    (x o y v : Int) (fin cn : Bool) (most : Int) (hm : (Lit.int .i64 most).wf = true)
    (hg : g < w.heap.size) (h0 : w.cell? ⟨g, off, none⟩ = some (.int .u8 x)) (hv1 : w.cell? ⟨g, off + 1, none⟩ = some (.int .u8 v)) (hvd : l.getD 1 0 = v)
    (hy : bits .and .u8 x 128 = y) (hyf : (y != 0) = fin) (ho : bits .and .u8 x 15 = o) (ho0 : 0 ≤ o) (ho1 : o ≤ 15) (hz : bits .and .u8 x 112 = 0)
    (hk : known9 o = true) (hcn : control9 o = cn) (hok : cn = true → fin = true ∧ ¬ 125 < v % 128) :
    Calls Tryz.prog 122 #[.slice (some ⟨g, off, none⟩) l.length cap, .int .i64 most] w fun e w' =>
      e = .returned (.tuple #[.agg (flen l most fin o).1.cs, .int .i64 (flen l most fin o).2.1, .int .i64 (flen l most fin o).2.2]) ∧ Touch NoS w w' := by
  have HKN := Lib.hid (f_known o)
  have HCN := Lib.hid (f_control o)
  rw [hk] at HKN
  rw [hcn] at HCN
  have HC := Lib.hid hc
  have HR := Lib.hid hr
  have HB := Lib.hid hb
  unfold maxLen at hc
  have hv8 : 0 ≤ v ∧ v ≤ 255 := by rw [← hvd]; exact getD_in hb 0 (by omega) 1
  have hv127 := and127 v hv8.1 hv8.2
  obtain ⟨m, hmm⟩ : ∃ m, m = decide (128 ≤ v) := ⟨_, rfl⟩
  obtain ⟨y1, hy1⟩ : ∃ y1, y1 = bits .and .u8 v 128 := ⟨_, rfl⟩
  have hym : (y1 != 0) = m := by
    rw [hy1, and128 v hv8.1 hv8.2, hmm]
    by_cases h : 128 ≤ v
    · rw [if_pos h, decide_eq_true h]; rfl
    · rw [if_neg h, decide_eq_false h]; rfl
  have hyy := hy1.symm
  obtain ⟨hm0, hm1⟩ := (Lit.wf_int_iff .i64 most).1 hm
  rw [show IntKind.i64.min = -9223372036854775808 from rfl] at hm0
  rw [show IntKind.i64.max = 9223372036854775807 from rfl] at hm1
  obtain ⟨R, hR⟩ : ∃ R, R = flen l most fin o := ⟨_, rfl⟩
  rw [← hR]
  unfold flen at hR
  simp only at hR
  have hlen : (l.drop 1).length = l.length - 1 := by simp
  obtain ⟨n, hn⟩ : ∃ n, n = l.length := ⟨_, rfl⟩
  rw [← hn] at hn1 hlc hl2 hlen ⊢
  have HN := Lib.hid hn
  have HLEN := Lib.hid hlen
  have hcap1 : (cap == 1) = false := by rw [beq_eq_false_iff_ne]; omega
  have hcap2 : ¬ cap = 1 := by omega
  have hn1' : (1 : Int) < n := by omega
  have hne : ((n : Int) == 0) = false := by rw [beq_eq_false_iff_ne]; omega
  have HVD := Lib.hid hvd
  have HM := Lib.hid hmm
  obtain ⟨gn, gk, ge, hG⟩ : ∃ gn gk ge, getLen (l.drop 1) = (gn, gk, ge) := ⟨_, _, _, rfl⟩
  rw [hG] at hR
  simp only at hR
  have hGC : (ge = 80 ∧ gn = 0 ∧ gk = 0) ∨ (ge = 81 ∧ gn = 0 ∧ gk = 0) ∨ (ge = 0 ∧ 0 ≤ gn ∧ gn ≤ 9223372036854775807 ∧ 1 ≤ gk ∧ gk ≤ 9 ∧ gk ≤ n - 1) := by
    rcases getLen_cases (hb.drop 1) with h | h | ⟨a, b, h, h1, h2, h3, h4, h5⟩
    · rw [hG] at h; injection h with h1 h2; injection h2 with h2 h3; exact .inl ⟨h3, h1, h2⟩
    · rw [hG] at h; injection h with h1 h2; injection h2 with h2 h3; exact .inr (.inl ⟨h3, h1, h2⟩)
    · rw [hG] at h; injection h with ha hb'; injection hb' with hb' hc'; subst ha hb' hc'; rw [hlen] at h5; exact .inr (.inr ⟨rfl, h1, h2, h3, h4, h5⟩)
  have HMG := Lib.hid (fun W (h : Touch NoS w W) => m_get_ (some ⟨g, off + 1, none⟩) (l.drop 1) (n - 1) (cap - 1) hlen W ((rd_window hr 1 l.length).touch_no h |> fun q => by rw [List.take_length] at q; exact q) (hb.drop 1) (by omega) (by unfold maxLen; omega) (by omega))
  rw [hG] at HMG
  simp only at HMG
  have HRR := Lib.hid hR
  have HV8 := Lib.hid hv8
  clear hr hb hm hR hk hcn hn hlen hvd hmm hG hy1 hv8
  cases cn with
  | false =>
    clear hok
    go_enter Tryz.func122, Tryz.ntmps122
    go_wp2_with fail
    go_region
    go_wp2_with fail
    refine (HCN.out _).mono ?_
    rintro e w1 ⟨rfl, hw1⟩
    obtain ⟨hb4, hb7, ht⟩ : Blk w1 w.heap.size 42 Fr.zero.cs ∧ Blk w1 (w.heap.size + 1) 42 (Fr.cs ⟨fin, o, false, 0, 0, 0, 0, ⟨#[]⟩⟩) ∧ Touch NoS w w1 := by rw [← hw1]; exact two_blocks _ _ _ _ _
    have ca := ht.cell h0
    have cb := ht.cell hv1
    have c0 := hb7.cell 0
    have c1 := hb7.cell 1
    simp [Fr.cs] at c0 c1
    have HB4 := Lib.hid hb4
    have HB7 := Lib.hid hb7
    have HT := Lib.hid ht
    have gl : g < w1.heap.size := by have := ht.size; omega
    have HV1 := Lib.hid hv1
    clear hw1 hb4 hb7 ht h0 hv1
    go_wp2_with fail
    refine (HKN.out _).mono ?_
    rintro e w2 ⟨rfl, rfl⟩
    go_wp2_with fail
    refine (HMG.out _ HT.out).mono ?_
    rintro e w2 ⟨rfl, ht⟩
    have HB4b := Lib.hid (HB4.out.touch ht (fun h => h))
    have HB7b := Lib.hid (HB7.out.touch ht (fun h => h))
    have HT2 := Lib.hid (HT.out.trans ht)
    have cb := ht.cell cb
    have b0 := HB7b.out.cell 0
    have b2 := HB7b.out.cell 2
    have f2 := HB7b.out.frozen 2
    have gl2 := HB7b.out.lt
    simp [Fr.cs] at b0 b2
    clear ht HB4 HB7 HT ca c0 c1
    rcases hGC with ⟨rfl, rfl, rfl⟩ | ⟨rfl, rfl, rfl⟩ | ⟨rfl, hg0, hg1, hk0, hk1, hk2⟩
    · have hR := HRR.out
      rw [if_neg (by omega), if_pos (by omega)] at hR
      subst hR
      go_wp2_with (refine wpList_store_row rfl 42 (.tmp 4) (.tmp 81) rfl w.heap.size Fr.zero.cs rfl rfl 42 Fr.zero.cs HB4b.out fr_info rfl (fr_one _) ?_; rw [setRow_same HB4b.out])
      refine bodyPost_ret (v := .tuple #[.agg Fr.zero.cs, .int .i64 0, .int .i64 90]) (get_results _ _ _ _ _ _ rfl rfl rfl HB4b.out) rfl ⟨rfl, HT2.out⟩
    · have hR := HRR.out
      rw [if_pos (by omega)] at hR
      subst hR
      go_wp2_with (refine wpList_store_row rfl 42 (.tmp 4) (.tmp 77) rfl w.heap.size Fr.zero.cs rfl rfl 42 Fr.zero.cs HB4b.out fr_info rfl (fr_one _) ?_; rw [setRow_same HB4b.out])
      refine bodyPost_ret (v := .tuple #[.agg Fr.zero.cs, .int .i64 0, .int .i64 91]) (get_results _ _ _ _ _ _ rfl rfl rfl HB4b.out) rfl ⟨rfl, HT2.out⟩
    · have hR := HRR.out
      rw [if_neg (by omega), if_neg (by omega)] at hR
      by_cases hmo : most < 0
      · rw [if_pos (.inl hmo)] at hR
        subst hR
        go_wp2_with (refine wpList_store_row rfl 42 (.tmp 4) (.tmp 91) rfl w.heap.size Fr.zero.cs rfl rfl 42 Fr.zero.cs HB4b.out fr_info rfl (fr_one _) ?_; rw [setRow_same HB4b.out])
        refine bodyPost_ret (v := .tuple #[.agg Fr.zero.cs, .int .i64 0, .int .i64 92]) (get_results _ _ _ _ _ _ rfl rfl rfl HB4b.out) rfl ⟨rfl, HT2.out⟩
      by_cases hmn : most < gn
      · rw [if_pos (.inr hmn)] at hR
        subst hR
        have hmo' : 0 ≤ most := by omega
        clear hmo
        go_wp2_with (refine wpList_store_row rfl 42 (.tmp 4) (.tmp 91) rfl w.heap.size Fr.zero.cs rfl rfl 42 Fr.zero.cs HB4b.out fr_info rfl (fr_one _) ?_; rw [setRow_same HB4b.out])
        refine bodyPost_ret (v := .tuple #[.agg Fr.zero.cs, .int .i64 0, .int .i64 92]) (get_results _ _ _ _ _ _ rfl rfl rfl HB4b.out) rfl ⟨rfl, HT2.out⟩
      rw [if_neg (by omega)] at hR
      have hmo' : 0 ≤ most := by omega
      have hmn' : gn ≤ most := by omega
      clear hmo hmn
      unfold fmask at hR
      rw [HVD.out] at hR
      obtain ⟨gN, rfl⟩ := Int.eq_ofNat_of_zero_le hg0
      cases m with
      | false =>
        have hmf := of_decide_eq_false HM.out.symm
        rw [if_neg hmf] at hR
        unfold fdata at hR
        clear hmf
        go_upto_region 16 with (fail)
        obtain ⟨w3, hw3⟩ : ∃ w3, w3 = w2.setCell ⟨w.heap.size + 1, 2, none⟩ (.bool false) := ⟨_, rfl⟩
        rw [← hw3]
        have HB4c := Lib.hid (HB4b.out.far (p := ⟨w.heap.size + 1, 2, none⟩) (by simp) (.bool false))
        have HB7c : Hid (Blk _ _ _ (Fr.cs ⟨fin, o, false, 0, 0, 0, 0, ⟨#[]⟩⟩)) := Lib.hid (HB7b.out.set_ 2 (.bool false))
        have HT3 := Lib.hid (HT2.out.setNew (p := ⟨w.heap.size + 1, 2, none⟩) (by simp) (.bool false))
        rw [← hw3] at HB4c HB7c HT3
        have b2 := HB7c.out.cell 2
        have b3 := HB7c.out.cell 3
        have b4 := HB7c.out.cell 4
        have b5 := HB7c.out.cell 5
        have b6 := HB7c.out.cell 6
        have b7 := HB7c.out.cell 7
        simp [Fr.cs] at b2 b3 b4 b5 b6 b7
        clear hw3 HB4b HB7b HT2 b0 f2 gl2 cb
        by_cases hsd : (n : Int) - (1 + (gk : Int)) < gN
        · rw [if_pos (by have := HN.out; omega)] at hR
          subst hR
          go_wp2_with (refine wpList_store_row rfl 42 (.tmp 4) (.tmp 123) rfl w.heap.size Fr.zero.cs rfl rfl 42 Fr.zero.cs HB4c.out fr_info rfl (fr_one _) ?_; rw [setRow_same HB4c.out])
          refine bodyPost_ret (v := .tuple #[.agg Fr.zero.cs, .int .i64 0, .int .i64 90]) (get_results _ _ _ _ _ _ rfl rfl rfl HB4c.out) rfl ⟨rfl, HT3.out⟩
        rw [if_neg (by have := HN.out; omega)] at hR
        have HR2 := Lib.hid hR
        have hgN : gN ≤ n - (1 + gk) := by omega
        clear hR hsd
        have hrd3 : Rd w3 (if cap = (1 + (gk : Int)).toNat then some ⟨g, off, none⟩ else some ⟨g, off + (1 + (gk : Int)).toNat, none⟩) (u8s ((l.drop (1 + gk)).take gN)) := by
          rw [show (1 + (gk : Int)).toNat = 1 + gk from by omega]
          by_cases hca : cap = 1 + gk
          · obtain rfl : gN = 0 := by omega
            exact Rd_nil _ _
          · rw [if_neg hca]
            have := rd_window HR.out (1 + gk) (1 + gk + gN)
            rw [List.drop_take, show 1 + gk + gN - (1 + gk) = gN from by omega] at this
            exact this.touch_no HT3.out
        have htl : ((l.drop (1 + gk)).take gN).length = gN := by rw [List.length_take, List.length_drop]; have := HN.out; omega
        have hin : bytesIn ((l.drop (1 + gk)).take gN) := (HB.out.drop _).take _
        obtain ⟨seg, hseg⟩ : ∃ seg, seg = (l.drop (1 + gk)).take gN := ⟨_, rfl⟩
        rw [← hseg] at hrd3 htl hin
        have HAP : Hid (∀ (W : World) (A' : Option Addr) (n' c' : Nat), Touch (At (w.heap.size + 1)) w3.drew W → A' = (if cap = (1 + (gk : Int)).toNat then some ⟨g, off, none⟩ else some ⟨g, off + (1 + (gk : Int)).toNat, none⟩) → n' = gN →
            Calls Tryz.prog 113 #[.agg #[.int .u8 0, .int .u8 0, .int .u8 0, .int .u8 0], .int .i64 0, .slice A' n' c'] W fun e w' =>
              ∃ g', e = .returned (.slice (some ⟨g', 0, none⟩) n' n') ∧ W.heap.size ≤ g' ∧ Rd w' (some ⟨g', 0, none⟩) (u8s (turn [0, 0, 0, 0] 0 seg)) ∧ Touch NoS W w') := by
          intro W A' n' c' h hA hn
          subst hA hn
          exact m_apply_ 0 0 0 0 (fun x hx => by simp at hx; omega) 0 0 rfl (by omega) _ seg _ c' htl W ((hrd3.touch_no (Touch.refl _ _).drew).touch h (fun a ha he => by split at ha <;> (injection ha with ha; subst ha; have he' : g = w.heap.size + 1 := he; omega))) hin (by omega)
        have HSEG := Lib.hid hseg
        have HTL := Lib.hid htl
        have i1 : (0 : Int) ≤ 1 + (gk : Int) := by omega
        have i2 : 1 + (gk : Int) ≤ 1 + (gk : Int) + gN := by omega
        have i3 : 1 + (gk : Int) + gN ≤ cap := by omega
        have hgN' : (1 + (gk : Int) + gN).toNat - (1 + (gk : Int)).toNat = gN := by omega
        have HGN := Lib.hid hgN'
        have HLN : Hid ((turn [0, 0, 0, 0] 0 seg).length = (1 + (gk : Int) + gN).toNat - (1 + (gk : Int)).toNat) := by rw [turn_length]; exact HTL.out.trans hgN'.symm
        have htd : Touch (At (w.heap.size + 1)) w3.drew w3.drew := Touch.refl _ _
        clear hseg hrd3 htl hin hgN'
        go_wp2_with fail
        obtain ⟨AA, hAA⟩ : ∃ AA, (if cap = (1 + (gk : Int)).toNat then some (⟨g, off, none⟩ : Addr) else some ⟨g, off + (1 + (gk : Int)).toNat, none⟩) = AA := ⟨_, rfl⟩
        rw [hAA] at HAP
        go_region_with ((go_at_call 113; refine (HAP.out _ _ _ _ ?_ rfl HGN.out).mono ?_; assumption; rintro e w5 ⟨g5, rfl, hg5, hrd5, ht⟩; have hta : Touch (At (w.heap.size + 1)) w3.drew w5 := ht.of_no; have q3 := ht.cell (w := w3.drew) b3; have q4 := ht.cell (w := w3.drew) b4; have q5 := ht.cell (w := w3.drew) b5; have q6 := ht.cell (w := w3.drew) b6; have q7 := ht.cell (w := w3.drew) b7; have hb75 := (HB7c.out.drew.touch ht (fun h => h)); have f7 := hb75.frozen 7; have l7 := hb75.lt; have HB75 := Lib.hid hb75; clear hb75; have hcv := conv_str w5 _ _ _ ((1 + (gk : Int) + gN).toNat - (1 + (gk : Int)).toNat) HLN.out hrd5))
        obtain ⟨w6, hw6⟩ : ∃ w6, w6 = w5.setCell ⟨w.heap.size + 1, 7, none⟩ (.string (Go.strOfNums (turn [0, 0, 0, 0] 0 seg))) := ⟨_, rfl⟩
        rw [← hw6]
        have HB76 : Hid (Blk w6 (w.heap.size + 1) 42 (Fr.cs ⟨fin, o, false, 0, 0, 0, 0, Go.strOfNums (turn [0, 0, 0, 0] 0 seg)⟩)) := by rw [hw6]; exact HB75.out.set_ 7 _
        have HB46 : Hid (Blk w6 w.heap.size 42 Fr.zero.cs) := by rw [hw6]; exact (HB4c.out.drew.touch ht (fun h => h)).far (by simp) _
        have HT6 : Hid (Touch NoS w w6) := by rw [hw6]; exact (HT3.out.drew.trans ht).setNew (by simp) _
        clear hw6 HB75 HB4c HB7c HT3 ht hta hrd5 hcv q3 q4 q5 q6 q7 f7 l7 hg5 b2 b3 b4 b5 b6 b7 HAP hAA htd
        go_wp2_with (first
          | (refine wpList_load_row rfl 42 (.tmp 7) rfl (w.heap.size + 1) rfl 42 _ (0, 0) _ HB76.out Tryz.underlying42 rfl fr_info ?_)
          | (refine wpList_store_row rfl 42 (.tmp 4) (.tmp 137) rfl w.heap.size (Fr.cs ⟨fin, o, false, 0, 0, 0, 0, Go.strOfNums (turn [0, 0, 0, 0] 0 seg)⟩) rfl rfl 42 Fr.zero.cs HB46.out fr_info rfl (fr_one _) ?_))
        have hR := HR2.out
        rw [Int.toNat_natCast, ← HSEG.out] at hR
        subst hR
        have e : ((1 + gk + gN : Nat) : Int) = 1 + (gk : Int) + gN := by omega
        refine bodyPost_ret (v := .tuple #[.agg (Fr.cs ⟨fin, o, false, 0, 0, 0, 0, Go.strOfNums (turn [0, 0, 0, 0] 0 seg)⟩), .int .i64 (1 + (gk : Int) + gN), .int .i64 0]) (get_results _ _ _ _ _ _ rfl rfl rfl HB46.out.row) rfl ⟨by rw [← e]; rfl, HT6.out.row (Nat.le_refl _) _⟩
      | true =>
        have hmf := of_decide_eq_true HM.out.symm
        rw [if_pos hmf] at hR
        clear hmf
        go_upto_region 16 with (fail)
        obtain ⟨w3, hw3⟩ : ∃ w3, w3 = w2.setCell ⟨w.heap.size + 1, 2, none⟩ (.bool true) := ⟨_, rfl⟩
        rw [← hw3]
        have HB4d := Lib.hid (HB4b.out.far (p := ⟨w.heap.size + 1, 2, none⟩) (by simp) (.bool true))
        have HB7d : Hid (Blk _ _ _ (Fr.cs ⟨fin, o, true, 0, 0, 0, 0, ⟨#[]⟩⟩)) := Lib.hid (HB7b.out.set_ 2 (.bool true))
        have HTd := Lib.hid (HT2.out.setNew (p := ⟨w.heap.size + 1, 2, none⟩) (by simp) (.bool true))
        rw [← hw3] at HB4d HB7d HTd
        have b2 := HB7d.out.cell 2
        simp [Fr.cs] at b2
        clear hw3 HB4b HB7b HT2 b0 f2 gl2 cb
        by_cases hsh : (n : Int) < 1 + gk + 4
        · rw [if_pos (by have := HN.out; omega)] at hR
          subst hR
          go_wp2_with (refine wpList_store_row rfl 42 (.tmp 4) (.tmp 107) rfl w.heap.size Fr.zero.cs rfl rfl 42 Fr.zero.cs HB4d.out fr_info rfl (fr_one _) ?_; rw [setRow_same HB4d.out])
          refine bodyPost_ret (v := .tuple #[.agg Fr.zero.cs, .int .i64 0, .int .i64 90]) (get_results _ _ _ _ _ _ rfl rfl rfl HB4d.out) rfl ⟨rfl, HTd.out⟩
        rw [if_neg (by have := HN.out; omega)] at hR
        have hsh' : (1 : Int) + gk + 4 ≤ n := by omega
        clear hsh
        unfold fdata at hR
        obtain ⟨K, hK⟩ : ∃ K, K = (l.drop (1 + gk)).take 4 := ⟨_, rfl⟩
        have hKl : K.length = 4 := by rw [hK, List.length_take, List.length_drop]; have := HN.out; omega
        have hKin : bytesIn K := by rw [hK]; exact (HB.out.drop _).take _
        have hKrd : Rd w3 (some ⟨g, off + (1 + gk), none⟩) (u8s K) := by
          have := rd_window HR.out (1 + gk) (1 + gk + 4)
          rw [List.drop_take, show 1 + gk + 4 - (1 + gk) = 4 from by omega, ← hK] at this
          exact this.touch_no HTd.out
        rw [← hK] at hR
        obtain ⟨a0, a1, a2, a3, rfl⟩ : ∃ a0 a1 a2 a3, K = [a0, a1, a2, a3] := by
          rcases K with _ | ⟨a0, _ | ⟨a1, _ | ⟨a2, _ | ⟨a3, _ | ⟨a4, K⟩⟩⟩⟩⟩ <;> simp at hKl
          exact ⟨_, _, _, _, rfl⟩
        have HKR := Lib.hid hKrd
        have HKI := Lib.hid hKin
        have HRd := Lib.hid hR
        have hca : ¬ cap = 1 + gk := by omega
        have hca' : (cap == 1 + gk) = false := by rw [beq_eq_false_iff_ne]; exact hca
        have i1 : (0 : Int) ≤ 1 + (gk : Int) := by omega
        have i2 : (1 : Int) + gk ≤ cap := by omega
        have i4 : (1 : Int) + gk ≤ n := by omega
        have i3 : (1 + (gk : Int)).toNat = 1 + gk := by omega
        have h45 : w3.heap.size > w.heap.size + 1 := HB7d.out.lt
        clear hK hKl hKin hKrd hR
        go_wp2_with fail
        have HNM : Hid ((u8s [a0, a1, a2, a3]).length = Nat.min (n - (1 + gk)) 4) := by
          show 4 = Nat.min (n - (1 + gk)) 4
          exact (Nat.min_eq_right (by omega)).symm
        have HPOS : Hid (∀ j u, (u8s [a0, a1, a2, a3])[j]? = some u → w3.drew.cell? ((⟨g, off + (1 + gk), none⟩ : Addr).add j) = some u) := by
          intro j u hu
          obtain ⟨g', off', he, _, hcc⟩ := HKR.out (by simp [u8s])
          injection he with he
          injection he with h1 h2
          subst h1 h2
          rw [add_plain]
          exact hcc j u hu
        have HCB := Lib.hid HB7d.out.drew
        go_region_law (refine step_copy_splice rfl (.tmp 110) (.tmp 113) 43 43 rfl 5 Tryz.underlying43 u8_info1 (some ⟨w.heap.size + 1, 3, none⟩) (some ⟨g, off + (1 + gk), none⟩) 4 4 (n - (1 + gk)) (cap - (1 + gk)) (by simp [Act.eval, Act.put]) (by simp [Act.eval, Act.put]) (w.heap.size + 1) 3 (Fr.cs ⟨fin, o, true, 0, 0, 0, 0, ⟨#[]⟩⟩).toList 42 HCB.out (u8s [a0, a1, a2, a3]) HNM.out (fun _ => ⟨rfl, _, rfl, HPOS.out⟩) (Nat.le_of_ble_eq_true rfl) (u8s_one _) (w.heap.size + 1) w3.drew (Below.refl _ _) (Nat.le_refl _) ?_; intro w4 hg4 hb4)
        have hln : (u8s [a0, a1, a2, a3]).length = 4 := rfl
        have hwr : IntKind.i64.wrap (1 + (gk : Int) + ((4 : Nat) : Int)) = 1 + gk + 4 := IntWalk.i64_in _ (by omega)
        rw [hln, hwr]
        have HB7c : Hid (Blk w4 (w.heap.size + 1) 42 (Fr.cs ⟨fin, o, true, a0, a1, a2, a3, ⟨#[]⟩⟩)) := hg4.out
        have HB4c : Hid (Blk w4 w.heap.size 42 Fr.zero.cs) := (hb4.block _ (by omega)).trans HB4d.out.drew
        have HT3 : Hid (Touch NoS w w4) := HTd.out.drew.below' hb4 (by omega)
        have hR := HRd.out
        have b2 := HB7c.out.cell 2
        have b3 := HB7c.out.cell 3
        have b4 := HB7c.out.cell 4
        have b5 := HB7c.out.cell 5
        have b6 := HB7c.out.cell 6
        have b7 := HB7c.out.cell 7
        simp [Fr.cs] at b2 b3 b4 b5 b6 b7
        clear hln hwr hg4 hb4 HB4d HB7d HTd HNM HPOS HCB HKR i1 i2 i3 i4 hca hca'
        by_cases hsd : (n : Int) - (1 + (gk : Int) + 4) < gN
        · rw [if_pos (by have := HN.out; omega)] at hR
          subst hR
          go_wp2_with (refine wpList_store_row rfl 42 (.tmp 4) (.tmp 123) rfl w.heap.size Fr.zero.cs rfl rfl 42 Fr.zero.cs HB4c.out fr_info rfl (fr_one _) ?_; rw [setRow_same HB4c.out])
          refine bodyPost_ret (v := .tuple #[.agg Fr.zero.cs, .int .i64 0, .int .i64 90]) (get_results _ _ _ _ _ _ rfl rfl rfl HB4c.out) rfl ⟨rfl, HT3.out⟩
        rw [if_neg (by have := HN.out; omega)] at hR
        have HR2 := Lib.hid hR
        have hgN : gN ≤ n - (1 + gk + 4) := by omega
        clear hR hsd
        have hrd3 : Rd w4 (if cap = (1 + (gk : Int) + 4).toNat then some ⟨g, off, none⟩ else some ⟨g, off + (1 + (gk : Int) + 4).toNat, none⟩) (u8s ((l.drop (1 + gk + 4)).take gN)) := by
          rw [show (1 + (gk : Int) + 4).toNat = 1 + gk + 4 from by omega]
          by_cases hca : cap = 1 + gk + 4
          · obtain rfl : gN = 0 := by omega
            exact Rd_nil _ _
          · rw [if_neg hca]
            have := rd_window HR.out (1 + gk + 4) (1 + gk + 4 + gN)
            rw [List.drop_take, show 1 + gk + 4 + gN - (1 + gk + 4) = gN from by omega] at this
            exact this.touch_no HT3.out
        have htl : ((l.drop (1 + gk + 4)).take gN).length = gN := by rw [List.length_take, List.length_drop]; have := HN.out; omega
        have hin : bytesIn ((l.drop (1 + gk + 4)).take gN) := (HB.out.drop _).take _
        obtain ⟨seg, hseg⟩ : ∃ seg, seg = (l.drop (1 + gk + 4)).take gN := ⟨_, rfl⟩
        rw [← hseg] at hrd3 htl hin
        have HAP : Hid (∀ (W : World) (A' : Option Addr) (n' c' : Nat), Touch (At (w.heap.size + 1)) w4.drew W → A' = (if cap = (1 + (gk : Int) + 4).toNat then some ⟨g, off, none⟩ else some ⟨g, off + (1 + (gk : Int) + 4).toNat, none⟩) → n' = gN →
            Calls Tryz.prog 113 #[.agg #[.int .u8 a0, .int .u8 a1, .int .u8 a2, .int .u8 a3], .int .i64 0, .slice A' n' c'] W fun e w' =>
              ∃ g', e = .returned (.slice (some ⟨g', 0, none⟩) n' n') ∧ W.heap.size ≤ g' ∧ Rd w' (some ⟨g', 0, none⟩) (u8s (turn [a0, a1, a2, a3] 0 seg)) ∧ Touch NoS W w') := by
          intro W A' n' c' h hA hn
          subst hA hn
          exact m_apply_ a0 a1 a2 a3 HKI.out 0 0 rfl (by omega) _ seg _ c' htl W ((hrd3.touch_no (Touch.refl _ _).drew).touch h (fun a ha he => by split at ha <;> (injection ha with ha; subst ha; have he' : g = w.heap.size + 1 := he; omega))) hin (by omega)
        have HSEG := Lib.hid hseg
        have HTL := Lib.hid htl
        have i1 : (0 : Int) ≤ 1 + (gk : Int) + 4 := by omega
        have i2 : 1 + (gk : Int) + 4 ≤ 1 + (gk : Int) + 4 + gN := by omega
        have i3 : 1 + (gk : Int) + 4 + gN ≤ cap := by omega
        have hgN' : (1 + (gk : Int) + 4 + gN).toNat - (1 + (gk : Int) + 4).toNat = gN := by omega
        have HGN := Lib.hid hgN'
        have HLN : Hid ((turn [a0, a1, a2, a3] 0 seg).length = (1 + (gk : Int) + 4 + gN).toNat - (1 + (gk : Int) + 4).toNat) := by rw [turn_length]; exact HTL.out.trans hgN'.symm
        have htd : Touch (At (w.heap.size + 1)) w4.drew w4.drew := Touch.refl _ _
        clear hseg hrd3 htl hin hgN'
        go_wp2_with fail
        obtain ⟨AA, hAA⟩ : ∃ AA, (if cap = (1 + (gk : Int) + 4).toNat then some (⟨g, off, none⟩ : Addr) else some ⟨g, off + (1 + (gk : Int) + 4).toNat, none⟩) = AA := ⟨_, rfl⟩
        rw [hAA] at HAP
        go_region_with ((go_at_call 113; refine (HAP.out _ _ _ _ ?_ rfl HGN.out).mono ?_; assumption; rintro e w5 ⟨g5, rfl, hg5, hrd5, ht⟩; have hta : Touch (At (w.heap.size + 1)) w4.drew w5 := ht.of_no; have q3 := ht.cell (w := w4.drew) b3; have q4 := ht.cell (w := w4.drew) b4; have q5 := ht.cell (w := w4.drew) b5; have q6 := ht.cell (w := w4.drew) b6; have q7 := ht.cell (w := w4.drew) b7; have hb75 := (HB7c.out.drew.touch ht (fun h => h)); have f7 := hb75.frozen 7; have l7 := hb75.lt; have HB75 := Lib.hid hb75; clear hb75; have hcv := conv_str w5 _ _ _ ((1 + (gk : Int) + 4 + gN).toNat - (1 + (gk : Int) + 4).toNat) HLN.out hrd5))
        obtain ⟨w6, hw6⟩ : ∃ w6, w6 = w5.setCell ⟨w.heap.size + 1, 7, none⟩ (.string (Go.strOfNums (turn [a0, a1, a2, a3] 0 seg))) := ⟨_, rfl⟩
        rw [← hw6]
        have HB76 : Hid (Blk w6 (w.heap.size + 1) 42 (Fr.cs ⟨fin, o, true, a0, a1, a2, a3, Go.strOfNums (turn [a0, a1, a2, a3] 0 seg)⟩)) := by rw [hw6]; exact HB75.out.set_ 7 _
        have HB46 : Hid (Blk w6 w.heap.size 42 Fr.zero.cs) := by rw [hw6]; exact (HB4c.out.drew.touch ht (fun h => h)).far (by simp) _
        have HT6 : Hid (Touch NoS w w6) := by rw [hw6]; exact (HT3.out.drew.trans ht).setNew (by simp) _
        clear hw6 HB75 HB4c HB7c HT3 ht hta hrd5 hcv q3 q4 q5 q6 q7 f7 l7 hg5 b2 b3 b4 b5 b6 b7 HAP hAA htd
        go_wp2_with (first
          | (refine wpList_load_row rfl 42 (.tmp 7) rfl (w.heap.size + 1) rfl 42 _ (0, 0) _ HB76.out Tryz.underlying42 rfl fr_info ?_)
          | (refine wpList_store_row rfl 42 (.tmp 4) (.tmp 137) rfl w.heap.size (Fr.cs ⟨fin, o, true, a0, a1, a2, a3, Go.strOfNums (turn [a0, a1, a2, a3] 0 seg)⟩) rfl rfl 42 Fr.zero.cs HB46.out fr_info rfl (fr_one _) ?_))
        have hR := HR2.out
        rw [Int.toNat_natCast, ← HSEG.out] at hR
        subst hR
        have e : ((1 + gk + 4 + gN : Nat) : Int) = 1 + (gk : Int) + 4 + gN := by omega
        refine bodyPost_ret (v := .tuple #[.agg (Fr.cs ⟨fin, o, true, a0, a1, a2, a3, Go.strOfNums (turn [a0, a1, a2, a3] 0 seg)⟩), .int .i64 (1 + (gk : Int) + 4 + gN), .int .i64 0]) (get_results _ _ _ _ _ _ rfl rfl rfl HB46.out.row) rfl ⟨by rw [← e]; rfl, HT6.out.row (Nat.le_refl _) _⟩
  | true =>
    obtain ⟨rfl, h125⟩ := hok rfl
    clear hok
    go_enter Tryz.func122, Tryz.ntmps122
    go_wp2_with fail
    go_region
    go_wp2_with fail
    refine (HCN.out _).mono ?_
    rintro e w1 ⟨rfl, hw1⟩
    obtain ⟨hb4, hb7, ht⟩ : Blk w1 w.heap.size 42 Fr.zero.cs ∧ Blk w1 (w.heap.size + 1) 42 (Fr.cs ⟨true, o, false, 0, 0, 0, 0, ⟨#[]⟩⟩) ∧ Touch NoS w w1 := by rw [← hw1]; exact two_blocks _ _ _ _ _
    have ca := ht.cell h0
    have cb := ht.cell hv1
    have c0 := hb7.cell 0
    have c1 := hb7.cell 1
    simp [Fr.cs] at c0 c1
    have HB4 := Lib.hid hb4
    have HB7 := Lib.hid hb7
    have HT := Lib.hid ht
    have gl : g < w1.heap.size := by have := ht.size; omega
    have HV1 := Lib.hid hv1
    clear hw1 hb4 hb7 ht h0 hv1
    go_wp2_with fail
    refine (HKN.out _).mono ?_
    rintro e w2 ⟨rfl, rfl⟩
    go_wp2_with fail
    refine (HMG.out _ HT.out).mono ?_
    rintro e w2 ⟨rfl, ht⟩
    have HB4b := Lib.hid (HB4.out.touch ht (fun h => h))
    have HB7b := Lib.hid (HB7.out.touch ht (fun h => h))
    have HT2 := Lib.hid (HT.out.trans ht)
    have cb := ht.cell cb
    have b0 := HB7b.out.cell 0
    have b2 := HB7b.out.cell 2
    have f2 := HB7b.out.frozen 2
    have gl2 := HB7b.out.lt
    simp [Fr.cs] at b0 b2
    clear ht HB4 HB7 HT ca c0 c1
    rcases hGC with ⟨rfl, rfl, rfl⟩ | ⟨rfl, rfl, rfl⟩ | ⟨rfl, hg0, hg1, hk0, hk1, hk2⟩
    · have hR := HRR.out
      rw [if_neg (by omega), if_pos (by omega)] at hR
      subst hR
      go_wp2_with (refine wpList_store_row rfl 42 (.tmp 4) (.tmp 81) rfl w.heap.size Fr.zero.cs rfl rfl 42 Fr.zero.cs HB4b.out fr_info rfl (fr_one _) ?_; rw [setRow_same HB4b.out])
      refine bodyPost_ret (v := .tuple #[.agg Fr.zero.cs, .int .i64 0, .int .i64 90]) (get_results _ _ _ _ _ _ rfl rfl rfl HB4b.out) rfl ⟨rfl, HT2.out⟩
    · have hR := HRR.out
      rw [if_pos (by omega)] at hR
      subst hR
      go_wp2_with (refine wpList_store_row rfl 42 (.tmp 4) (.tmp 77) rfl w.heap.size Fr.zero.cs rfl rfl 42 Fr.zero.cs HB4b.out fr_info rfl (fr_one _) ?_; rw [setRow_same HB4b.out])
      refine bodyPost_ret (v := .tuple #[.agg Fr.zero.cs, .int .i64 0, .int .i64 91]) (get_results _ _ _ _ _ _ rfl rfl rfl HB4b.out) rfl ⟨rfl, HT2.out⟩
    · have hR := HRR.out
      rw [if_neg (by omega), if_neg (by omega)] at hR
      by_cases hmo : most < 0
      · rw [if_pos (.inl hmo)] at hR
        subst hR
        go_wp2_with (refine wpList_store_row rfl 42 (.tmp 4) (.tmp 91) rfl w.heap.size Fr.zero.cs rfl rfl 42 Fr.zero.cs HB4b.out fr_info rfl (fr_one _) ?_; rw [setRow_same HB4b.out])
        refine bodyPost_ret (v := .tuple #[.agg Fr.zero.cs, .int .i64 0, .int .i64 92]) (get_results _ _ _ _ _ _ rfl rfl rfl HB4b.out) rfl ⟨rfl, HT2.out⟩
      by_cases hmn : most < gn
      · rw [if_pos (.inr hmn)] at hR
        subst hR
        have hmo' : 0 ≤ most := by omega
        clear hmo
        go_wp2_with (refine wpList_store_row rfl 42 (.tmp 4) (.tmp 91) rfl w.heap.size Fr.zero.cs rfl rfl 42 Fr.zero.cs HB4b.out fr_info rfl (fr_one _) ?_; rw [setRow_same HB4b.out])
        refine bodyPost_ret (v := .tuple #[.agg Fr.zero.cs, .int .i64 0, .int .i64 92]) (get_results _ _ _ _ _ _ rfl rfl rfl HB4b.out) rfl ⟨rfl, HT2.out⟩
      rw [if_neg (by omega)] at hR
      have hmo' : 0 ≤ most := by omega
      have hmn' : gn ≤ most := by omega
      clear hmo hmn
      unfold fmask at hR
      rw [HVD.out] at hR
      obtain ⟨gN, rfl⟩ := Int.eq_ofNat_of_zero_le hg0
      cases m with
      | false =>
        have hmf := of_decide_eq_false HM.out.symm
        rw [if_neg hmf] at hR
        unfold fdata at hR
        clear hmf
        go_upto_region 16 with (fail)
        obtain ⟨w3, hw3⟩ : ∃ w3, w3 = w2.setCell ⟨w.heap.size + 1, 2, none⟩ (.bool false) := ⟨_, rfl⟩
        rw [← hw3]
        have HB4c := Lib.hid (HB4b.out.far (p := ⟨w.heap.size + 1, 2, none⟩) (by simp) (.bool false))
        have HB7c : Hid (Blk _ _ _ (Fr.cs ⟨true, o, false, 0, 0, 0, 0, ⟨#[]⟩⟩)) := Lib.hid (HB7b.out.set_ 2 (.bool false))
        have HT3 := Lib.hid (HT2.out.setNew (p := ⟨w.heap.size + 1, 2, none⟩) (by simp) (.bool false))
        rw [← hw3] at HB4c HB7c HT3
        have b2 := HB7c.out.cell 2
        have b3 := HB7c.out.cell 3
        have b4 := HB7c.out.cell 4
        have b5 := HB7c.out.cell 5
        have b6 := HB7c.out.cell 6
        have b7 := HB7c.out.cell 7
        simp [Fr.cs] at b2 b3 b4 b5 b6 b7
        clear hw3 HB4b HB7b HT2 b0 f2 gl2 cb
        by_cases hsd : (n : Int) - (1 + (gk : Int)) < gN
        · rw [if_pos (by have := HN.out; omega)] at hR
          subst hR
          go_wp2_with (refine wpList_store_row rfl 42 (.tmp 4) (.tmp 123) rfl w.heap.size Fr.zero.cs rfl rfl 42 Fr.zero.cs HB4c.out fr_info rfl (fr_one _) ?_; rw [setRow_same HB4c.out])
          refine bodyPost_ret (v := .tuple #[.agg Fr.zero.cs, .int .i64 0, .int .i64 90]) (get_results _ _ _ _ _ _ rfl rfl rfl HB4c.out) rfl ⟨rfl, HT3.out⟩
        rw [if_neg (by have := HN.out; omega)] at hR
        have HR2 := Lib.hid hR
        have hgN : gN ≤ n - (1 + gk) := by omega
        clear hR hsd
        have hrd3 : Rd w3 (if cap = (1 + (gk : Int)).toNat then some ⟨g, off, none⟩ else some ⟨g, off + (1 + (gk : Int)).toNat, none⟩) (u8s ((l.drop (1 + gk)).take gN)) := by
          rw [show (1 + (gk : Int)).toNat = 1 + gk from by omega]
          by_cases hca : cap = 1 + gk
          · obtain rfl : gN = 0 := by omega
            exact Rd_nil _ _
          · rw [if_neg hca]
            have := rd_window HR.out (1 + gk) (1 + gk + gN)
            rw [List.drop_take, show 1 + gk + gN - (1 + gk) = gN from by omega] at this
            exact this.touch_no HT3.out
        have htl : ((l.drop (1 + gk)).take gN).length = gN := by rw [List.length_take, List.length_drop]; have := HN.out; omega
        have hin : bytesIn ((l.drop (1 + gk)).take gN) := (HB.out.drop _).take _
        obtain ⟨seg, hseg⟩ : ∃ seg, seg = (l.drop (1 + gk)).take gN := ⟨_, rfl⟩
        rw [← hseg] at hrd3 htl hin
        have HAP : Hid (∀ (W : World) (A' : Option Addr) (n' c' : Nat), Touch (At (w.heap.size + 1)) w3.drew W → A' = (if cap = (1 + (gk : Int)).toNat then some ⟨g, off, none⟩ else some ⟨g, off + (1 + (gk : Int)).toNat, none⟩) → n' = gN →
            Calls Tryz.prog 113 #[.agg #[.int .u8 0, .int .u8 0, .int .u8 0, .int .u8 0], .int .i64 0, .slice A' n' c'] W fun e w' =>
              ∃ g', e = .returned (.slice (some ⟨g', 0, none⟩) n' n') ∧ W.heap.size ≤ g' ∧ Rd w' (some ⟨g', 0, none⟩) (u8s (turn [0, 0, 0, 0] 0 seg)) ∧ Touch NoS W w') := by
          intro W A' n' c' h hA hn
          subst hA hn
          exact m_apply_ 0 0 0 0 (fun x hx => by simp at hx; omega) 0 0 rfl (by omega) _ seg _ c' htl W ((hrd3.touch_no (Touch.refl _ _).drew).touch h (fun a ha he => by split at ha <;> (injection ha with ha; subst ha; have he' : g = w.heap.size + 1 := he; omega))) hin (by omega)
        have HSEG := Lib.hid hseg
        have HTL := Lib.hid htl
        have i1 : (0 : Int) ≤ 1 + (gk : Int) := by omega
        have i2 : 1 + (gk : Int) ≤ 1 + (gk : Int) + gN := by omega
        have i3 : 1 + (gk : Int) + gN ≤ cap := by omega
        have hgN' : (1 + (gk : Int) + gN).toNat - (1 + (gk : Int)).toNat = gN := by omega
        have HGN := Lib.hid hgN'
        have HLN : Hid ((turn [0, 0, 0, 0] 0 seg).length = (1 + (gk : Int) + gN).toNat - (1 + (gk : Int)).toNat) := by rw [turn_length]; exact HTL.out.trans hgN'.symm
        have htd : Touch (At (w.heap.size + 1)) w3.drew w3.drew := Touch.refl _ _
        clear hseg hrd3 htl hin hgN'
        go_wp2_with fail
        obtain ⟨AA, hAA⟩ : ∃ AA, (if cap = (1 + (gk : Int)).toNat then some (⟨g, off, none⟩ : Addr) else some ⟨g, off + (1 + (gk : Int)).toNat, none⟩) = AA := ⟨_, rfl⟩
        rw [hAA] at HAP
        go_region_with ((go_at_call 113; refine (HAP.out _ _ _ _ ?_ rfl HGN.out).mono ?_; assumption; rintro e w5 ⟨g5, rfl, hg5, hrd5, ht⟩; have hta : Touch (At (w.heap.size + 1)) w3.drew w5 := ht.of_no; have q3 := ht.cell (w := w3.drew) b3; have q4 := ht.cell (w := w3.drew) b4; have q5 := ht.cell (w := w3.drew) b5; have q6 := ht.cell (w := w3.drew) b6; have q7 := ht.cell (w := w3.drew) b7; have hb75 := (HB7c.out.drew.touch ht (fun h => h)); have f7 := hb75.frozen 7; have l7 := hb75.lt; have HB75 := Lib.hid hb75; clear hb75; have hcv := conv_str w5 _ _ _ ((1 + (gk : Int) + gN).toNat - (1 + (gk : Int)).toNat) HLN.out hrd5))
        obtain ⟨w6, hw6⟩ : ∃ w6, w6 = w5.setCell ⟨w.heap.size + 1, 7, none⟩ (.string (Go.strOfNums (turn [0, 0, 0, 0] 0 seg))) := ⟨_, rfl⟩
        rw [← hw6]
        have HB76 : Hid (Blk w6 (w.heap.size + 1) 42 (Fr.cs ⟨true, o, false, 0, 0, 0, 0, Go.strOfNums (turn [0, 0, 0, 0] 0 seg)⟩)) := by rw [hw6]; exact HB75.out.set_ 7 _
        have HB46 : Hid (Blk w6 w.heap.size 42 Fr.zero.cs) := by rw [hw6]; exact (HB4c.out.drew.touch ht (fun h => h)).far (by simp) _
        have HT6 : Hid (Touch NoS w w6) := by rw [hw6]; exact (HT3.out.drew.trans ht).setNew (by simp) _
        clear hw6 HB75 HB4c HB7c HT3 ht hta hrd5 hcv q3 q4 q5 q6 q7 f7 l7 hg5 b2 b3 b4 b5 b6 b7 HAP hAA htd
        go_wp2_with (first
          | (refine wpList_load_row rfl 42 (.tmp 7) rfl (w.heap.size + 1) rfl 42 _ (0, 0) _ HB76.out Tryz.underlying42 rfl fr_info ?_)
          | (refine wpList_store_row rfl 42 (.tmp 4) (.tmp 137) rfl w.heap.size (Fr.cs ⟨true, o, false, 0, 0, 0, 0, Go.strOfNums (turn [0, 0, 0, 0] 0 seg)⟩) rfl rfl 42 Fr.zero.cs HB46.out fr_info rfl (fr_one _) ?_))
        have hR := HR2.out
        rw [Int.toNat_natCast, ← HSEG.out] at hR
        subst hR
        have e : ((1 + gk + gN : Nat) : Int) = 1 + (gk : Int) + gN := by omega
        refine bodyPost_ret (v := .tuple #[.agg (Fr.cs ⟨true, o, false, 0, 0, 0, 0, Go.strOfNums (turn [0, 0, 0, 0] 0 seg)⟩), .int .i64 (1 + (gk : Int) + gN), .int .i64 0]) (get_results _ _ _ _ _ _ rfl rfl rfl HB46.out.row) rfl ⟨by rw [← e]; rfl, HT6.out.row (Nat.le_refl _) _⟩
      | true =>
        have hmf := of_decide_eq_true HM.out.symm
        rw [if_pos hmf] at hR
        clear hmf
        go_upto_region 16 with (fail)
        obtain ⟨w3, hw3⟩ : ∃ w3, w3 = w2.setCell ⟨w.heap.size + 1, 2, none⟩ (.bool true) := ⟨_, rfl⟩
        rw [← hw3]
        have HB4d := Lib.hid (HB4b.out.far (p := ⟨w.heap.size + 1, 2, none⟩) (by simp) (.bool true))
        have HB7d : Hid (Blk _ _ _ (Fr.cs ⟨true, o, true, 0, 0, 0, 0, ⟨#[]⟩⟩)) := Lib.hid (HB7b.out.set_ 2 (.bool true))
        have HTd := Lib.hid (HT2.out.setNew (p := ⟨w.heap.size + 1, 2, none⟩) (by simp) (.bool true))
        rw [← hw3] at HB4d HB7d HTd
        have b2 := HB7d.out.cell 2
        simp [Fr.cs] at b2
        clear hw3 HB4b HB7b HT2 b0 f2 gl2 cb
        by_cases hsh : (n : Int) < 1 + gk + 4
        · rw [if_pos (by have := HN.out; omega)] at hR
          subst hR
          go_wp2_with (refine wpList_store_row rfl 42 (.tmp 4) (.tmp 107) rfl w.heap.size Fr.zero.cs rfl rfl 42 Fr.zero.cs HB4d.out fr_info rfl (fr_one _) ?_; rw [setRow_same HB4d.out])
          refine bodyPost_ret (v := .tuple #[.agg Fr.zero.cs, .int .i64 0, .int .i64 90]) (get_results _ _ _ _ _ _ rfl rfl rfl HB4d.out) rfl ⟨rfl, HTd.out⟩
        rw [if_neg (by have := HN.out; omega)] at hR
        have hsh' : (1 : Int) + gk + 4 ≤ n := by omega
        clear hsh
        unfold fdata at hR
        obtain ⟨K, hK⟩ : ∃ K, K = (l.drop (1 + gk)).take 4 := ⟨_, rfl⟩
        have hKl : K.length = 4 := by rw [hK, List.length_take, List.length_drop]; have := HN.out; omega
        have hKin : bytesIn K := by rw [hK]; exact (HB.out.drop _).take _
        have hKrd : Rd w3 (some ⟨g, off + (1 + gk), none⟩) (u8s K) := by
          have := rd_window HR.out (1 + gk) (1 + gk + 4)
          rw [List.drop_take, show 1 + gk + 4 - (1 + gk) = 4 from by omega, ← hK] at this
          exact this.touch_no HTd.out
        rw [← hK] at hR
        obtain ⟨a0, a1, a2, a3, rfl⟩ : ∃ a0 a1 a2 a3, K = [a0, a1, a2, a3] := by
          rcases K with _ | ⟨a0, _ | ⟨a1, _ | ⟨a2, _ | ⟨a3, _ | ⟨a4, K⟩⟩⟩⟩⟩ <;> simp at hKl
          exact ⟨_, _, _, _, rfl⟩
        have HKR := Lib.hid hKrd
        have HKI := Lib.hid hKin
        have HRd := Lib.hid hR
        have hca : ¬ cap = 1 + gk := by omega
        have hca' : (cap == 1 + gk) = false := by rw [beq_eq_false_iff_ne]; exact hca
        have i1 : (0 : Int) ≤ 1 + (gk : Int) := by omega
        have i2 : (1 : Int) + gk ≤ cap := by omega
        have i4 : (1 : Int) + gk ≤ n := by omega
        have i3 : (1 + (gk : Int)).toNat = 1 + gk := by omega
        have h45 : w3.heap.size > w.heap.size + 1 := HB7d.out.lt
        clear hK hKl hKin hKrd hR
        go_wp2_with fail
        have HNM : Hid ((u8s [a0, a1, a2, a3]).length = Nat.min (n - (1 + gk)) 4) := by
          show 4 = Nat.min (n - (1 + gk)) 4
          exact (Nat.min_eq_right (by omega)).symm
        have HPOS : Hid (∀ j u, (u8s [a0, a1, a2, a3])[j]? = some u → w3.drew.cell? ((⟨g, off + (1 + gk), none⟩ : Addr).add j) = some u) := by
          intro j u hu
          obtain ⟨g', off', he, _, hcc⟩ := HKR.out (by simp [u8s])
          injection he with he
          injection he with h1 h2
          subst h1 h2
          rw [add_plain]
          exact hcc j u hu
        have HCB := Lib.hid HB7d.out.drew
        go_region_law (refine step_copy_splice rfl (.tmp 110) (.tmp 113) 43 43 rfl 5 Tryz.underlying43 u8_info1 (some ⟨w.heap.size + 1, 3, none⟩) (some ⟨g, off + (1 + gk), none⟩) 4 4 (n - (1 + gk)) (cap - (1 + gk)) (by simp [Act.eval, Act.put]) (by simp [Act.eval, Act.put]) (w.heap.size + 1) 3 (Fr.cs ⟨true, o, true, 0, 0, 0, 0, ⟨#[]⟩⟩).toList 42 HCB.out (u8s [a0, a1, a2, a3]) HNM.out (fun _ => ⟨rfl, _, rfl, HPOS.out⟩) (Nat.le_of_ble_eq_true rfl) (u8s_one _) (w.heap.size + 1) w3.drew (Below.refl _ _) (Nat.le_refl _) ?_; intro w4 hg4 hb4)
        have hln : (u8s [a0, a1, a2, a3]).length = 4 := rfl
        have hwr : IntKind.i64.wrap (1 + (gk : Int) + ((4 : Nat) : Int)) = 1 + gk + 4 := IntWalk.i64_in _ (by omega)
        rw [hln, hwr]
        have HB7c : Hid (Blk w4 (w.heap.size + 1) 42 (Fr.cs ⟨true, o, true, a0, a1, a2, a3, ⟨#[]⟩⟩)) := hg4.out
        have HB4c : Hid (Blk w4 w.heap.size 42 Fr.zero.cs) := (hb4.block _ (by omega)).trans HB4d.out.drew
        have HT3 : Hid (Touch NoS w w4) := HTd.out.drew.below' hb4 (by omega)
        have hR := HRd.out
        have b2 := HB7c.out.cell 2
        have b3 := HB7c.out.cell 3
        have b4 := HB7c.out.cell 4
        have b5 := HB7c.out.cell 5
        have b6 := HB7c.out.cell 6
        have b7 := HB7c.out.cell 7
        simp [Fr.cs] at b2 b3 b4 b5 b6 b7
        clear hln hwr hg4 hb4 HB4d HB7d HTd HNM HPOS HCB HKR i1 i2 i3 i4 hca hca'
        by_cases hsd : (n : Int) - (1 + (gk : Int) + 4) < gN
        · rw [if_pos (by have := HN.out; omega)] at hR
          subst hR
          go_wp2_with (refine wpList_store_row rfl 42 (.tmp 4) (.tmp 123) rfl w.heap.size Fr.zero.cs rfl rfl 42 Fr.zero.cs HB4c.out fr_info rfl (fr_one _) ?_; rw [setRow_same HB4c.out])
          refine bodyPost_ret (v := .tuple #[.agg Fr.zero.cs, .int .i64 0, .int .i64 90]) (get_results _ _ _ _ _ _ rfl rfl rfl HB4c.out) rfl ⟨rfl, HT3.out⟩
        rw [if_neg (by have := HN.out; omega)] at hR
        have HR2 := Lib.hid hR
        have hgN : gN ≤ n - (1 + gk + 4) := by omega
        clear hR hsd
        have hrd3 : Rd w4 (if cap = (1 + (gk : Int) + 4).toNat then some ⟨g, off, none⟩ else some ⟨g, off + (1 + (gk : Int) + 4).toNat, none⟩) (u8s ((l.drop (1 + gk + 4)).take gN)) := by
          rw [show (1 + (gk : Int) + 4).toNat = 1 + gk + 4 from by omega]
          by_cases hca : cap = 1 + gk + 4
          · obtain rfl : gN = 0 := by omega
            exact Rd_nil _ _
          · rw [if_neg hca]
            have := rd_window HR.out (1 + gk + 4) (1 + gk + 4 + gN)
            rw [List.drop_take, show 1 + gk + 4 + gN - (1 + gk + 4) = gN from by omega] at this
            exact this.touch_no HT3.out
        have htl : ((l.drop (1 + gk + 4)).take gN).length = gN := by rw [List.length_take, List.length_drop]; have := HN.out; omega
        have hin : bytesIn ((l.drop (1 + gk + 4)).take gN) := (HB.out.drop _).take _
        obtain ⟨seg, hseg⟩ : ∃ seg, seg = (l.drop (1 + gk + 4)).take gN := ⟨_, rfl⟩
        rw [← hseg] at hrd3 htl hin
        have HAP : Hid (∀ (W : World) (A' : Option Addr) (n' c' : Nat), Touch (At (w.heap.size + 1)) w4.drew W → A' = (if cap = (1 + (gk : Int) + 4).toNat then some ⟨g, off, none⟩ else some ⟨g, off + (1 + (gk : Int) + 4).toNat, none⟩) → n' = gN →
            Calls Tryz.prog 113 #[.agg #[.int .u8 a0, .int .u8 a1, .int .u8 a2, .int .u8 a3], .int .i64 0, .slice A' n' c'] W fun e w' =>
              ∃ g', e = .returned (.slice (some ⟨g', 0, none⟩) n' n') ∧ W.heap.size ≤ g' ∧ Rd w' (some ⟨g', 0, none⟩) (u8s (turn [a0, a1, a2, a3] 0 seg)) ∧ Touch NoS W w') := by
          intro W A' n' c' h hA hn
          subst hA hn
          exact m_apply_ a0 a1 a2 a3 HKI.out 0 0 rfl (by omega) _ seg _ c' htl W ((hrd3.touch_no (Touch.refl _ _).drew).touch h (fun a ha he => by split at ha <;> (injection ha with ha; subst ha; have he' : g = w.heap.size + 1 := he; omega))) hin (by omega)
        have HSEG := Lib.hid hseg
        have HTL := Lib.hid htl
        have i1 : (0 : Int) ≤ 1 + (gk : Int) + 4 := by omega
        have i2 : 1 + (gk : Int) + 4 ≤ 1 + (gk : Int) + 4 + gN := by omega
        have i3 : 1 + (gk : Int) + 4 + gN ≤ cap := by omega
        have hgN' : (1 + (gk : Int) + 4 + gN).toNat - (1 + (gk : Int) + 4).toNat = gN := by omega
        have HGN := Lib.hid hgN'
        have HLN : Hid ((turn [a0, a1, a2, a3] 0 seg).length = (1 + (gk : Int) + 4 + gN).toNat - (1 + (gk : Int) + 4).toNat) := by rw [turn_length]; exact HTL.out.trans hgN'.symm
        have htd : Touch (At (w.heap.size + 1)) w4.drew w4.drew := Touch.refl _ _
        clear hseg hrd3 htl hin hgN'
        go_wp2_with fail
        obtain ⟨AA, hAA⟩ : ∃ AA, (if cap = (1 + (gk : Int) + 4).toNat then some (⟨g, off, none⟩ : Addr) else some ⟨g, off + (1 + (gk : Int) + 4).toNat, none⟩) = AA := ⟨_, rfl⟩
        rw [hAA] at HAP
        go_region_with ((go_at_call 113; refine (HAP.out _ _ _ _ ?_ rfl HGN.out).mono ?_; assumption; rintro e w5 ⟨g5, rfl, hg5, hrd5, ht⟩; have hta : Touch (At (w.heap.size + 1)) w4.drew w5 := ht.of_no; have q3 := ht.cell (w := w4.drew) b3; have q4 := ht.cell (w := w4.drew) b4; have q5 := ht.cell (w := w4.drew) b5; have q6 := ht.cell (w := w4.drew) b6; have q7 := ht.cell (w := w4.drew) b7; have hb75 := (HB7c.out.drew.touch ht (fun h => h)); have f7 := hb75.frozen 7; have l7 := hb75.lt; have HB75 := Lib.hid hb75; clear hb75; have hcv := conv_str w5 _ _ _ ((1 + (gk : Int) + 4 + gN).toNat - (1 + (gk : Int) + 4).toNat) HLN.out hrd5))
        obtain ⟨w6, hw6⟩ : ∃ w6, w6 = w5.setCell ⟨w.heap.size + 1, 7, none⟩ (.string (Go.strOfNums (turn [a0, a1, a2, a3] 0 seg))) := ⟨_, rfl⟩
        rw [← hw6]
        have HB76 : Hid (Blk w6 (w.heap.size + 1) 42 (Fr.cs ⟨true, o, true, a0, a1, a2, a3, Go.strOfNums (turn [a0, a1, a2, a3] 0 seg)⟩)) := by rw [hw6]; exact HB75.out.set_ 7 _
        have HB46 : Hid (Blk w6 w.heap.size 42 Fr.zero.cs) := by rw [hw6]; exact (HB4c.out.drew.touch ht (fun h => h)).far (by simp) _
        have HT6 : Hid (Touch NoS w w6) := by rw [hw6]; exact (HT3.out.drew.trans ht).setNew (by simp) _
        clear hw6 HB75 HB4c HB7c HT3 ht hta hrd5 hcv q3 q4 q5 q6 q7 f7 l7 hg5 b2 b3 b4 b5 b6 b7 HAP hAA htd
        go_wp2_with (first
          | (refine wpList_load_row rfl 42 (.tmp 7) rfl (w.heap.size + 1) rfl 42 _ (0, 0) _ HB76.out Tryz.underlying42 rfl fr_info ?_)
          | (refine wpList_store_row rfl 42 (.tmp 4) (.tmp 137) rfl w.heap.size (Fr.cs ⟨true, o, true, a0, a1, a2, a3, Go.strOfNums (turn [a0, a1, a2, a3] 0 seg)⟩) rfl rfl 42 Fr.zero.cs HB46.out fr_info rfl (fr_one _) ?_))
        have hR := HR2.out
        rw [Int.toNat_natCast, ← HSEG.out] at hR
        subst hR
        have e : ((1 + gk + 4 + gN : Nat) : Int) = 1 + (gk : Int) + 4 + gN := by omega
        refine bodyPost_ret (v := .tuple #[.agg (Fr.cs ⟨true, o, true, a0, a1, a2, a3, Go.strOfNums (turn [a0, a1, a2, a3] 0 seg)⟩), .int .i64 (1 + (gk : Int) + 4 + gN), .int .i64 0]) (get_results _ _ _ _ _ _ rfl rfl rfl HB46.out.row) rfl ⟨by rw [← e]; rfl, HT6.out.row (Nat.le_refl _) _⟩
end Go.Proofs.YtlnabpoohnphiaaGreat
