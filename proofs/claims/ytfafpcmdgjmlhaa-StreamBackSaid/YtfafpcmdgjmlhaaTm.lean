/- law10: plain laws on frames' bytes; StreamEach: the walk. -/
import Derived.Test.YtfafpcmdgjmlhaaTi
import Derived.Test.YtfafpcmdgjmlhaaSe
namespace Go.Proofs.Ytfafpcmdgjmlhaa
open Go.RowKit
set_option linter.unusedSimpArgs false
set_option linter.unusedVariables false

theorem slook_fput (mk : Bool) (most : Int) (f : Fr) (hf : f.good) (hc : form9 f = true) (hmk : f.masked = mk) (hd : (f.data.size : Int) ≤ most) (r : List Int) (hr : bytesIn r) : slook mk most (fput f ++ r) = (f, (fput f).length, 0) := by
  have hg := fget_fput f hf hc r most
  rw [if_neg (by omega)] at hg
  have hlen : 2 ≤ (fput f).length := by rw [fput_length]; exact size9_ge f
  have hb : bytesIn (fput f ++ r) := fun x hx => by
    rcases List.mem_append.1 hx with h | h
    · exact fput_bytes hf hc x h
    · exact hr x h
  unfold slook
  have h1 : ¬ (fget ((fput f ++ r).take 1) most).2.2 = 91 := fun h => by
    have hm := fget_mono (l := (fput f ++ r).take 1) (r := (fput f ++ r).drop 1) (by rw [List.take_append_drop]; exact hb) most (by rw [h]; decide)
    rw [List.take_append_drop, hg] at hm
    rw [← hm] at h
    cases h
  have h2 : decide (128 ≤ (fput f ++ r).getD 1 0) = mk := by
    obtain ⟨x, t, hl, _, hx⟩ := long9_head f
    have he : (fput f ++ r).getD 1 0 = x := by unfold fput; rw [hl]; rfl
    rw [he, ← hmk]
    cases hm : f.masked
    · exact decide_eq_false (fun h => by have := hx.1 h; rw [hm] at this; cases this)
    · exact decide_eq_true (hx.2 hm)
  rw [if_neg (fun h => h1 h.2), if_neg (fun h => h.2 h2), hg]
theorem scan_fput (mk : Bool) (most : Int) (f : Fr) (hf : f.good) (hc : form9 f = true) (hmk : f.masked = mk) (hd : (f.data.size : Int) ≤ most) (r : List Int) (hr : bytesIn r) (hl : (fput f ++ r).length ≤ maxLen) :
    scan mk most (fput f ++ r) = (f :: (scan mk most r).1, (scan mk most r).2) := by
  have hb : bytesIn (fput f ++ r) := fun x hx => by
    rcases List.mem_append.1 hx with h | h
    · exact fput_bytes hf hc x h
    · exact hr x h
  rw [scan_eq mk most _ hb hl, slook_fput mk most f hf hc hmk hd r hr]
  simp only [if_true]
  rw [List.drop_left]
theorem scan_nil (mk : Bool) (most : Int) : scan mk most [] = ([], [], 0) := rfl
theorem scan_one (mk : Bool) (most : Int) (f : Fr) (hf : f.good) (hc : form9 f = true) (hmk : f.masked = mk) (hd : (f.data.size : Int) ≤ most) (hl : (fput f).length ≤ maxLen) : scan mk most ([] ++ fput f) = ([f], [], 0) := by
  have h := scan_fput mk most f hf hc hmk hd [] (fun x hx => by cases hx) (by rw [List.append_nil]; exact hl)
  rw [List.append_nil, scan_nil] at h
  exact h
theorem scan_130 (mk : Bool) : scan mk 65536 ([] ++ [130]) = ([], [130], 0) := by cases mk <;> kernel_rfl

set_option maxHeartbeats 6400000 in
set_option maxRecDepth 100000 in
theorem each10_row (w : World) (mk : Bool) (A : Option Addr) (ls : List Fr) (c : Nat) (hr : Rd w A (ls.flatMap Fr.cl)) (hg : ∀ x ∈ ls, x.good) (hlc : ls.length ≤ c) (hcc : c ≤ maxLen) :
    Calls Try.prog 8 #[.bool mk, .slice A ls.length c] w fun e w' => e = .returned (.bool true) ∧ Touch NoS w w' := by
  have HR : Hid (Rd w A (frs ls)) := hr
  have HG := Lib.hid hg
  obtain ⟨n, hn⟩ : ∃ n, n = ls.length := ⟨_, rfl⟩
  rw [← hn] at hlc ⊢
  have HN := Lib.hid hn.symm
  have hnm : n ≤ maxLen := by omega
  unfold maxLen at hnm
  have hwf : (Lit.int .i64 65536).wf = true := wf_i64 (by omega) (by omega)
  have HM := Lib.hid hwf
  clear hr hg hn hcc hwf
  go_enter Try.func8, Try.ntmps8
  go_wp2_with fail
  refine (st_new mk 65536 (by omega) (by omega) _).mono ?_
  rintro e w1 ⟨rfl, hs, ht⟩
  have HS1 := Lib.hid hs
  have HT1 := Lib.hid ht
  clear hs ht
  go_wp2_with fail
  refine (aw10 _).mono ?_
  rintro e w2 ⟨rfl, ht⟩
  have HS2 := Lib.hid (HS1.out.no ht)
  have HT2 := Lib.hid (HT1.out.trans ht)
  clear ht HS1 HT1
  by_cases h20 : 20 < n
  · go_wp2_with fail
    refine (aw10 _).mono ?_
    rintro e w3 ⟨rfl, ht⟩
    have HT3 := Lib.hid (HT2.out.trans ht)
    clear ht
    go_wp2
    go_ret
    exact ⟨rfl, HT3.out⟩
  have h20' : n ≤ 20 := by omega
  clear h20
  go_wp2_with fail
  go_loopw [7] (fun iv wr => ∃ k : Nat, k ≤ n ∧ iv = .int .i64 k ∧ IsSt wr w.heap.size w.heap.size mk 65536 [] 0 ∧ Touch NoS w wr) (fun iv _ => n - (intOf iv).toNat)
  case atStart => exact ⟨0, by omega, rfl, HS2.out, HT2.out⟩
  case round =>
    obtain ⟨k, hk, rfl, hs, ht⟩ := hrel
    have HS := Lib.hid hs
    have HT := Lib.hid ht
    by_cases hlt : k < n
    · have hk1 : k < ls.length := by rw [HN.out]; exact hlt
      obtain ⟨g, off, rfl, hg, a0, a1, a2, a3, a4, a5, a6, a7⟩ := fr_cells HR.out k hk1
      have hgd := HG.out ls[k] (List.getElem_mem hk1)
      obtain ⟨f, hf⟩ : ∃ f, f = ls[k] := ⟨_, rfl⟩
      rw [← hf] at a0 a1 a2 a3 a4 a5 a6 a7 hgd
      have hdm : f.data.size ≤ 9223372036854775807 := hgd.2.2
      have HGD := Lib.hid hgd
      have HFM := Lib.hid (fun W => r9_form f hgd.2.2 W)
      have HTX := Lib.hid (fun h1 h2 W => r9_text f hgd h1 h2 W)
      obtain ⟨b, hb⟩ : ∃ b, b = form9 f := ⟨_, rfl⟩
      rw [← hb] at HFM
      have HB := Lib.hid hb
      obtain ⟨L, hL⟩ : ∃ L, L = fput f := ⟨_, rfl⟩
      have HL := Lib.hid hL
      obtain ⟨D, hD⟩ : ∃ D, D = Go.strOfNums L := ⟨_, rfl⟩
      have HD := Lib.hid hD
      rw [← hL, ← hD] at HTX
      have HSCN : Hid (b = true → f.masked = mk → f.data.size ≤ 500 → scan mk 65536 ([] ++ L) = ([f], [], 0) ∧ bytesIn L ∧ D.size = L.length ∧ sb D = L ∧ L.length ≤ 514) := fun h1 h2 h3 => by
        have hform : form9 f = true := by rw [← hb]; exact h1
        have hlen : L.length ≤ 514 := by rw [hL, fput_length]; have := size9_le f; omega
        have hin : bytesIn L := by rw [hL]; exact fput_bytes hgd hform
        refine ⟨by rw [hL]; exact scan_one mk 65536 f hgd hform h2 (by omega) (by rw [← hL]; unfold maxLen; omega), hin, by rw [hD, numsB_size], by rw [hD, sb_nums L hin], hlen⟩
      have HBF : Hid (b = true → form9 f = true) := fun h => by rw [← hb]; exact h
      obtain ⟨fin, op, masked, k0, k1, k2, k3, d⟩ := f
      simp only [Fr.cs] at *
      have HA0 := Lib.hid a0
      have HA1 := Lib.hid a1
      have HA2 := Lib.hid a2
      have HA3 := Lib.hid a3
      have HA4 := Lib.hid a4
      have HA5 := Lib.hid a5
      have HA6 := Lib.hid a6
      have HA7 := Lib.hid a7
      have HGL := Lib.hid hg
      clear hs ht hf hgd hb hL hD hk1 a0 a1 a2 a3 a4 a5 a6 a7 hg HS2 HT2
      have a0 := HT.out.cell HA0.out
      have a1 := HT.out.cell HA1.out
      have a2 := HT.out.cell HA2.out
      have a3 := HT.out.cell HA3.out
      have a4 := HT.out.cell HA4.out
      have a5 := HT.out.cell HA5.out
      have a6 := HT.out.cell HA6.out
      have a7 := HT.out.cell HA7.out
      have hg := Nat.lt_of_lt_of_le HGL.out HT.out.size
      go_wp2_with fail
      refine (HFM.out _).mono ?_
      rintro e w4 ⟨rfl, ht⟩
      have HS4 := Lib.hid (HS.out.no ht)
      have HT4 := Lib.hid (HT.out.trans ht)
      clear ht HS HT a0 a1 a2 a3 a4 a5 a6 a7 hg
      have a0 := HT4.out.cell HA0.out
      have a1 := HT4.out.cell HA1.out
      have a2 := HT4.out.cell HA2.out
      have a3 := HT4.out.cell HA3.out
      have a4 := HT4.out.cell HA4.out
      have a5 := HT4.out.cell HA5.out
      have a6 := HT4.out.cell HA6.out
      have a7 := HT4.out.cell HA7.out
      have hg := Nat.lt_of_lt_of_le HGL.out HT4.out.size
      cases b with
      | false =>
        go_wp2
        go_ret
        exact ⟨rfl, HT4.out⟩
      | true =>
        by_cases h5 : 500 < d.size
        · go_wp2
          go_ret
          exact ⟨rfl, HT4.out⟩
        have h5' : d.size ≤ 500 := by omega
        clear h5
        by_cases hmk : masked = mk
        · subst hmk
          obtain ⟨hsc, hLin, hDz, hsD, hLl⟩ := HSCN.out rfl rfl h5'
          have HSC := Lib.hid hsc
          have HLI := Lib.hid hLin
          have HDZ := Lib.hid hDz
          have HSD := Lib.hid hsD
          have hDl : D.size ≤ 514 := by omega
          clear hsc hLin hDz hsD hLl HSCN
          go_wp2_with fail
          refine (HTX.out (HBF.out (by first | trivial | rfl)) (by omega) _).mono ?_
          rintro e w5 ⟨rfl, ht⟩
          have HS5 := Lib.hid (HS4.out.no ht)
          have HT5 := Lib.hid (HT4.out.trans ht)
          clear ht HS4 HT4 a0 a1 a2 a3 a4 a5 a6 a7 hg
          obtain ⟨w6, cp, hconv, ht, hrd, hcp, hcm, h23⟩ := conv_ex w5 D (by unfold maxLen; omega)
          rw [HSD.out] at hrd
          have HRD := Lib.hid hrd
          have HS6 := Lib.hid (HS5.out.no ht)
          have HT6 := Lib.hid (HT5.out.trans ht)
          have hsz6 : w.heap.size ≤ w6.heap.size := HT6.out.size
          clear hrd hcp hcm h23 ht HS5 HT5
          go_wp2_with fail
          refine (st_feed HS6.out HM.out hsz6 L _ D.size cp HDZ.out.symm HRD.out (by rw [List.nil_append]; exact HLI.out) (by simp; omega) _ _ _ HSC.out).mono ?_
          rintro e w7 ⟨A7, c7, rfl, ho7, hs7, ht7⟩
          have HO7 := Lib.hid ho7
          have HS7 := Lib.hid hs7
          have HT7 := Lib.hid (SF_old HT6.out ht7 (Nat.le_refl _) (Nat.le_refl _))
          clear ho7 hs7 ht7 HS6 HT6 HRD hconv
          have a0 := HT7.out.cell HA0.out
          have a1 := HT7.out.cell HA1.out
          have a2 := HT7.out.cell HA2.out
          have a3 := HT7.out.cell HA3.out
          have a4 := HT7.out.cell HA4.out
          have a5 := HT7.out.cell HA5.out
          have a6 := HT7.out.cell HA6.out
          have a7 := HT7.out.cell HA7.out
          have hg := Nat.lt_of_lt_of_le HGL.out HT7.out.size
          go_wp2_with fail
          refine (st_part HS7.out 0 rfl).mono ?_
          rintro e w7' ⟨rfl, rfl⟩
          go_wp2_with fail
          obtain ⟨A8, c8, hv8, _, _, hrd8, _, _⟩ := own_cases (own_no HO7.out ((Touch.refl _ _).alloc (.cells (Fr.cl ⟨fin, op, masked, k0, k1, k2, k3, d⟩).toArray 43)))
          injection hv8 with e8 _ e9
          subst e8 e9
          refine (r10_same _ (some ⟨w7.heap.size, 0, none⟩) [⟨fin, op, masked, k0, k1, k2, k3, d⟩] [⟨fin, op, masked, k0, k1, k2, k3, d⟩] 1 1 _ 1 rfl rfl _ hrd8 (Rd.new w7 (Fr.cl ⟨fin, op, masked, k0, k1, k2, k3, d⟩) 43 (0, 0)) (by omega) (by omega)).mono ?_
          rintro e w8 ⟨rfl, ht8⟩
          rw [show decide (([⟨fin, op, masked, k0, k1, k2, k3, d⟩] : List Fr) = [⟨fin, op, masked, k0, k1, k2, k3, d⟩]) = true from decide_eq_true rfl]
          have HS8 := Lib.hid ((HS7.out.no ((Touch.refl _ _).alloc (.cells (Fr.cl ⟨fin, op, masked, k0, k1, k2, k3, d⟩).toArray 43))).no ht8)
          have HT8 := Lib.hid ((HT7.out.alloc (.cells (Fr.cl ⟨fin, op, masked, k0, k1, k2, k3, d⟩).toArray 43)).trans ht8)
          clear ht8 hrd8 HS7 HT7 HO7
          go_wp2_with fail
          go_roundw
          · exact ⟨k + 1, by omega, by go_num, HS8.out, HT8.out⟩
          · simp [intOf]; omega
        · have hq : (!(masked == mk)) = true := by cases masked <;> cases mk <;> first | rfl | exact absurd rfl hmk
          go_wp2
          go_ret
          exact ⟨rfl, HT4.out⟩
    · have hkn : k = n := by omega
      subst hkn
      have hsz : w.heap.size ≤ wr.heap.size := ht.size
      clear hs ht HS2 HT2
      go_wp2_with fail
      refine (st_feed (HS.out.no ((Touch.refl _ _).alloc _)) HM.out (by simp; omega) [130] (some ⟨wr.heap.size, 0, none⟩) 1 1 rfl (Rd.new wr (u8s [130]) 5 (0, 0)) (in_lit _ rfl) (by simp) _ _ _ (scan_130 mk)).mono ?_
      rintro e w4 ⟨A4, c4, rfl, _, hs4, ht4⟩
      have HS4 := Lib.hid hs4
      have HT4 := Lib.hid (SF_old (HT.out.alloc _) ht4 (Nat.le_refl _) (Nat.le_refl _))
      clear hs4 ht4 HS HT
      go_wp2_with fail
      refine (st_part HS4.out 1 rfl).mono ?_
      rintro e w4' ⟨rfl, rfl⟩
      go_wp2_with fail
      refine (st_err HS4.out).mono ?_
      rintro e w4' ⟨rfl, rfl⟩
      go_wp2
      go_ret
      exact ⟨rfl, HT4.out⟩
end Go.Proofs.Ytfafpcmdgjmlhaa
