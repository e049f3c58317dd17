/- law10: plain laws on what is kept; StreamPart: the walk. -/
import Derived.Test.YtfafpcmdgjmlhaaTm
namespace Go.Proofs.Ytfafpcmdgjmlhaa
open Go.RowKit
set_option linter.unusedSimpArgs false
set_option linter.unusedVariables false

theorem getSize_80 (b : List Int) (size : Nat) (lo hi : Int) (h : (getSize b size lo hi).2.2 = 80) : b.length ≤ size := by
  unfold getSize at h
  split at h
  · cases h
  split at h
  · omega
  · cases h
theorem getLen_80 (b : List Int) (h : (getLen b).2.2 = 80) : b.length ≤ 8 := by
  unfold getLen at h
  split at h
  · rename_i h0; rw [h0]; simp
  split at h
  · have := getSize_80 _ _ _ _ h; omega
  split at h
  · exact getSize_80 _ _ _ _ h
  · cases h
theorem fdata_90 (l : List Int) (fin : Bool) (op : Int) (m : Bool) (K : List Int) (n : Int) (at_ : Nat) (h : (fdata l fin op m K n at_).2.2 = 90) (ha : at_ ≤ l.length) : (l.length : Int) < at_ + n := by
  unfold fdata at h
  split at h
  · rename_i h0; omega
  · cases h
theorem fget_90 (l : List Int) (hb : bytesIn l) (most : Int) (hm : 0 ≤ most) (h : (fget l most).2.2 = 90) : (l.length : Int) ≤ most + 13 := by
  unfold fget at h
  split at h
  · rename_i h0; rw [h0]; simp; omega
  split at h
  · cases h
  unfold flen at h
  simp only at h
  have hd : (l.drop 1).length = l.length - 1 := by simp
  rcases getLen_cases (hb.drop 1) with hG | hG | ⟨n, k, hG, h1, h2, h3, h4, h5⟩
  · have := getLen_80 (l.drop 1) (by rw [hG])
    omega
  · rw [hG] at h
    simp at h
  · rw [hG] at h
    simp only at h
    rw [if_neg (by omega), if_neg (by simp)] at h
    split at h
    · cases h
    rename_i hmo
    unfold fmask at h
    split at h
    · split at h
      · omega
      · have := fdata_90 _ _ _ _ _ _ _ h (by omega)
        omega
    · have := fdata_90 _ _ _ _ _ _ _ h (by omega)
      omega
theorem slook_90 {mk : Bool} {most : Int} {l : List Int} (h : (slook mk most l).2.2 = 90) : (fget l most).2.2 = 90 := by
  unfold slook at h
  split at h
  · cases h
  split at h
  · cases h
  exact h
/-- How many bytes frames have. -/
def slen (l : List Fr) : Nat := (l.map fun f => (fput f).length).sum
theorem slen_take (l : List Fr) (j : Nat) (h : j < l.length) : slen (l.take (j + 1)) = slen (l.take j) + (fput l[j]).length := by
  have e : l.take (j + 1) = l.take j ++ [l[j]] := by simp
  rw [e]
  unfold slen
  rw [List.map_append, List.sum_append]
  simp only [List.map_cons, List.map_nil, List.sum_cons, List.sum_nil, Nat.add_zero]
theorem slen_le (l : List Fr) (j : Nat) : slen (l.take j) ≤ slen l := by
  have h : slen l = slen (l.take j) + slen (l.drop j) := by
    unfold slen
    rw [← List.sum_append, ← List.map_append, List.take_append_drop]
  omega
theorem scan_facts (mk : Bool) (most : Int) (hm : 0 ≤ most) : ∀ (n : Nat) (l : List Int), l.length ≤ n → bytesIn l → l.length ≤ maxLen →
    (∀ f ∈ (scan mk most l).1, f.good ∧ form9 f = true ∧ (f.data.size : Int) ≤ most) ∧
    ((scan mk most l).2.2 = 0 → slen (scan mk most l).1 + (scan mk most l).2.1.length = l.length ∧ ((scan mk most l).2.1.length : Int) ≤ most + 13) ∧
    ((scan mk most l).2.2 ≠ 0 → (scan mk most l).2.1 = []) ∧ slen (scan mk most l).1 ≤ l.length := by
  intro n
  induction n with
  | zero =>
    intro l hl hb _
    obtain rfl : l = [] := List.eq_nil_of_length_eq_zero (by omega)
    exact ⟨fun f hf => (by cases hf), fun _ => ⟨rfl, by show (0 : Int) ≤ most + 13; omega⟩, fun h => absurd rfl h, Nat.le_refl _⟩
  | succ n ih =>
    intro l hl hb hmx
    rw [scan_eq mk most l hb hmx]
    by_cases h : (slook mk most l).2.2 = 0
    · rw [if_pos h]
      have h2 := slook_two hb hmx h
      have hg := (slook_ok h).1
      obtain ⟨f, k, e, hS⟩ : ∃ f k e, slook mk most l = (f, k, e) := ⟨_, _, _, rfl⟩
      rw [hS] at h h2 hg ⊢
      simp only at h h2 hg ⊢
      subst h
      obtain ⟨g1, g2, g3, g4, g5⟩ := fget_ok hb hmx hg.symm
      have hlen : (fput f).length = k := by rw [g5, List.length_take]; omega
      obtain ⟨i1, i2, i3, i4⟩ := ih (l.drop k) (by rw [List.length_drop]; omega) (hb.drop _) (by rw [List.length_drop]; omega)
      rw [List.length_drop] at i2 i4
      have hsl : ∀ t, slen (f :: t) = k + slen t := fun t => by simp [slen, hlen]
      refine ⟨fun x hx => ?_, fun h0 => ?_, i3, by rw [hsl]; omega⟩
      · rcases List.mem_cons.1 hx with rfl | hx
        · exact ⟨g1, g2, g3⟩
        · exact i1 x hx
      · obtain ⟨j1, j2⟩ := i2 h0
        exact ⟨by rw [hsl]; omega, j2⟩
    · rw [if_neg h]
      by_cases h9 : (slook mk most l).2.2 = 90
      · rw [if_pos h9]
        exact ⟨fun f hf => (by cases hf), fun _ => ⟨by simp [slen], fget_90 l hb most hm (slook_90 h9)⟩, fun h => absurd rfl h, Nat.zero_le _⟩
      · rw [if_neg h9]
        exact ⟨fun f hf => (by cases hf), fun h0 => absurd h0 h, fun _ => rfl, Nat.zero_le _⟩

set_option maxHeartbeats 6400000 in
set_option maxRecDepth 100000 in
theorem part10_row (w : World) (mk : Bool) (A : Option Addr) (ls : List ByteArray) (c : Nat) (hr : Rd w A (ls.flatMap fun x => [.string x])) (hg : ∀ x ∈ ls, x.size ≤ maxLen) (hlc : ls.length ≤ c) (hcc : c ≤ maxLen) :
    Calls Try.prog 7 #[.bool mk, .slice A ls.length c] w fun e w' => e = .returned (.bool true) ∧ Touch NoS w w' := by
  have HR := Lib.hid hr
  have HG := Lib.hid hg
  obtain ⟨n, hn⟩ : ∃ n, n = ls.length := ⟨_, rfl⟩
  rw [← hn] at hlc ⊢
  have HN := Lib.hid hn.symm
  have hnm : n ≤ maxLen := by omega
  have HNM := Lib.hid hnm
  have hwf : (Lit.int .i64 200).wf = true := wf_i64 (by omega) (by omega)
  have HM := Lib.hid hwf
  clear hr hg hn hcc hnm hwf
  go_enter Try.func7, Try.ntmps7
  go_wp2_with fail
  refine (st_new mk 200 (by omega) (by omega) _).mono ?_
  rintro e w1 ⟨rfl, hs, ht⟩
  have HS1 := Lib.hid hs
  have HT1 := Lib.hid ht
  clear hs ht
  go_wp2_with fail
  refine (aw10 _).mono ?_
  rintro e w2 ⟨rfl, ht⟩
  have HS2 := Lib.hid (HS1.out.no ht)
  have HT2 := Lib.hid (HT1.out.trans ht)
  clear ht HS1 HT1
  go_wp2_with fail
  refine (r10_few A ls n c HN.out w2 (HR.out.touch_no HT2.out) HNM.out HG.out).mono ?_
  rintro e w3 ⟨rfl, rfl⟩
  obtain ⟨fw, hfw⟩ : ∃ fw, fw = few ls := ⟨_, rfl⟩
  rw [← hfw]
  have HFW := Lib.hid hfw
  clear hfw
  cases fw with
  | false =>
    go_wp2_with fail
    refine (aw10 _).mono ?_
    rintro e w3 ⟨rfl, ht⟩
    have HT3 := Lib.hid (HT2.out.trans ht)
    clear ht
    go_wp2
    go_ret
    exact ⟨rfl, HT3.out⟩
  | true =>
    have hfew := of_decide_eq_true HFW.out.symm
    obtain ⟨h300, h40⟩ := hfew
    rw [HN.out] at h40
    have H300 := Lib.hid h300
    clear h300
    go_wp2_with fail
    go_loopw [7, 8, 9] (fun sv uv iv wr => ∃ (k a u : Nat) (part : List Int), k ≤ n ∧ iv = .int .i64 k ∧ sv = .int .i64 a ∧ uv = .int .i64 u ∧ a ≤ 300 * k ∧ u + part.length = a ∧ Hid (bytesIn part) ∧ IsSt wr w.heap.size w.heap.size mk 200 part 0 ∧ Touch NoS w wr)
      (fun _ _ iv _ => n - (intOf iv).toNat)
    case atStart => exact ⟨0, 0, 0, [], by omega, rfl, rfl, rfl, by omega, rfl, fun x hx => (by cases hx), HS2.out, HT2.out⟩
    case round =>
      obtain ⟨k, a, u, part, hk, rfl, rfl, rfl, ha, hua, hpin, hs, ht⟩ := hrel
      have HS := Lib.hid hs
      have HT := Lib.hid ht
      have HUA := Lib.hid hua
      by_cases hlt : k < n
      · have hk1 : k < ls.length := by rw [HN.out]; exact hlt
        obtain ⟨gA, off, rfl, hgA, c0⟩ := str_at (HR.out.touch_no ht) k hk1
        have h3 := H300.out ls[k] (List.getElem_mem hk1)
        obtain ⟨s, hsd⟩ : ∃ s, s = ls[k] := ⟨_, rfl⟩
        rw [← hsd] at c0 h3
        have hgA' := HR.out
        obtain ⟨g', off', he', hgw, hcw⟩ := str_at HR.out k hk1
        injection he' with he'
        injection he' with e1 e2
        subst e1 e2
        rw [← hsd] at hcw
        have HCW := Lib.hid hcw
        have HGW := Lib.hid hgw
        have hpz : part.length ≤ 12000 := by omega
        have huz : u ≤ 12000 := by omega
        have haz : a ≤ 12000 := by omega
        obtain ⟨fs, rest, e2, hsc2⟩ : ∃ fs rest e2, scan mk 200 (part ++ sb s) = (fs, rest, e2) := ⟨_, _, _, rfl⟩
        have hinp : bytesIn (part ++ sb s) := fun x hx => by
          rcases List.mem_append.1 hx with h | h
          · exact hpin.out x h
          · exact sb_in s x h
        have hq := scan_in mk 200 (part ++ sb s).length (part ++ sb s) (Nat.le_refl _) hinp (by rw [List.length_append, sb_length]; unfold maxLen; omega)
        have hf := scan_facts mk 200 (by omega) (part ++ sb s).length (part ++ sb s) (Nat.le_refl _) hinp (by rw [List.length_append, sb_length]; unfold maxLen; omega)
        rw [hsc2, List.length_append, sb_length] at hq hf
        simp only at hq hf
        obtain ⟨hq1, hq2, hq3⟩ := hq
        obtain ⟨hf1, hf2, hf3, hf4⟩ := hf
        have HSC2 := Lib.hid hsc2
        have HINP := Lib.hid hinp
        have HQ1 := Lib.hid hq1
        have HF1 := Lib.hid hf1
        have HF2 := Lib.hid hf2
        have HF3 := Lib.hid hf3
        clear hs ht hsd hgA' hcw hgw hinp hsc2 hq1 hf1 hf2 hf3 HS2 HT2 hua
        obtain ⟨w4, cp, hconv, ht, hrd, hcp, hcm, h23⟩ := conv_ex wr s (by unfold maxLen; omega)
        have HRD := Lib.hid hrd
        have HS4 := Lib.hid (HS.out.no ht)
        have HT4 := Lib.hid (HT.out.trans ht)
        have hsz4 : w.heap.size ≤ w4.heap.size := HT4.out.size
        clear hrd hcp hcm h23 ht hk1
        go_wp2_with fail
        refine (st_feed HS4.out HM.out hsz4 (sb s) _ s.size cp (sb_length s) HRD.out HINP.out (by omega) fs rest e2 HSC2.out).mono ?_
        rintro e w5 ⟨A5, c5, rfl, ho5, hs5, ht5⟩
        obtain ⟨A5', c5', hv5, hfc, _, hrd5, _, _⟩ := own_cases ho5
        injection hv5 with e5 _ e6
        subst e5 e6
        have HRD5 := Lib.hid hrd5
        have HS5 := Lib.hid hs5
        have HT5 := Lib.hid (SF_old HT4.out ht5 (Nat.le_refl _) (Nat.le_refl _))
        have c0 := HT5.out.cell HCW.out
        have hgA := Nat.lt_of_lt_of_le HGW.out HT5.out.size
        clear ho5 hs5 ht5 hrd5 HS4 HT4 HRD
        obtain ⟨m, hm⟩ : ∃ m, m = fs.length := ⟨_, rfl⟩
        have HMM := Lib.hid hm.symm
        rw [← hm] at hfc hq3 ⊢
        clear hm
        go_wp2_with fail
        go_loopw [8, 12] (fun uv kv wx => ∃ j : Nat, j ≤ m ∧ kv = .int .i64 j ∧ uv = .int .i64 (u + slen (fs.take j) : Nat) ∧ Touch NoS w5 wx) (fun _ kv _ => m - (intOf kv).toNat)
        case atStart => exact ⟨0, by omega, rfl, rfl, Touch.refl _ _⟩
        case round =>
          obtain ⟨j, hj, rfl, rfl, hx⟩ := hrel
          have HX := Lib.hid hx
          by_cases hjm : j < m
          · have hj1 : j < fs.length := by rw [HMM.out]; exact hjm
            obtain ⟨g5, o5, rfl, hg5, a0, a1, a2, a3, a4, a5, a6, a7⟩ := fr_cells (HRD5.out.touch_no hx) j hj1
            obtain ⟨hgd, hform, hdz⟩ := HF1.out fs[j] (List.getElem_mem hj1)
            have hst := slen_take fs j hj1
            obtain ⟨f, hf⟩ : ∃ f, f = fs[j] := ⟨_, rfl⟩
            rw [← hf] at a0 a1 a2 a3 a4 a5 a6 a7 hgd hform hdz hst
            have HTX := Lib.hid (fun W => r9_text f hgd hform (by omega) W)
            obtain ⟨D, hD⟩ : ∃ D, D = Go.strOfNums (fput f) := ⟨_, rfl⟩
            have hDz : D.size = (fput f).length := by rw [hD, numsB_size]
            rw [← hD] at HTX
            rw [← hDz] at hst
            have hDm : D.size ≤ 214 := by rw [hDz, fput_length]; have := size9_le f; omega
            have HST := Lib.hid hst
            have hsl := slen_le fs j
            obtain ⟨fin, op, masked, k0, k1, k2, k3, d⟩ := f
            simp only [Fr.cs] at *
            clear hx hgd hform hdz hst hf hD hDz hj1
            go_wp2_with fail
            refine (HTX.out _).mono ?_
            rintro e wy ⟨rfl, hy⟩
            have HY := Lib.hid (HX.out.trans hy)
            clear hy HX
            go_wp2_with fail
            go_roundw
            · exact ⟨j + 1, by omega, by go_num, by rw [HST.out]; go_num, HY.out⟩
            · simp [intOf]; omega
          · have hjm' : j = m := by omega
            subst hjm'
            have htk : fs.take j = fs := List.take_of_length_le (by rw [HMM.out]; exact Nat.le_refl _)
            rw [htk]
            obtain ⟨U, hU⟩ : ∃ U, U = u + slen fs := ⟨_, rfl⟩
            rw [← hU]
            have HSX := Lib.hid (HS5.out.no hx)
            have HTX := Lib.hid (HT5.out.trans hx)
            have hUz : U ≤ 24300 := by omega
            by_cases he2 : e2 = 0
            · obtain ⟨hs1, hs2⟩ := HF2.out he2
              subst he2
              have hr213 : rest.length ≤ 213 := by omega
              have hUa : U + rest.length = a + s.size := by have := HUA.out; omega
              have hUi : (U : Int) + rest.length = a + s.size := by omega
              have HUN := Lib.hid hUa
              clear hx htk hU hs1 hs2 hUa HS5 HT5
              go_wp2_with fail
              refine (st_part HSX.out rest.length rfl).mono ?_
              rintro e wy ⟨rfl, rfl⟩
              go_wp2_with fail
              refine (st_part HSX.out rest.length rfl).mono ?_
              rintro e wy ⟨rfl, rfl⟩
              go_wp2_with fail
              go_roundw
              · exact ⟨k + 1, a + s.size, U, rest, by omega, by go_num, by go_num, rfl, by omega, HUN.out, HQ1.out, HSX.out, HTX.out⟩
              · simp [intOf]; omega
            · have hre := HF3.out he2
              have hq : (e2 != 0) = true := by rw [bne_iff_ne]; exact he2
              subst hre
              clear hx htk hU HS5 HT5
              go_wp2_with fail
              refine (st_part HSX.out 0 rfl).mono ?_
              rintro e wy ⟨rfl, rfl⟩
              go_wp2
              go_ret
              exact ⟨rfl, HTX.out⟩
      · have hkn : k = n := by omega
        subst hkn
        clear hs ht HS2 HT2
        go_wp2
        go_ret
        exact ⟨rfl, HT.out⟩
end Go.Proofs.Ytfafpcmdgjmlhaa
