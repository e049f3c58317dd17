/- law10: StreamCuts: the walk. -/
import Derived.Test.YtfafpcmdgjmlhaaTj
namespace Go.Proofs.Ytfafpcmdgjmlhaa
open Go.RowKit
set_option linter.unusedSimpArgs false
set_option linter.unusedVariables false

/-- The cells of strings. -/
def strs (l : List ByteArray) : List Value := l.flatMap fun x => [.string x]
theorem strs_length (l : List ByteArray) : (strs l).length = l.length := by
  induction l with
  | nil => rfl
  | cons e l ih =>
    show ([Value.string e] ++ strs l).length = l.length + 1
    rw [List.length_append, ih]
    simp
    omega
theorem strs_append (a b : List ByteArray) : strs (a ++ b) = strs a ++ strs b := by simp [strs]
theorem strs_one (l : List ByteArray) : ∀ u ∈ strs l, u.oneCell' = true := by
  intro u hu
  simp only [strs, List.mem_flatMap] at hu
  obtain ⟨e, _, he⟩ := hu
  simp at he
  rw [he]
  rfl
theorem info_str : (Try.prog.info? 9).map (fun i => (i.zero, i.size, i.bytes)) = some (some (.string ⟨#[]⟩), 1, 16) := by kernel_rfl

set_option maxHeartbeats 6400000 in
set_option maxRecDepth 100000 in
theorem cuts10_row (w : World) (mk : Bool) (A : Option Addr) (la : List ByteArray) (c : Nat) (hr : Rd w A (la.flatMap fun x => [.string x])) (hg : ∀ x ∈ la, x.size ≤ maxLen) (hlc : la.length ≤ c) (hcc : c ≤ maxLen)
    (B : Option Addr) (lb : List ByteArray) (c' : Nat) (hr' : Rd w B (lb.flatMap fun x => [.string x])) (hg' : ∀ x ∈ lb, x.size ≤ maxLen) (hlc' : lb.length ≤ c') (hcc' : c' ≤ maxLen) :
    Calls Try.prog 4 #[.bool mk, .slice A la.length c, .slice B lb.length c'] w fun e w' => e = .returned (.bool true) ∧ Touch NoS w w' := by
  have HR := Lib.hid hr
  have HG := Lib.hid hg
  have HR' := Lib.hid hr'
  have HG' := Lib.hid hg'
  obtain ⟨na, hn⟩ : ∃ n, n = la.length := ⟨_, rfl⟩
  obtain ⟨nb, hn'⟩ : ∃ n, n = lb.length := ⟨_, rfl⟩
  rw [← hn] at hlc ⊢
  rw [← hn'] at hlc' ⊢
  have HN := Lib.hid hn.symm
  have HN' := Lib.hid hn'.symm
  have hnm : na ≤ maxLen := by omega
  have hnm' : nb ≤ maxLen := by omega
  have HNM := Lib.hid hnm
  have HNM' := Lib.hid hnm'
  have hwf : (Lit.int .i64 1000).wf = true := wf_i64 (by omega) (by omega)
  have HM := Lib.hid hwf
  clear hr hg hn hcc hnm hr' hg' hn' hcc' hnm' hwf
  go_enter Try.func4, Try.ntmps4
  go_wp2_with fail
  refine (st_new mk 1000 (by omega) (by omega) _).mono ?_
  rintro e w1 ⟨rfl, hs, ht⟩
  have HS1 := Lib.hid hs
  have HT1 := Lib.hid ht
  have hg1 := hs.lt
  clear hs ht
  go_wp2_with fail
  refine (s_new mk 1000 _).mono ?_
  rintro e w2 ⟨_, h⟩
  obtain ⟨rfl, hb, ht⟩ := h (by omega) (by omega)
  have HS2 := Lib.hid (HS1.out.no ht)
  have HP2 := Lib.hid hb
  have HT2 := Lib.hid (HT1.out.trans ht)
  clear hb ht HS1 HT1 h
  obtain ⟨g2, hg2⟩ : ∃ g2, g2 = w1.heap.size := ⟨_, rfl⟩
  rw [← hg2] at HP2 hg1 ⊢
  clear hg2
  go_wp2_with fail
  refine (aw10 _).mono ?_
  rintro e w3 ⟨rfl, ht⟩
  have HS3 := Lib.hid (HS2.out.no ht)
  have HP3 := Lib.hid (HP2.out.touch ht (fun h => h))
  have HT3 := Lib.hid (HT2.out.trans ht)
  clear ht HS2 HT2 HP2
  go_wp2_with fail
  refine (r10_few A la na c HN.out w3 (HR.out.touch_no HT3.out) HNM.out HG.out).mono ?_
  rintro e w3' ⟨rfl, rfl⟩
  obtain ⟨fw, hfw⟩ : ∃ fw, fw = few la := ⟨_, rfl⟩
  rw [← hfw]
  have HFW := Lib.hid hfw
  clear hfw
  cases fw with
  | false =>
    go_wp2_with fail
    refine (aw10 _).mono ?_
    rintro e w4 ⟨rfl, ht⟩
    have HT4 := Lib.hid (HT3.out.trans ht)
    clear ht
    go_wp2
    go_ret
    exact ⟨rfl, HT4.out⟩
  | true =>
  go_wp2_with fail
  refine (r10_few B lb nb c' HN'.out w3 (HR'.out.touch_no HT3.out) HNM'.out HG'.out).mono ?_
  rintro e w3' ⟨rfl, rfl⟩
  obtain ⟨fw, hfw⟩ : ∃ fw, fw = few lb := ⟨_, rfl⟩
  rw [← hfw]
  have HFW' := Lib.hid hfw
  clear hfw
  cases fw with
  | false =>
    go_wp2_with fail
    refine (aw10 _).mono ?_
    rintro e w4 ⟨rfl, ht⟩
    have HT4 := Lib.hid (HT3.out.trans ht)
    clear ht
    go_wp2
    go_ret
    exact ⟨rfl, HT4.out⟩
  | true =>
  have hfew := of_decide_eq_true HFW.out.symm
  obtain ⟨h300, h40⟩ := hfew
  rw [HN.out] at h40
  have hfew' := of_decide_eq_true HFW'.out.symm
  obtain ⟨h300', h40'⟩ := hfew'
  rw [HN'.out] at h40'
  have h300L : ∀ s ∈ la ++ lb, s.size ≤ 300 := fun s hs => by
    rcases List.mem_append.1 hs with h | h
    · exact h300 s h
    · exact h300' s h
  have H300 := Lib.hid h300L
  have hws : w.heap.size ≤ w3.heap.size := HT3.out.size
  clear h300 h300' h300L
  obtain ⟨i, hi, hz0, hz1, hz2⟩ := info_parts info_fr
  obtain ⟨j, hj, hy0, hy1, hy2⟩ := info_parts info_str
  have HO0 : Hid (((w3.alloc (.cells #[] 43)).alloc (.cells #[] 9)).ownsRow w.heap.size 9 1 (.slice (some ⟨w3.heap.size + 1, 0, none⟩) 0 0) 0 []) := by
    refine ⟨rfl, .inr ⟨w3.heap.size + 1, 0, #[], rfl, by omega, ?_, Nat.le_refl _, by simp [maxLen], rfl, rfl⟩⟩
    have h := Blk.new (w3.alloc (.cells #[] 43)) 9 #[]
    rw [show (w3.alloc (.cells #[] 43)).heap.size = w3.heap.size + 1 from by simp] at h
    exact h
  have HTA : Hid (Touch NoS w ((w3.alloc (.cells #[] 43)).alloc (.cells #[] 9))) := (HT3.out.alloc _).alloc _
  have HF0 : Hid (((w3.alloc (.cells #[] 43)).alloc (.cells #[] 9)).ownsRow w.heap.size 43 8 (.slice (some ⟨w3.heap.size, 0, none⟩) 0 0) 0 (frs [])) := ⟨rfl, .inr ⟨w3.heap.size, 0, #[], rfl, hws, (Blk.new _ _ _).alloc _, Nat.le_refl _, by simp [maxLen], rfl, rfl⟩⟩
  have HSA : Hid (IsSt ((w3.alloc (.cells #[] 43)).alloc (.cells #[] 9)) w.heap.size w.heap.size mk 1000 [] 0) := HS3.out.no (((Touch.refl _ _).alloc _).alloc _)
  have HPA : Hid (Blk ((w3.alloc (.cells #[] 43)).alloc (.cells #[] 9)) g2 76 (stCells mk 1000 (.slice none 0 0) 0)) := (HP3.out.alloc _).alloc _
  have hwa : w.heap.size ≤ ((w3.alloc (.cells #[] 43)).alloc (.cells #[] 9)).heap.size := HTA.out.size
  have HWA := Lib.hid hwa
  clear hwa HS3 HP3
  go_wp2_with (at_builtin; refine wpList_app_row _ rfl (.tmp 59) (.tmp 60) 22 rfl w.heap.size 9 j _ 1 16 Try.underlying22 hj hy0 hy1 hy2 rfl (by decide) _ 0 [] rfl HO0.out A na c (strs la) rfl (by rw [strs_length, HN.out, Nat.mul_one]) (HR.out.touch_no HTA.out) (strs_one la) (by unfold maxLen; omega) (by omega) HWA.out ?_)
  intro v4 w4 ho4 hgr _
  try simp only [Nat.zero_add, List.nil_append] at ho4
  have HF4 := Lib.hid (own_apart HF0.out HO0.out (by decide) hgr)
  have HS4 := Lib.hid (HSA.out.grown HO0.out (by decide) (by decide) hgr)
  have HP4 := Lib.hid (HPA.out.grown hgr (own_ne HO0.out HPA.out (by decide)))
  have HT4 := Lib.hid (HTA.out.grown hgr (fun q hq hl => absurd (own_base HO0.out hq) (by omega)))
  have HO4 := Lib.hid ho4
  have hw4 : w.heap.size ≤ w4.heap.size := HT4.out.size
  clear ho4 hgr HO0 HTA HF0 HSA HPA HWA
  go_wp2_with (at_builtin; refine wpList_app_row _ rfl (.tmp 61) (.tmp 62) 22 rfl w.heap.size 9 j _ 1 16 Try.underlying22 hj hy0 hy1 hy2 rfl (by decide) _ na (strs la) rfl HO4.out B nb c' (strs lb) rfl (by rw [strs_length, HN'.out, Nat.mul_one]) (HR'.out.touch_no HT4.out) (strs_one lb) (by unfold maxLen; omega) (by omega) hw4 ?_)
  intro v5 w5 ho5 hgr _
  rw [← strs_append] at ho5
  obtain ⟨AL, cL, rfl, hcL1, hcL2, _, _, _⟩ := own_cases ho5
  obtain ⟨n, hn⟩ : ∃ n, n = na + nb := ⟨_, rfl⟩
  have HNL : Hid ((la ++ lb).length = n) := by show (la ++ lb).length = n; rw [List.length_append, HN.out, HN'.out, hn]
  rw [← hn] at ho5 ⊢
  have HF5 := Lib.hid (own_apart HF4.out HO4.out (by decide) hgr)
  have HS5 := Lib.hid (HS4.out.grown HO4.out (by decide) (by decide) hgr)
  have HP5 := Lib.hid (HP4.out.grown hgr (own_ne HO4.out HP4.out (by decide)))
  have HT5 := Lib.hid (HT4.out.grown hgr (fun q hq hl => absurd (own_base HO4.out hq) (by omega)))
  have HL5 := Lib.hid ho5
  have hn80 : n ≤ 80 := by omega
  have hnc : n ≤ cL := by omega
  clear ho5 hgr HO4 HF4 HS4 HP4 HT4 hw4 hcL1 hcL2 hn hws HT3
  go_wp2_with fail
  go_loopw [11, 12, 14] (fun av tv iv wr => ∃ (k : Nat) (al : ByteArray) (fs : List Fr) (part : List Int) (er : Int) (At : Option Addr) (ct : Nat), k ≤ n ∧ iv = .int .i64 k ∧ av = .string al ∧ al.size ≤ 300 * k ∧ tv = .slice At fs.length ct ∧
      wr.ownsRow w.heap.size 43 8 (.slice At fs.length ct) fs.length (frs fs) ∧ IsSt wr w.heap.size w.heap.size mk 1000 part er ∧ Blk wr g2 76 (stCells mk 1000 (.slice none 0 0) 0) ∧ wr.ownsRow w.heap.size 9 1 (.slice AL n cL) n (strs (la ++ lb)) ∧ Hid (scan mk 1000 (sb al) = (fs, part, er)) ∧ Touch NoS w wr)
    (fun _ _ iv _ => n - (intOf iv).toNat)
  case atStart => exact ⟨0, ⟨#[]⟩, [], [], 0, _, _, by omega, rfl, rfl, by decide, rfl, HF5.out, HS5.out, HP5.out, HL5.out, rfl, HT5.out⟩
  case round =>
    obtain ⟨k, al, fs, part, er, At, ct, hk, rfl, rfl, hal, rfl, ho, hs, hp, hL, hsc, ht⟩ := hrel
    have HO := Lib.hid ho
    have HS := Lib.hid hs
    have HP := Lib.hid hp
    have HL := Lib.hid hL
    have HSC := Lib.hid hsc
    have HT := Lib.hid ht
    have hlz : al.size ≤ 24000 := by omega
    have hq := scan_in mk 1000 al.size (sb al) (by rw [sb_length]; exact Nat.le_refl _) (sb_in al) (by rw [sb_length]; unfold maxLen; omega)
    rw [HSC.out.out, sb_length] at hq
    simp only at hq
    obtain ⟨hp1, hp2, hp3⟩ := hq
    by_cases hlt : k < n
    · have hk1 : k < (la ++ lb).length := by rw [HNL.out]; exact hlt
      obtain ⟨AL', cL', hvL, _, _, hrdL, _, _⟩ := own_cases hL
      injection hvL with eL1 _ eL2
      subst eL1 eL2
      obtain ⟨gA, off, rfl, hgA, c0⟩ := str_at hrdL k hk1
      have h3 := H300.out (la ++ lb)[k] (List.getElem_mem hk1)
      obtain ⟨s, hsd⟩ : ∃ s, s = (la ++ lb)[k] := ⟨_, rfl⟩
      rw [← hsd] at c0 h3
      clear ho hs hp hL hsc ht hsd hrdL HF5 HS5 HP5 HL5 HT5
      obtain ⟨w4, cp, hconv, ht, hrd, hcp, hcm, h23⟩ := conv_ex wr s (by unfold maxLen; omega)
      have HRD := Lib.hid hrd
      have HO4 := Lib.hid (own_no HO.out ht)
      have HS4 := Lib.hid (HS.out.no ht)
      have HP4 := Lib.hid (HP.out.touch ht (fun h => h))
      have HL4 := Lib.hid (own_no HL.out ht)
      have HT4 := Lib.hid (HT.out.trans ht)
      have hsz4 : w.heap.size ≤ w4.heap.size := HT4.out.size
      clear hrd hcp hcm h23 ht hk1
      obtain ⟨X, hX⟩ : ∃ X, X = al ++ s := ⟨_, rfl⟩
      have HX := Lib.hid hX
      have HXZ : Hid (X.size = al.size + s.size) := by show X.size = al.size + s.size; rw [hX, ByteArray.size_append]
      by_cases her : er = 0
      · subst her
        obtain ⟨fs2, rest, e2, hsc2⟩ : ∃ fs2 rest e2, scan mk 1000 (part ++ sb s) = (fs2, rest, e2) := ⟨_, _, _, rfl⟩
        have hinp : bytesIn (part ++ sb s) := fun x hx => by
          rcases List.mem_append.1 hx with h | h
          · exact hp1 x h
          · exact sb_in s x h
        have hall : scan mk 1000 (sb X) = (fs ++ fs2, rest, e2) := by
          rw [hX, sb_append]
          exact scan_more mk 1000 (sb al) (sb s) (by rw [← sb_append]; exact sb_in _) (by rw [List.length_append, sb_length, sb_length]; unfold maxLen; omega) fs part HSC.out.out fs2 rest e2 hsc2
        have hq := scan_in mk 1000 X.size (sb X) (by rw [sb_length]; exact Nat.le_refl _) (sb_in _) (by rw [sb_length, HXZ.out]; unfold maxLen; omega)
        rw [hall, sb_length, HXZ.out] at hq
        simp only [List.length_append] at hq
        obtain ⟨_, hq2, hq3⟩ := hq
        have HALL := Lib.hid hall
        have HSC2 := Lib.hid hsc2
        have HINP := Lib.hid hinp
        clear hsc2 hp1 hinp hall hX
        go_wp2_with fail
        refine (st_feed HS4.out HM.out hsz4 (sb s) _ s.size cp (sb_length s) HRD.out HINP.out (by omega) fs2 rest e2 HSC2.out).mono ?_
        rintro e w5 ⟨A5, c5, rfl, ho5, hs5, ht5⟩
        obtain ⟨A5', c5', hv5, _, _, hrd5, _, _⟩ := own_cases ho5
        injection hv5 with e5 _ e6
        subst e5 e6
        have HRD5 := Lib.hid hrd5
        have HO5 := Lib.hid (SF_own HO4.out HS4.out ht5 (by decide) (by decide))
        have HL5 := Lib.hid (SF_own HL4.out HS4.out ht5 (by decide) (by decide))
        have HP5 := Lib.hid (SF_blk HP4.out ht5 (by decide) (by omega))
        have HS5 := Lib.hid hs5
        have HT5 := Lib.hid (SF_old HT4.out ht5 (Nat.le_refl _) (Nat.le_refl _))
        have hsz5 : w.heap.size ≤ w5.heap.size := HT5.out.size
        clear ho5 hs5 ht5 hrd5 HO4 HS4 HT4 HRD HP4 HL4
        go_wp2_with (at_builtin; refine wpList_app_row _ rfl (.tmp 86) (.tmp 87) 29 rfl w.heap.size 43 i _ 8 40 Try.underlying29 hi hz0 hz1 hz2 rfl (by decide) _ fs.length (frs fs) rfl HO5.out A5 fs2.length c5 (frs fs2) rfl (frs_length fs2) HRD5.out (frs_one fs2) (by unfold maxLen; omega) (by omega) hsz5 ?_)
        intro v6 w6 ho6 hgr _
        rw [← List.length_append, ← frs_append] at ho6
        obtain ⟨A6, c6, rfl, _, _, _, _, _⟩ := own_cases ho6
        have HO6 := Lib.hid ho6
        have HS6 := Lib.hid (HS5.out.grown HO5.out (by decide) (by decide) hgr)
        have HP6 := Lib.hid (HP5.out.grown hgr (own_ne HO5.out HP5.out (by decide)))
        have HL6 := Lib.hid (own_apart HL5.out HO5.out (by decide) hgr)
        have HT6 := Lib.hid (HT5.out.grown hgr (fun q hq hl => absurd (own_base HO5.out hq) (by omega)))
        clear ho6 hgr HO5 HS5 HT5 HP5 HL5
        go_wp2_with fail
        go_roundw
        · exact ⟨k + 1, X, fs ++ fs2, rest, e2, A6, c6, by omega, by go_num, by rw [HX.out], by rw [HXZ.out]; omega, by first | rw [List.length_append] | rw [List.append_nil], (by have h := HO6.out; first | (simp only [List.length_append] at h ⊢; exact h) | (simp only [List.append_nil] at h ⊢; exact h)), HS6.out, HP6.out, HL6.out, HALL.out, HT6.out⟩
        · simp [intOf]; omega
      · have HE := Lib.hid her
        obtain ⟨rest, hrest⟩ : ∃ rest, rest = part := ⟨_, rfl⟩
        obtain ⟨e2, he2⟩ : ∃ e2, e2 = er := ⟨_, rfl⟩
        have hall : scan mk 1000 (sb X) = (fs ++ [], part, er) := by
          rw [hX, sb_append, List.append_nil]
          have h := (scan_append mk 1000 (sb al).length (sb al) (sb s) (Nat.le_refl _) (by rw [← sb_append]; exact sb_in _) (by rw [List.length_append, sb_length, sb_length]; unfold maxLen; omega)).2 (by rw [HSC.out.out]; exact her)
          rw [h]
          exact HSC.out.out
        have HALL := Lib.hid hall
        subst hrest he2
        clear her hX hall
        go_wp2_with fail
        refine (st_feed_err HS4.out HE.out _ _ _).mono ?_
        rintro e w5 ⟨rfl, hs5, ht5⟩
        have HO5 := Lib.hid (own_no HO4.out ht5)
        have HL5 := Lib.hid (own_no HL4.out ht5)
        have HP5 := Lib.hid (HP4.out.touch ht5 (fun h => h))
        have HS5 := Lib.hid hs5
        have HT5 := Lib.hid (HT4.out.trans ht5)
        have hsz5 : w.heap.size ≤ w5.heap.size := HT5.out.size
        clear hs5 ht5 HS4 HT4 HO4 HP4 HL4
        go_wp2_with (at_builtin; refine wpList_app_row _ rfl (.tmp 86) (.tmp 87) 29 rfl w.heap.size 43 i _ 8 40 Try.underlying29 hi hz0 hz1 hz2 rfl (by decide) _ fs.length (frs fs) rfl HO5.out none 0 0 (frs []) rfl rfl (fun h => absurd rfl h) (frs_one []) (by unfold maxLen; omega) (by omega) hsz5 ?_)
        intro v6 w6 ho6 hgr _
        have ho6 : w6.ownsRow w.heap.size 43 8 v6 (fs.length + ([] : List Fr).length) (frs fs ++ frs []) := ho6
        rw [← List.length_append, ← frs_append] at ho6
        obtain ⟨A6, c6, rfl, _, _, _, _, _⟩ := own_cases ho6
        have HO6 := Lib.hid ho6
        have HS6 := Lib.hid (HS5.out.grown HO5.out (by decide) (by decide) hgr)
        have HP6 := Lib.hid (HP5.out.grown hgr (own_ne HO5.out HP5.out (by decide)))
        have HL6 := Lib.hid (own_apart HL5.out HO5.out (by decide) hgr)
        have HT6 := Lib.hid (HT5.out.grown hgr (fun q hq hl => absurd (own_base HO5.out hq) (by omega)))
        clear ho6 hgr HO5 HS5 HT5 HP5 HL5
        go_wp2_with fail
        go_roundw
        · exact ⟨k + 1, X, fs ++ [], rest, e2, A6, c6, by omega, by go_num, by rw [HX.out], by rw [HXZ.out]; omega, by first | rw [List.length_append] | rw [List.append_nil], (by have h := HO6.out; first | (simp only [List.length_append] at h ⊢; exact h) | (simp only [List.append_nil] at h ⊢; exact h)), HS6.out, HP6.out, HL6.out, HALL.out, HT6.out⟩
        · simp [intOf]; omega
    · have hkn : k = n := by omega
      subst hkn
      obtain ⟨vs, hbs, hos⟩ := hs
      obtain ⟨As, cs, rfl, _, _, _, _, _⟩ := own_cases hos
      have HBS := Lib.hid hbs
      clear ho hbs hos hp hL hsc ht HS HF5 HS5 HP5 HL5 HT5
      obtain ⟨w4, cp, hconv, ht, hrd, hcp, hcm, h23⟩ := conv_ex wr al (by unfold maxLen; omega)
      have HRD := Lib.hid hrd
      have HO4 := Lib.hid (own_no HO.out ht)
      have HBS4 := Lib.hid (HBS.out.touch ht (fun h => h))
      have HP4 : Hid (IsSt w4 w.heap.size g2 mk 1000 [] 0) := ⟨_, HP.out.touch ht (fun h => h), own_nil _ _ _ _⟩
      have HT4 := Lib.hid (HT.out.trans ht)
      have hsz4 : w.heap.size ≤ w4.heap.size := HT4.out.size
      clear hrd hcp hcm h23 ht HBS HP
      go_wp2_with fail
      refine (st_feed HP4.out HM.out hsz4 (sb al) _ al.size cp (sb_length al) HRD.out (by rw [List.nil_append]; exact sb_in al) (by simp; omega) fs part er HSC.out.out).mono ?_
      rintro e w5 ⟨A5, c5, rfl, ho5, hs5, ht5⟩
      have HO5 := Lib.hid (SF_own HO4.out HP4.out ht5 (by decide) (by decide))
      have HBS5 := Lib.hid (SF_blk HBS4.out ht5 (by decide) (by omega))
      have HT5 := Lib.hid (SF_old HT4.out ht5 (Nat.le_refl _) (by omega))
      have HP5 := Lib.hid hs5
      obtain ⟨A5', c5', hv5, _, _, hrd5, _, _⟩ := own_cases ho5
      injection hv5 with e5 _ e6
      subst e5 e6
      obtain ⟨A6', c6', hv6, _, _, hrd6, _, _⟩ := own_cases HO5.out
      injection hv6 with e7 _ e8
      subst e7 e8
      have HR5 := Lib.hid hrd5
      have HR6 := Lib.hid hrd6
      clear ho5 hs5 ht5 hrd5 hrd6 HO4 HBS4 HP4 HT4 HRD HO5
      go_wp2_with fail
      refine (r10_same _ _ fs fs _ _ _ _ rfl rfl w5 HR6.out HR5.out (by omega) (by omega)).mono ?_
      rintro e w6 ⟨rfl, ht6⟩
      rw [show decide (fs = fs) = true from decide_eq_true rfl]
      have HBS6 := Lib.hid (HBS5.out.touch ht6 (fun h => h))
      have HP6 := Lib.hid (HP5.out.no ht6)
      have HT6 := Lib.hid (HT5.out.trans ht6)
      clear ht6 HBS5 HP5 HT5 HR5 HR6
      go_wp2_with fail
      refine (s_err _ _ _ _ _ _ HBS6.out).mono ?_
      rintro e w6' ⟨rfl, rfl⟩
      go_wp2_with fail
      refine (st_part HP6.out part.length rfl).mono ?_
      rintro e w6' ⟨rfl, rfl⟩
      go_wp2_with fail
      refine (s_part _ _ _ _ _ _ _ _ HBS6.out).mono ?_
      rintro e w6' ⟨rfl, rfl⟩
      go_wp2
      go_ret
      exact ⟨rfl, HT6.out⟩
end Go.Proofs.Ytfafpcmdgjmlhaa
