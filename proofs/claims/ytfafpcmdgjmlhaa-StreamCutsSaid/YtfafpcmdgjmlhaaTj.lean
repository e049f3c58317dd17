/- law10: StreamFeeds: the walk. -/
import Derived.Test.YtfafpcmdgjmlhaaTi
namespace Go.Proofs.Ytfafpcmdgjmlhaa
open Go.RowKit
set_option linter.unusedSimpArgs false
set_option linter.unusedVariables false

theorem scan_more (mk : Bool) (most : Int) (a b : List Int) (hb : bytesIn (a ++ b)) (hl : (a ++ b).length ≤ maxLen) (fs : List Fr) (part : List Int) (h : scan mk most a = (fs, part, 0)) (fs2 : List Fr) (rest : List Int) (e2 : Int) (h2 : scan mk most (part ++ b) = (fs2, rest, e2)) :
    scan mk most (a ++ b) = (fs ++ fs2, rest, e2) := by
  have := (scan_append mk most a.length a b (Nat.le_refl _) hb hl).1 (by rw [h])
  rw [h] at this
  simp only at this
  rw [this, h2]

set_option maxHeartbeats 6400000 in
set_option maxRecDepth 100000 in
theorem feeds10_row (w : World) (mk : Bool) (most : Int) (hm : (Lit.int .i64 most).wf = true) (A : Option Addr) (ls : List ByteArray) (c : Nat) (hr : Rd w A (ls.flatMap fun x => [.string x])) (hg : ∀ x ∈ ls, x.size ≤ maxLen) (hlc : ls.length ≤ c) (hcc : c ≤ maxLen) :
    Calls Try.prog 3 #[.bool mk, .int .i64 most, .slice A ls.length c] w fun e w' => e = .returned (.bool true) ∧ Touch NoS w w' := by
  have HM := Lib.hid hm
  have HR := Lib.hid hr
  have HG := Lib.hid hg
  obtain ⟨n, hn⟩ : ∃ n, n = ls.length := ⟨_, rfl⟩
  rw [← hn] at hlc ⊢
  have HN := Lib.hid hn.symm
  have hnm : n ≤ maxLen := by omega
  have HNM := Lib.hid hnm
  clear hm hr hg hn hcc hnm
  by_cases hin : 125 ≤ most ∧ most ≤ 65536
  · obtain ⟨hin1, hin2⟩ := hin
    go_enter Try.func3, Try.ntmps3
    go_wp2_with fail
    refine (st_new mk most hin1 hin2 _).mono ?_
    rintro e w1 ⟨rfl, hs, ht⟩
    have HS1 := Lib.hid hs
    have HT1 := Lib.hid ht
    clear hs ht
    go_wp2_with fail
    refine (aw10 _).mono ?_
    rintro e w2 ⟨rfl, ht⟩
    have HS2 := Lib.hid (HS1.out.no ht)
    have HT2 := Lib.hid (HT1.out.trans ht)
    clear ht HS1 HT1
    go_wp2_with fail
    refine (r10_few A ls n c HN.out w2 (HR.out.touch_no HT2.out) HNM.out HG.out).mono ?_
    rintro e w3 ⟨rfl, rfl⟩
    obtain ⟨fw, hfw⟩ : ∃ fw, fw = few ls := ⟨_, rfl⟩
    rw [← hfw]
    have HFW := Lib.hid hfw
    clear hfw
    cases fw with
    | false =>
      go_wp2_with fail
      refine (aw10 _).mono ?_
      rintro e w3 ⟨rfl, ht⟩
      have HT3 := Lib.hid (HT2.out.trans ht)
      clear ht
      go_wp2
      go_ret
      exact ⟨rfl, HT3.out⟩
    | true =>
      have hfew := of_decide_eq_true HFW.out.symm
      obtain ⟨h300, h40⟩ := hfew
      rw [HN.out] at h40
      have H300 := Lib.hid h300
      have hws : w.heap.size ≤ w2.heap.size := HT2.out.size
      clear h300
      obtain ⟨i, hi, hz0, hz1, hz2⟩ := info_parts info_fr
      go_wp2_with fail
      go_loopw [9, 10, 11, 12] (fun av tv ev iv wr => ∃ (k : Nat) (al : ByteArray) (fs : List Fr) (part : List Int) (er : Int) (At : Option Addr) (ct : Nat), k ≤ n ∧ iv = .int .i64 k ∧ av = .string al ∧ al.size ≤ 300 * k ∧ ev = .int .i64 er ∧ tv = .slice At fs.length ct ∧
          wr.ownsRow w.heap.size 43 8 (.slice At fs.length ct) fs.length (frs fs) ∧ IsSt wr w.heap.size w.heap.size mk most part er ∧ Hid (scan mk most (sb al) = (fs, part, er)) ∧ Touch NoS w wr)
        (fun _ _ _ iv _ => n - (intOf iv).toNat)
      case atStart =>
        exact ⟨0, ⟨#[]⟩, [], [], 0, some ⟨w2.heap.size, 0, none⟩, 0, by omega, rfl, rfl, by decide, rfl, rfl, ⟨rfl, .inr ⟨w2.heap.size, 0, #[], rfl, hws, Blk.new _ _ _, Nat.le_refl _, by simp [maxLen], rfl, rfl⟩⟩, HS2.out.no ((Touch.refl _ _).alloc _), rfl, HT2.out.alloc _⟩
      case round =>
        obtain ⟨k, al, fs, part, er, At, ct, hk, rfl, rfl, hal, rfl, rfl, ho, hs, hsc, ht⟩ := hrel
        have HO := Lib.hid ho
        have HS := Lib.hid hs
        have HSC := Lib.hid hsc
        have HT := Lib.hid ht
        have hsz := ht.size
        by_cases hlt : k < n
        · have hk1 : k < ls.length := by rw [HN.out]; exact hlt
          obtain ⟨gA, off, rfl, hgA, c0⟩ := str_at (HR.out.touch_no ht) k hk1
          have h3 := H300.out ls[k] (List.getElem_mem hk1)
          obtain ⟨s, hsd⟩ : ∃ s, s = ls[k] := ⟨_, rfl⟩
          rw [← hsd] at c0 h3
          clear ho hs hsc ht hsd
          have hlz : al.size ≤ 12000 := by omega
          by_cases her : er = 0
          · subst her
            obtain ⟨fs2, rest, e2, hsc2⟩ : ∃ fs2 rest e2, scan mk most (part ++ sb s) = (fs2, rest, e2) := ⟨_, _, _, rfl⟩
            have hp := scan_in mk most al.size (sb al) (by rw [sb_length]; exact Nat.le_refl _) (sb_in al) (by rw [sb_length]; unfold maxLen; omega)
            rw [HSC.out.out, sb_length] at hp
            simp only at hp
            obtain ⟨hp1, hp2, hp3⟩ := hp
            have hinp : bytesIn (part ++ sb s) := fun x hx => by
              rcases List.mem_append.1 hx with h | h
              · exact hp1 x h
              · exact sb_in s x h
            have hall : scan mk most (sb (al ++ s)) = (fs ++ fs2, rest, e2) := by
              rw [sb_append]
              exact scan_more mk most (sb al) (sb s) (by rw [← sb_append]; exact sb_in _) (by rw [List.length_append, sb_length, sb_length]; unfold maxLen; omega) fs part HSC.out.out fs2 rest e2 hsc2
            have hq := scan_in mk most (al ++ s).size (sb (al ++ s)) (by rw [sb_length]; exact Nat.le_refl _) (sb_in _) (by rw [sb_length, ByteArray.size_append]; unfold maxLen; omega)
            rw [hall, sb_length, ByteArray.size_append] at hq
            simp only [List.length_append] at hq
            obtain ⟨_, hq2, hq3⟩ := hq
            obtain ⟨X, hX⟩ : ∃ X, X = al ++ s := ⟨_, rfl⟩
            have hXz : X.size = al.size + s.size := by rw [hX, ByteArray.size_append]
            rw [← hX] at hall
            have HALL := Lib.hid hall
            have HSC2 := Lib.hid hsc2
            have HINP := Lib.hid hinp
            have HX := Lib.hid hX
            obtain ⟨w4, cp, hconv, ht, hrd, hcp, hcm, h23⟩ := conv_ex wr s (by unfold maxLen; omega)
            have HRD := Lib.hid hrd
            have HO4 := Lib.hid (own_no HO.out ht)
            have HS4 := Lib.hid (HS.out.no ht)
            have HT4 := Lib.hid (HT.out.trans ht)
            have hsz4 : w.heap.size ≤ w4.heap.size := HT4.out.size
            clear hsc2 hp1 hinp hall hX hrd hcp hcm h23 ht hk1
            go_wp2_with fail
            rw [← HX.out]
            refine (st_feed HS4.out HM.out hsz4 (sb s) _ s.size cp (sb_length s) HRD.out HINP.out (by omega) fs2 rest e2 HSC2.out).mono ?_
            rintro e w5 ⟨A5, c5, rfl, ho5, hs5, ht5⟩
            have hrd5 := (own_cases ho5)
            obtain ⟨A5', c5', hv5, _, _, hrd5, _, _⟩ := hrd5
            injection hv5 with e5 _ e6
            subst e5 e6
            have HRD5 := Lib.hid hrd5
            have HO5 := Lib.hid (SF_own HO4.out HS4.out ht5 (by decide) (by decide))
            have HS5 := Lib.hid hs5
            have HT5 := Lib.hid (SF_old HT4.out ht5 (Nat.le_refl _) (Nat.le_refl _))
            have hsz5 : w.heap.size ≤ w5.heap.size := HT5.out.size
            clear ho5 hs5 ht5 hrd5 HO4 HS4 HT4 HRD
            go_wp2_with (at_builtin; refine wpList_app_row _ rfl (.tmp 80) (.tmp 81) 29 rfl w.heap.size 43 i _ 8 40 Try.underlying29 hi hz0 hz1 hz2 rfl (by decide) _ fs.length (frs fs) rfl HO5.out A5 fs2.length c5 (frs fs2) rfl (frs_length fs2) HRD5.out (frs_one fs2) (by unfold maxLen; omega) (by omega) hsz5 ?_)
            intro v6 w6 ho6 hgr _
            rw [← List.length_append, ← frs_append] at ho6
            obtain ⟨A6, c6, rfl, _, _, hrd6, _, _⟩ := own_cases ho6
            have HO6 := Lib.hid ho6
            have HS6 := Lib.hid (HS5.out.grown HO5.out (by decide) (by decide) hgr)
            have HT6 := Lib.hid (HT5.out.grown hgr (fun q hq hl => absurd (own_base HO5.out hq) (by omega)))
            clear ho6 hgr hrd6 HO5 HS5 HT5
            go_wp2_with fail
            have hra := r10_all X (by omega) mk most HM.out w6
            rw [HALL.out] at hra
            refine hra.mono ?_
            clear hra
            rintro e w7 ⟨v7, rfl, ho7, ht7⟩
            obtain ⟨A7, c7, rfl, _, _, hrd7, _, _⟩ := own_cases ho7
            have HR7 := Lib.hid hrd7
            have HO7 := Lib.hid (own_no HO6.out ht7)
            have HS7 := Lib.hid (HS6.out.no ht7)
            have HT7 := Lib.hid (HT6.out.trans ht7)
            clear ho7 ht7 hrd7 HO6 HS6 HT6
            go_wp2_with fail
            refine (st_err HS7.out).mono ?_
            rintro e w7' ⟨rfl, rfl⟩
            go_wp2_with fail
            refine (st_part HS7.out rest.length rfl).mono ?_
            rintro e w7' ⟨rfl, rfl⟩
            obtain ⟨A8, c8, hv8, _, _, hrd8, _, _⟩ := own_cases HO7.out
            injection hv8 with e8 _ e9
            subst e8 e9
            have HR8 := Lib.hid hrd8
            clear hrd8
            go_wp2_with fail
            refine (r10_same _ _ (fs ++ fs2) (fs ++ fs2) _ _ _ _ List.length_append List.length_append w7 HR8.out HR7.out (by omega) (by omega)).mono ?_
            rintro e w9 ⟨rfl, ht9⟩
            rw [show decide (fs ++ fs2 = fs ++ fs2) = true from decide_eq_true rfl]
            have HO9 := Lib.hid (own_no HO7.out ht9)
            have HS9 := Lib.hid (HS7.out.no ht9)
            have HT9 := Lib.hid (HT7.out.trans ht9)
            clear ht9 HR8 HR7 HO7 HS7 HT7
            go_wp2_with fail
            go_roundw
            · exact ⟨k + 1, X, fs ++ fs2, rest, e2, A6, c6, by omega, by go_num, rfl, by omega, rfl, by rw [List.length_append], (by have h := HO9.out; simp only [List.length_append] at h ⊢; exact h), HS9.out, HALL.out, HT9.out⟩
            · simp [intOf]; omega
          · have hq := scan_in mk most al.size (sb al) (by rw [sb_length]; exact Nat.le_refl _) (sb_in al) (by rw [sb_length]; unfold maxLen; omega)
            rw [HSC.out.out, sb_length] at hq
            simp only at hq
            obtain ⟨_, hq2, hq3⟩ := hq
            have HE := Lib.hid her
            have q1 : (er == 0) = false := by rw [beq_eq_false_iff_ne]; exact her
            have q2 : (er != 0) = true := by rw [bne_iff_ne]; exact her
            have hall : scan mk most (sb al) = (fs ++ [], part, er) := by rw [List.append_nil]; exact HSC.out.out
            have HALL := Lib.hid hall
            obtain ⟨rest, hrest⟩ : ∃ rest, rest = part := ⟨_, rfl⟩
            obtain ⟨e2, he2⟩ : ∃ e2, e2 = er := ⟨_, rfl⟩
            obtain ⟨w4, cp, hconv, ht, hrd, hcp, hcm, h23⟩ := conv_ex wr s (by unfold maxLen; omega)
            have HO5 := Lib.hid (own_no HO.out ht)
            have HS4 := Lib.hid (HS.out.no ht)
            have HT4 := Lib.hid (HT.out.trans ht)
            subst hrest he2
            clear hrd hcp hcm h23 ht hk1 hall her
            go_wp2_with fail
            refine (st_feed_err HS4.out HE.out _ _ _).mono ?_
            rintro e w5 ⟨rfl, hs5, ht5⟩
            have HO5 := Lib.hid (own_no HO5.out ht5)
            have HS5 := Lib.hid hs5
            have HT5 := Lib.hid (HT4.out.trans ht5)
            have hsz5 : w.heap.size ≤ w5.heap.size := HT5.out.size
            clear hs5 ht5 HS4 HT4
            go_wp2_with (at_builtin; refine wpList_app_row _ rfl (.tmp 80) (.tmp 81) 29 rfl w.heap.size 43 i _ 8 40 Try.underlying29 hi hz0 hz1 hz2 rfl (by decide) _ fs.length (frs fs) rfl HO5.out none 0 0 (frs []) rfl rfl (fun h => absurd rfl h) (frs_one []) (by unfold maxLen; omega) (by omega) hsz5 ?_)
            intro v6 w6 ho6 hgr _
            have ho6 : w6.ownsRow w.heap.size 43 8 v6 (fs.length + ([] : List Fr).length) (frs fs ++ frs []) := ho6
            rw [← List.length_append, ← frs_append] at ho6
            obtain ⟨A6, c6, rfl, _, _, hrd6, _, _⟩ := own_cases ho6
            have HO6 := Lib.hid ho6
            have HS6 := Lib.hid (HS5.out.grown HO5.out (by decide) (by decide) hgr)
            have HT6 := Lib.hid (HT5.out.grown hgr (fun q hq hl => absurd (own_base HO5.out hq) (by omega)))
            clear ho6 hgr hrd6 HO5 HS5 HT5
            go_wp2_with fail
            have hra := r10_all al (by omega) mk most HM.out w6
            rw [HALL.out] at hra
            refine hra.mono ?_
            clear hra
            rintro e w7 ⟨v7, rfl, ho7, ht7⟩
            obtain ⟨A7, c7, rfl, _, _, hrd7, _, _⟩ := own_cases ho7
            have HR7 := Lib.hid hrd7
            have HO7 := Lib.hid (own_no HO6.out ht7)
            have HS7 := Lib.hid (HS6.out.no ht7)
            have HT7 := Lib.hid (HT6.out.trans ht7)
            clear ho7 ht7 hrd7 HO6 HS6 HT6
            go_wp2_with fail
            refine (st_err HS7.out).mono ?_
            rintro e w7' ⟨rfl, rfl⟩
            go_wp2_with fail
            refine (st_part HS7.out rest.length rfl).mono ?_
            rintro e w7' ⟨rfl, rfl⟩
            obtain ⟨A8, c8, hv8, _, _, hrd8, _, _⟩ := own_cases HO7.out
            injection hv8 with e8 _ e9
            subst e8 e9
            have HR8 := Lib.hid hrd8
            clear hrd8
            go_wp2_with fail
            refine (r10_same _ _ (fs ++ []) (fs ++ []) _ _ _ _ (congrArg List.length (List.append_nil fs)) (congrArg List.length (List.append_nil fs)) w7 HR8.out HR7.out (by omega) (by omega)).mono ?_
            rintro e w9 ⟨rfl, ht9⟩
            rw [show decide (fs ++ [] = fs ++ []) = true from decide_eq_true rfl]
            have HO9 := Lib.hid (own_no HO7.out ht9)
            have HS9 := Lib.hid (HS7.out.no ht9)
            have HT9 := Lib.hid (HT7.out.trans ht9)
            clear ht9 HR8 HR7 HO7 HS7 HT7
            go_wp2_with fail
            go_roundw
            · exact ⟨k + 1, al, fs ++ [], rest, e2, A6, c6, by omega, by go_num, rfl, by omega, rfl, by rw [List.append_nil], (by have h := HO9.out; simp only [List.append_nil] at h ⊢; exact h), HS9.out, HALL.out, HT9.out⟩
            · simp [intOf]; omega
        · have hkn : k = n := by omega
          subst hkn
          clear ho hs hsc ht
          go_wp2
          go_ret
          exact ⟨rfl, HT.out⟩
  · have hout : most < 125 ∨ 65536 < most := by omega
    go_enter Try.func3, Try.ntmps3
    go_wp2_with fail
    refine (s_new mk most _).mono ?_
    rintro e w1 ⟨h, _⟩
    obtain ⟨rfl, rfl⟩ := h hout
    rcases hout with hout | hout
    · go_wp2_with fail
      refine (aw10 _).mono ?_
      rintro e w2 ⟨rfl, ht⟩
      have HT2 := Lib.hid ht
      clear ht
      go_wp2
      go_ret
      exact ⟨rfl, HT2.out⟩
    · have hout' : 125 ≤ most := by omega
      go_wp2_with fail
      refine (aw10 _).mono ?_
      rintro e w2 ⟨rfl, ht⟩
      have HT2 := Lib.hid ht
      clear ht
      go_wp2
      go_ret
      exact ⟨rfl, HT2.out⟩
end Go.Proofs.Ytfafpcmdgjmlhaa
