/- law13: CutBytes: the walk. -/
import Derived.Test.YtkhppojlabajaaaZ28
/- law13: CutBytes: the walk. -/
namespace Go.Proofs.Ytkhppojlabajaaa
open Go.RowKit
set_option linter.unusedSimpArgs false
set_option linter.unusedVariables false

theorem k_bytes_ok (A : Option Addr) (l : List Fr) (n c : Nat) (hn : l.length = n) (w : World) (hr : Rd w A (frs l)) (hf : ∀ f ∈ l, f.good) (hl : n ≤ 1000) (he : err13 l = 0) :
    Calls Try.prog 25 #[.slice A n c] w fun e w' => ∃ A' c', e = .returned (.tuple #[.slice A' (puts l).length c', .int .i64 0]) ∧ w'.ownsRow w.heap.size 5 1 (.slice A' (puts l).length c') (puts l).length (u8s (puts l)) ∧ Touch NoS w w' :=
  (k_bytes A l n c hn w hr hf hl).mono fun e w' ⟨hj, ht⟩ => by
    rcases hj with ⟨_, v, rfl, ho⟩ | ⟨h, _⟩
    · obtain ⟨A', c', rfl, _⟩ := own_cases ho
      exact ⟨A', c', rfl, ho, ht⟩
    · exact absurd he h
theorem k_bytes_no (A : Option Addr) (l : List Fr) (n c : Nat) (hn : l.length = n) (w : World) (hr : Rd w A (frs l)) (hf : ∀ f ∈ l, f.good) (hl : n ≤ 1000) (er : Int) (he : err13 l = er) (h0 : er ≠ 0) :
    Calls Try.prog 25 #[.slice A n c] w fun e w' => e = .returned (.tuple #[.slice none 0 0, .int .i64 er]) ∧ Touch NoS w w' :=
  (k_bytes A l n c hn w hr hf hl).mono fun e w' ⟨hj, ht⟩ => by
    rcases hj with ⟨h, _⟩ | ⟨_, rfl⟩
    · exact absurd (he.symm.trans h) h0
    · rw [he]
      exact ⟨rfl, ht⟩

set_option maxHeartbeats 6400000 in
set_option maxRecDepth 100000 in
theorem bytes13_row (w : World) (A : Option Addr) (ls : List Fr) (c : Nat) (hr : Rd w A (ls.flatMap Fr.cl)) (hg : ∀ x ∈ ls, x.good) (hlc : ls.length ≤ c) (hcc : c ≤ maxLen) (x : Int) (hx : (Lit.int .u8 x).wf = true) :
    Calls Try.prog 8 #[.slice A ls.length c, .int .u8 x] w fun e w' => e = .returned (.bool true) ∧ Touch NoS w w' := by
  have hr : Rd w A (frs ls) := hr
  obtain ⟨hx0, hx1⟩ := u8_bounds hx
  have HR := Lib.hid hr
  have HG := Lib.hid hg
  obtain ⟨n, hn⟩ : ∃ n, n = ls.length := ⟨_, rfl⟩
  rw [← hn] at hlc ⊢
  have HN := Lib.hid hn.symm
  have hnm : n ≤ maxLen := by omega
  have HNM := Lib.hid hnm
  clear hr hg hn hnm hx
  go_enter Try.func8, Try.ntmps8
  go_wp2_with fail
  refine (aw13 _).mono ?_
  rintro e w1 ⟨rfl, ht⟩
  have HT1 := Lib.hid ht
  clear ht
  go_wp2_with fail
  refine (r12_few A ls n c HN.out w1 (HR.out.touch_no HT1.out) HNM.out HG.out).mono ?_
  rintro e w2 ⟨rfl, rfl⟩
  obtain ⟨fw, hfw⟩ : ∃ fw, fw = few12 ls := ⟨_, rfl⟩
  rw [← hfw]
  have HFW := Lib.hid hfw
  clear hfw
  cases fw with
  | false =>
    go_wp2_with fail
    refine (aw13 _).mono ?_
    rintro e w3 ⟨rfl, ht⟩
    have HT3 := Lib.hid (HT1.out.trans ht)
    clear ht
    go_wp2
    go_ret
    exact ⟨rfl, HT3.out⟩
  | true =>
    have hfew := of_decide_eq_true HFW.out.symm
    obtain ⟨h300, h30⟩ := hfew
    rw [HN.out] at h30
    have H300 := Lib.hid h300
    have hws : w.heap.size ≤ w1.heap.size := HT1.out.size
    clear h300
    obtain ⟨i, hi, hz0, hz1, hz2⟩ := info_parts info_fr
    obtain ⟨k, hk⟩ : ∃ k : Nat, (k : Int) = x % ((n : Int) + 1) := ⟨(x % ((n : Int) + 1)).toNat, by have := Int.emod_nonneg x (show (n : Int) + 1 ≠ 0 by omega); omega⟩
    have hkn : k ≤ n := by have := Int.emod_lt_of_pos x (show (0 : Int) < n + 1 by omega); omega
    have hw1 : IntKind.i64.wrap ((n : Int) + 1) = n + 1 := IntWalk.i64_in _ (by omega)
    have hw2 : IntKind.i64.wrap x = x := IntWalk.i64_in _ (by omega)
    have hw3 : x.tmod ((n : Int) + 1) = k := by rw [Int.tmod_eq_emod_of_nonneg hx0, hk]
    have hw4 : IntKind.i64.wrap k = k := IntWalk.i64_in _ (by omega)
    have hq : ((n : Int) + 1 == 0) = false := by rw [beq_eq_false_iff_ne]; omega
    unfold maxLen at hcc
    clear hk
    have htk : Rd w A (frs (ls.take k)) := by rw [frs_take]; exact HR.out.take _
    have HTK := Lib.hid htk
    have HTKL : Hid ((ls.take k).length = k) := by show (ls.take k).length = k; rw [List.length_take, HN.out]; omega
    have HDRL : Hid ((ls.drop k).length = n - k) := by show (ls.drop k).length = n - k; rw [List.length_drop, HN.out]
    have HGT : Hid (∀ f ∈ ls.take k, f.good) := fun f hf => HG.out f (List.mem_of_mem_take hf)
    have HGD : Hid (∀ f ∈ ls.drop k, f.good) := fun f hf => HG.out f (List.mem_of_mem_drop hf)
    have HSP : Hid (ls = ls.take k ++ ls.drop k) := (List.take_append_drop k ls).symm
    obtain ⟨Ls, hLs⟩ : ∃ L, L = ls.take k := ⟨_, rfl⟩
    obtain ⟨Ms, hMs⟩ : ∃ L, L = ls.drop k := ⟨_, rfl⟩
    obtain ⟨A', hsl1, hsl, hrA⟩ := sl_any (T := 23) Try.underlying23 size_fr HR.out (by rw [frs_length, HN.out]) hlc (k : Int) (n : Int) k n rfl rfl hkn (Nat.le_refl n)
    have hsl := hsl rfl
    have hlen8 : (frs ls).length ≤ n * 8 := by rw [frs_length, HN.out]; exact Nat.le_refl _
    rw [List.take_of_length_le hlen8, ← frs_drop] at hrA
    rw [← hLs] at HTK HTKL HGT HSP
    rw [← hMs] at hrA HDRL HGD HSP
    have HRA := Lib.hid hrA
    have he13 := err13_append Ls Ms
    have hp13 := puts_append Ls Ms
    rw [← HSP.out] at he13 hp13
    have HP13 := Lib.hid hp13
    have hcase : (err13 ls = 0 ∧ err13 Ls = 0 ∧ err13 Ms = 0) ∨ (∃ er, err13 ls = er ∧ err13 Ls = er ∧ er ≠ 0) ∨ (∃ er, err13 ls = er ∧ err13 Ls = 0 ∧ err13 Ms = er ∧ er ≠ 0) := by
      by_cases h1 : err13 Ls = 0
      · rw [if_pos h1] at he13
        by_cases h2 : err13 Ms = 0
        · exact .inl ⟨by rw [he13, h2], h1, h2⟩
        · exact .inr (.inr ⟨_, he13, h1, rfl, h2⟩)
      · rw [if_neg h1] at he13
        exact .inr (.inl ⟨_, he13, rfl, h1⟩)
    have hz := puts_size ls
    clear htk hLs hMs hsl1 hrA hlen8 he13 hp13
    rcases hcase with ⟨q1, q2, q3⟩ | ⟨er, q1, q2, q4⟩ | ⟨er, q1, q2, q3, q4⟩
    · have Q1 := Lib.hid q1
      have Q2 := Lib.hid q2
      have Q3 := Lib.hid q3
      have hz1' := hz q1
      have HXP : Hid (Go.strOfNums (puts ls) = Go.strOfNums (puts Ls) ++ Go.strOfNums (puts Ms)) := by
        show Go.strOfNums (puts ls) = _
        rw [HP13.out, nums_append]
      clear q1 q2 hz
      clear q3
      go_wp2_with (at_builtin; refine wpList_app_row _ rfl (.tmp 27) (.tmp 28) 23 rfl w.heap.size 44 i _ 8 40 Try.underlying23 hi hz0 hz1 hz2 rfl (by decide) _ 0 [] rfl (own_empty hws _ _) A (n) c (frs ls) rfl (by rw [frs_length, HN.out]) ((HR.out.touch_no HT1.out).touch_no ((Touch.refl _ _).alloc _)) (frs_one ls) (by unfold maxLen; omega) (by omega) (by simp; omega) ?_)
      intro v3 w3 ho hgr _
      obtain ⟨A3, c3, rfl, _, _, hrd, _, _⟩ := own_cases ho
      have HR3 := Lib.hid hrd
      have ht : Touch NoS w1 w3 := ((Touch.refl _ _).alloc (.cells #[] 44)).grown hgr (fun q hq hl => absurd (own_base (own_empty (Nat.le_refl _) 44 8) hq) (by omega))
      have HT3 := Lib.hid (HT1.out.trans ht)
      clear ho hgr hrd ht HT1 
      go_wp2_with fail
      refine (k_bytes_ok A3 ls (n) c3 HN.out _ HR3.out HG.out (by omega) Q1.out).mono ?_
      rintro e w4 ⟨A4, c4, rfl, ho, ht⟩
      obtain ⟨_, _, hv, _, _, hrd, _, _⟩ := own_cases ho
      injection hv with e1 _ e2
      subst e1 e2
      have HR4 := Lib.hid hrd
      have HT4 := Lib.hid (HT3.out.trans ht)
      have hs4 : w.heap.size ≤ w4.heap.size := HT4.out.size
      clear ho ht hrd HT3 HR3 
      go_wp2_with (at_builtin; refine wpList_app_row _ rfl (.tmp 34) (.tmp 37) 23 rfl w.heap.size 44 i _ 8 40 Try.underlying23 hi hz0 hz1 hz2 rfl (by decide) _ 0 [] rfl (own_empty hs4 _ _) A (k) c (frs Ls) rfl (by rw [frs_length, HTKL.out]) ((HTK.out.touch_no HT4.out).touch_no ((Touch.refl _ _).alloc _)) (frs_one Ls) (by unfold maxLen; omega) (by omega) (by simp; omega) ?_)
      intro v5 w5 ho hgr _
      obtain ⟨A5, c5, rfl, _, _, hrd, _, _⟩ := own_cases ho
      have HR5 := Lib.hid hrd
      have ht : Touch NoS w4 w5 := ((Touch.refl _ _).alloc (.cells #[] 44)).grown hgr (fun q hq hl => absurd (own_base (own_empty (Nat.le_refl _) 44 8) hq) (by omega))
      have HT5 := Lib.hid (HT4.out.trans ht)
      have HR4a := Lib.hid (HR4.out.touch_no ht)
      clear ho hgr hrd ht HT4 HR4
      go_wp2_with fail
      refine (k_bytes_ok A5 Ls (k) c5 HTKL.out _ HR5.out HGT.out (by omega) Q2.out).mono ?_
      rintro e w6 ⟨A6, c6, rfl, ho, ht⟩
      obtain ⟨_, _, hv, _, _, hrd, _, _⟩ := own_cases ho
      injection hv with e1 _ e2
      subst e1 e2
      have HR6 := Lib.hid hrd
      have HT6 := Lib.hid (HT5.out.trans ht)
      have hs6 : w.heap.size ≤ w6.heap.size := HT6.out.size
      have HR4b := Lib.hid (HR4a.out.touch_no ht)
      clear ho ht hrd HT5 HR5 HR4a
      go_wp2_with (at_builtin; refine wpList_app_row _ rfl (.tmp 43) (.tmp 46) 23 rfl w.heap.size 44 i _ 8 40 Try.underlying23 hi hz0 hz1 hz2 rfl (by decide) _ 0 [] rfl (own_empty hs6 _ _) A' (n - k) (c - k) (frs Ms) rfl (by rw [frs_length, HDRL.out]) ((HRA.out.touch_no HT6.out).touch_no ((Touch.refl _ _).alloc _)) (frs_one Ms) (by unfold maxLen; omega) (by omega) (by simp; omega) ?_)
      intro v7 w7 ho hgr _
      obtain ⟨A7, c7, rfl, _, _, hrd, _, _⟩ := own_cases ho
      have HR7 := Lib.hid hrd
      have ht : Touch NoS w6 w7 := ((Touch.refl _ _).alloc (.cells #[] 44)).grown hgr (fun q hq hl => absurd (own_base (own_empty (Nat.le_refl _) 44 8) hq) (by omega))
      have HT7 := Lib.hid (HT6.out.trans ht)
      have HR4c := Lib.hid (HR4b.out.touch_no ht)
      have HR6a := Lib.hid (HR6.out.touch_no ht)
      clear ho hgr hrd ht HT6 HR4b HR6
      go_wp2_with fail
      refine (k_bytes_ok A7 Ms (n - k) c7 HDRL.out _ HR7.out HGD.out (by omega) Q3.out).mono ?_
      rintro e w8 ⟨A8, c8, rfl, ho, ht⟩
      obtain ⟨_, _, hv, _, _, hrd, _, _⟩ := own_cases ho
      injection hv with e1 _ e2
      subst e1 e2
      have HR8 := Lib.hid hrd
      have HT8 := Lib.hid (HT7.out.trans ht)
      have hs8 : w.heap.size ≤ w8.heap.size := HT8.out.size
      have HR4d := Lib.hid (HR4c.out.touch_no ht)
      have HR6b := Lib.hid (HR6a.out.touch_no ht)
      clear ho ht hrd HT7 HR7 HR4c HR6a
      have cv1 := conv_str w8 A4 _ _ c4 rfl HR4d.out
      have cv2 := conv_str w8 A6 _ _ c6 rfl HR6b.out
      have cv3 := conv_str w8 A8 _ _ c8 rfl HR8.out
      obtain ⟨X, hX⟩ : ∃ X, X = Go.strOfNums (puts ls) := ⟨_, rfl⟩
      obtain ⟨Y, hY⟩ : ∃ X, X = Go.strOfNums (puts Ls) := ⟨_, rfl⟩
      obtain ⟨Z, hZ⟩ : ∃ X, X = Go.strOfNums (puts Ms) := ⟨_, rfl⟩
      have hyz : Y.size + Z.size ≤ 1966500 := by
        have h1 := HN.out
        have h2 : (puts ls).length = (puts Ls).length + (puts Ms).length := by rw [HP13.out, List.length_append]
        rw [hY, hZ, numsB_size, numsB_size]
        omega
      rw [← hX] at cv1 HXP
      rw [← hY] at cv2 HXP
      rw [← hZ] at cv3 HXP
      have hxe : (X.toList == (Y ++ Z).toList) = true := by rw [HXP.out]; exact beq_self_eq_true _
      clear hX hY hZ
      have hyi : (Y.size : Int) + Z.size ≤ 1966500 := by omega
      go_wp2
      go_ret
      exact ⟨rfl, HT8.out⟩
    · have Q1 := Lib.hid q1
      have Q2 := Lib.hid q2
      have HNE := Lib.hid q4
      have b1 : (er != 0) = true := by rw [bne_iff_ne]; exact q4
      have b2 : (er == 0) = false := by rw [beq_eq_false_iff_ne]; exact q4
      have b3 : (er == er) = true := by rw [beq_iff_eq]
      clear q1 q2 hz
      clear q4
      have hms : err13 Ms = 0 ∨ ∃ em, err13 Ms = em ∧ em ≠ 0 := by
        by_cases h : err13 Ms = 0
        · exact .inl h
        · exact .inr ⟨_, rfl, h⟩
      go_wp2_with (at_builtin; refine wpList_app_row _ rfl (.tmp 27) (.tmp 28) 23 rfl w.heap.size 44 i _ 8 40 Try.underlying23 hi hz0 hz1 hz2 rfl (by decide) _ 0 [] rfl (own_empty hws _ _) A (n) c (frs ls) rfl (by rw [frs_length, HN.out]) ((HR.out.touch_no HT1.out).touch_no ((Touch.refl _ _).alloc _)) (frs_one ls) (by unfold maxLen; omega) (by omega) (by simp; omega) ?_)
      intro v3 w3 ho hgr _
      obtain ⟨A3, c3, rfl, _, _, hrd, _, _⟩ := own_cases ho
      have HR3 := Lib.hid hrd
      have ht : Touch NoS w1 w3 := ((Touch.refl _ _).alloc (.cells #[] 44)).grown hgr (fun q hq hl => absurd (own_base (own_empty (Nat.le_refl _) 44 8) hq) (by omega))
      have HT3 := Lib.hid (HT1.out.trans ht)
      clear ho hgr hrd ht HT1 
      go_wp2_with fail
      refine (k_bytes_no A3 ls (n) c3 HN.out _ HR3.out HG.out (by omega) _ Q1.out HNE.out).mono ?_
      rintro e w4 ⟨rfl, ht⟩
      have HT4 := Lib.hid (HT3.out.trans ht)
      have hs4 : w.heap.size ≤ w4.heap.size := HT4.out.size
      clear ht HT3 HR3 
      go_wp2_with (at_builtin; refine wpList_app_row _ rfl (.tmp 34) (.tmp 37) 23 rfl w.heap.size 44 i _ 8 40 Try.underlying23 hi hz0 hz1 hz2 rfl (by decide) _ 0 [] rfl (own_empty hs4 _ _) A (k) c (frs Ls) rfl (by rw [frs_length, HTKL.out]) ((HTK.out.touch_no HT4.out).touch_no ((Touch.refl _ _).alloc _)) (frs_one Ls) (by unfold maxLen; omega) (by omega) (by simp; omega) ?_)
      intro v5 w5 ho hgr _
      obtain ⟨A5, c5, rfl, _, _, hrd, _, _⟩ := own_cases ho
      have HR5 := Lib.hid hrd
      have ht : Touch NoS w4 w5 := ((Touch.refl _ _).alloc (.cells #[] 44)).grown hgr (fun q hq hl => absurd (own_base (own_empty (Nat.le_refl _) 44 8) hq) (by omega))
      have HT5 := Lib.hid (HT4.out.trans ht)
      clear ho hgr hrd ht HT4 
      go_wp2_with fail
      refine (k_bytes_no A5 Ls (k) c5 HTKL.out _ HR5.out HGT.out (by omega) _ Q2.out HNE.out).mono ?_
      rintro e w6 ⟨rfl, ht⟩
      have HT6 := Lib.hid (HT5.out.trans ht)
      have hs6 : w.heap.size ≤ w6.heap.size := HT6.out.size
      clear ht HT5 HR5 
      go_wp2_with (at_builtin; refine wpList_app_row _ rfl (.tmp 43) (.tmp 46) 23 rfl w.heap.size 44 i _ 8 40 Try.underlying23 hi hz0 hz1 hz2 rfl (by decide) _ 0 [] rfl (own_empty hs6 _ _) A' (n - k) (c - k) (frs Ms) rfl (by rw [frs_length, HDRL.out]) ((HRA.out.touch_no HT6.out).touch_no ((Touch.refl _ _).alloc _)) (frs_one Ms) (by unfold maxLen; omega) (by omega) (by simp; omega) ?_)
      intro v7 w7 ho hgr _
      obtain ⟨A7, c7, rfl, _, _, hrd, _, _⟩ := own_cases ho
      have HR7 := Lib.hid hrd
      have ht : Touch NoS w6 w7 := ((Touch.refl _ _).alloc (.cells #[] 44)).grown hgr (fun q hq hl => absurd (own_base (own_empty (Nat.le_refl _) 44 8) hq) (by omega))
      have HT7 := Lib.hid (HT6.out.trans ht)
      clear ho hgr hrd ht HT6 
      rcases hms with hms | ⟨em, hms, hne⟩
      · have Q3 := Lib.hid hms
        clear hms
        go_wp2_with fail
        refine (k_bytes_ok A7 Ms (n - k) c7 HDRL.out _ HR7.out HGD.out (by omega) Q3.out).mono ?_
        rintro e w8 ⟨A8, c8, rfl, ho, ht⟩
        obtain ⟨_, _, hv, _, _, hrd, _, _⟩ := own_cases ho
        injection hv with e1 _ e2
        subst e1 e2
        have HR8 := Lib.hid hrd
        have HT8 := Lib.hid (HT7.out.trans ht)
        have hs8 : w.heap.size ≤ w8.heap.size := HT8.out.size
        clear ho ht hrd HT7 HR7 
        go_wp2
        go_ret
        exact ⟨rfl, HT8.out⟩
      · have Q3 := Lib.hid hms
        have HNF := Lib.hid hne
        clear hms hne
        go_wp2_with fail
        refine (k_bytes_no A7 Ms (n - k) c7 HDRL.out _ HR7.out HGD.out (by omega) _ Q3.out HNF.out).mono ?_
        rintro e w8 ⟨rfl, ht⟩
        have HT8 := Lib.hid (HT7.out.trans ht)
        have hs8 : w.heap.size ≤ w8.heap.size := HT8.out.size
        clear ht HT7 HR7 
        go_wp2
        go_ret
        exact ⟨rfl, HT8.out⟩
    · have Q1 := Lib.hid q1
      have Q2 := Lib.hid q2
      have Q3 := Lib.hid q3
      have HNE := Lib.hid q4
      have b1 : (er != 0) = true := by rw [bne_iff_ne]; exact q4
      have b2 : (er == 0) = false := by rw [beq_eq_false_iff_ne]; exact q4
      have b3 : (er == er) = true := by rw [beq_iff_eq]
      clear q1 q2 hz
      clear q3
      clear q4
      go_wp2_with (at_builtin; refine wpList_app_row _ rfl (.tmp 27) (.tmp 28) 23 rfl w.heap.size 44 i _ 8 40 Try.underlying23 hi hz0 hz1 hz2 rfl (by decide) _ 0 [] rfl (own_empty hws _ _) A (n) c (frs ls) rfl (by rw [frs_length, HN.out]) ((HR.out.touch_no HT1.out).touch_no ((Touch.refl _ _).alloc _)) (frs_one ls) (by unfold maxLen; omega) (by omega) (by simp; omega) ?_)
      intro v3 w3 ho hgr _
      obtain ⟨A3, c3, rfl, _, _, hrd, _, _⟩ := own_cases ho
      have HR3 := Lib.hid hrd
      have ht : Touch NoS w1 w3 := ((Touch.refl _ _).alloc (.cells #[] 44)).grown hgr (fun q hq hl => absurd (own_base (own_empty (Nat.le_refl _) 44 8) hq) (by omega))
      have HT3 := Lib.hid (HT1.out.trans ht)
      clear ho hgr hrd ht HT1 
      go_wp2_with fail
      refine (k_bytes_no A3 ls (n) c3 HN.out _ HR3.out HG.out (by omega) _ Q1.out HNE.out).mono ?_
      rintro e w4 ⟨rfl, ht⟩
      have HT4 := Lib.hid (HT3.out.trans ht)
      have hs4 : w.heap.size ≤ w4.heap.size := HT4.out.size
      clear ht HT3 HR3 
      go_wp2_with (at_builtin; refine wpList_app_row _ rfl (.tmp 34) (.tmp 37) 23 rfl w.heap.size 44 i _ 8 40 Try.underlying23 hi hz0 hz1 hz2 rfl (by decide) _ 0 [] rfl (own_empty hs4 _ _) A (k) c (frs Ls) rfl (by rw [frs_length, HTKL.out]) ((HTK.out.touch_no HT4.out).touch_no ((Touch.refl _ _).alloc _)) (frs_one Ls) (by unfold maxLen; omega) (by omega) (by simp; omega) ?_)
      intro v5 w5 ho hgr _
      obtain ⟨A5, c5, rfl, _, _, hrd, _, _⟩ := own_cases ho
      have HR5 := Lib.hid hrd
      have ht : Touch NoS w4 w5 := ((Touch.refl _ _).alloc (.cells #[] 44)).grown hgr (fun q hq hl => absurd (own_base (own_empty (Nat.le_refl _) 44 8) hq) (by omega))
      have HT5 := Lib.hid (HT4.out.trans ht)
      clear ho hgr hrd ht HT4 
      go_wp2_with fail
      refine (k_bytes_ok A5 Ls (k) c5 HTKL.out _ HR5.out HGT.out (by omega) Q2.out).mono ?_
      rintro e w6 ⟨A6, c6, rfl, ho, ht⟩
      obtain ⟨_, _, hv, _, _, hrd, _, _⟩ := own_cases ho
      injection hv with e1 _ e2
      subst e1 e2
      have HR6 := Lib.hid hrd
      have HT6 := Lib.hid (HT5.out.trans ht)
      have hs6 : w.heap.size ≤ w6.heap.size := HT6.out.size
      clear ho ht hrd HT5 HR5 
      go_wp2_with (at_builtin; refine wpList_app_row _ rfl (.tmp 43) (.tmp 46) 23 rfl w.heap.size 44 i _ 8 40 Try.underlying23 hi hz0 hz1 hz2 rfl (by decide) _ 0 [] rfl (own_empty hs6 _ _) A' (n - k) (c - k) (frs Ms) rfl (by rw [frs_length, HDRL.out]) ((HRA.out.touch_no HT6.out).touch_no ((Touch.refl _ _).alloc _)) (frs_one Ms) (by unfold maxLen; omega) (by omega) (by simp; omega) ?_)
      intro v7 w7 ho hgr _
      obtain ⟨A7, c7, rfl, _, _, hrd, _, _⟩ := own_cases ho
      have HR7 := Lib.hid hrd
      have ht : Touch NoS w6 w7 := ((Touch.refl _ _).alloc (.cells #[] 44)).grown hgr (fun q hq hl => absurd (own_base (own_empty (Nat.le_refl _) 44 8) hq) (by omega))
      have HT7 := Lib.hid (HT6.out.trans ht)
      have HR6a := Lib.hid (HR6.out.touch_no ht)
      clear ho hgr hrd ht HT6 HR6
      go_wp2_with fail
      refine (k_bytes_no A7 Ms (n - k) c7 HDRL.out _ HR7.out HGD.out (by omega) _ Q3.out HNE.out).mono ?_
      rintro e w8 ⟨rfl, ht⟩
      have HT8 := Lib.hid (HT7.out.trans ht)
      have hs8 : w.heap.size ≤ w8.heap.size := HT8.out.size
      have HR6b := Lib.hid (HR6a.out.touch_no ht)
      clear ht HT7 HR7 HR6a
      go_wp2
      go_ret
      exact ⟨rfl, HT8.out⟩
end Go.Proofs.Ytkhppojlabajaaa
