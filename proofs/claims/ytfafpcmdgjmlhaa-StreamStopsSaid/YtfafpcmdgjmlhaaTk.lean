/- law10: StreamStops: the walk. -/
import Derived.Test.YtfafpcmdgjmlhaaTi
namespace Go.Proofs.Ytfafpcmdgjmlhaa
open Go.RowKit
set_option linter.unusedSimpArgs false
set_option linter.unusedVariables false

theorem scan_one_bad (mk : Bool) (most x : Int) (hx : x / 16 % 8 ≠ 0) : scan mk most ([] ++ [x]) = ([], [], 91) := by
  have hg : fget [x] most = (Fr.zero, 0, 91) := by
    unfold fget
    rw [if_neg (by simp), if_pos (.inl (by simpa using hx))]
  have hl : slook mk most [x] = (Fr.zero, 0, 91) := by
    unfold slook
    rw [if_neg (by simp), if_neg (by simp), hg]
  show scan mk most [x] = _
  unfold scan scanF
  rw [hl]
  simp
set_option maxHeartbeats 6400000 in
set_option maxRecDepth 100000 in
theorem stops10_row (w : World) (mk : Bool) (A : Option Addr) (ls : List ByteArray) (c : Nat) (hr : Rd w A (ls.flatMap fun x => [.string x])) (hg : ∀ x ∈ ls, x.size ≤ maxLen) (hlc : ls.length ≤ c) (hcc : c ≤ maxLen) (x : Int) (hx : (Lit.int .u8 x).wf = true) :
    Calls Try.prog 6 #[.bool mk, .slice A ls.length c, .int .u8 x] w fun e w' => e = .returned (.bool true) ∧ Touch NoS w w' := by
  obtain ⟨hx0, hx1⟩ := u8_bounds hx
  have HR := Lib.hid hr
  have HG := Lib.hid hg
  obtain ⟨n, hn⟩ : ∃ n, n = ls.length := ⟨_, rfl⟩
  rw [← hn] at hlc ⊢
  have HN := Lib.hid hn.symm
  have hnm : n ≤ maxLen := by omega
  have HNM := Lib.hid hnm
  have h112 := and112 x hx0 hx1
  obtain ⟨y, hy⟩ : ∃ y, y = bits .and .u8 x 112 := ⟨_, rfl⟩
  rw [← hy] at h112
  have hyy := hy.symm
  have HY := Lib.hid h112
  clear hr hg hn hcc hnm hx hy h112
  go_enter Try.func6, Try.ntmps6
  go_wp2_with fail
  refine (st_new mk 300 (by omega) (by omega) _).mono ?_
  rintro e w1 ⟨rfl, hs, ht⟩
  have HS1 := Lib.hid hs
  have HT1 := Lib.hid ht
  clear hs ht
  go_wp2_with fail
  refine (aw10 _).mono ?_
  rintro e w2 ⟨rfl, ht⟩
  have HS2 := Lib.hid (HS1.out.no ht)
  have HT2 := Lib.hid (HT1.out.trans ht)
  clear ht HS1 HT1
  go_wp2_with fail
  refine (r10_few A ls n c HN.out w2 (HR.out.touch_no HT2.out) HNM.out HG.out).mono ?_
  rintro e w3 ⟨rfl, rfl⟩
  obtain ⟨fw, hfw⟩ : ∃ fw, fw = few ls := ⟨_, rfl⟩
  rw [← hfw]
  have HFW := Lib.hid hfw
  clear hfw
  cases fw with
  | false =>
    go_wp2_with fail
    refine (aw10 _).mono ?_
    rintro e w3 ⟨rfl, ht⟩
    have HT3 := Lib.hid (HT2.out.trans ht)
    clear ht
    go_wp2
    go_ret
    exact ⟨rfl, HT3.out⟩
  | true =>
    by_cases hy0 : y = 0
    · subst hy0
      go_wp2_with fail
      refine (aw10 _).mono ?_
      rintro e w3 ⟨rfl, ht⟩
      have HT3 := Lib.hid (HT2.out.trans ht)
      clear ht
      go_wp2
      go_ret
      exact ⟨rfl, HT3.out⟩
    have hyb : (y == 0) = false := by rw [beq_eq_false_iff_ne]; exact hy0
    have hxb : x / 16 % 8 ≠ 0 := by have := HY.out; omega
    have HSC := Lib.hid (scan_one_bad mk 300 x hxb)
    have hfew := of_decide_eq_true HFW.out.symm
    obtain ⟨h300, h40⟩ := hfew
    rw [HN.out] at h40
    have H300 := Lib.hid h300
    have hws : w.heap.size ≤ w2.heap.size := HT2.out.size
    have HXB : Hid (bytesIn ([] ++ [x])) := by intro z hz; simp at hz; subst hz; exact ⟨hx0, hx1⟩
    have HW3 : Hid ((Lit.int .i64 300).wf = true) := wf_i64 (by omega) (by omega)
    clear h300 hy0 hxb
    go_wp2_with fail
    refine (st_feed (HS2.out.no ((Touch.refl _ _).alloc _)) HW3.out (by simp; omega) [x] (some ⟨w2.heap.size, 0, none⟩) 1 1 rfl (Rd.new w2 (u8s [x]) 5 (0, 0)) HXB.out (by simp) _ _ _ HSC.out).mono ?_
    rintro e w3 ⟨A3, c3, rfl, _, hs, ht⟩
    have HS3 := Lib.hid hs
    have HT3 := Lib.hid (SF_old (HT2.out.alloc _) ht (Nat.le_refl _) (Nat.le_refl _))
    clear hs ht HS2 HT2 hws
    go_wp2_with fail
    refine (st_err HS3.out).mono ?_
    rintro e w3' ⟨rfl, rfl⟩
    go_wp2_with fail
    go_loopw [10] (fun iv wr => ∃ k : Nat, k ≤ n ∧ iv = .int .i64 k ∧ IsSt wr w.heap.size w.heap.size mk 300 [] 91 ∧ Touch NoS w wr) (fun iv _ => n - (intOf iv).toNat)
    case atStart => exact ⟨0, by omega, rfl, HS3.out, HT3.out⟩
    case round =>
      obtain ⟨k, hk, rfl, hs, ht⟩ := hrel
      have HS := Lib.hid hs
      have HT := Lib.hid ht
      by_cases hlt : k < n
      · have hk1 : k < ls.length := by rw [HN.out]; exact hlt
        obtain ⟨gA, off, rfl, hgA, c0⟩ := str_at (HR.out.touch_no ht) k hk1
        have h3 := H300.out ls[k] (List.getElem_mem hk1)
        obtain ⟨s, hsd⟩ : ∃ s, s = ls[k] := ⟨_, rfl⟩
        rw [← hsd] at c0 h3
        clear hs ht hsd HS3 HT3
        obtain ⟨w4, cp, hconv, ht, hrd, hcp, hcm, h23⟩ := conv_ex wr s (by unfold maxLen; omega)
        have HS4 := Lib.hid (HS.out.no ht)
        have HT4 := Lib.hid (HT.out.trans ht)
        clear hrd hcp hcm h23 ht hk1
        go_wp2_with fail
        refine (st_feed_err HS4.out (by omega) _ _ _).mono ?_
        rintro e w5 ⟨rfl, hs5, ht5⟩
        have HS5 := Lib.hid hs5
        have HT5 := Lib.hid (HT4.out.trans ht5)
        clear hs5 ht5 HS4 HT4
        go_wp2_with fail
        refine (st_err HS5.out).mono ?_
        rintro e w5' ⟨rfl, rfl⟩
        go_wp2_with fail
        refine (st_part HS5.out 0 rfl).mono ?_
        rintro e w5' ⟨rfl, rfl⟩
        go_wp2_with fail
        go_roundw
        · exact ⟨k + 1, by omega, by go_num, HS5.out, HT5.out⟩
        · simp [intOf]; omega
      · have hkn : k = n := by omega
        subst hkn
        clear hs ht HS3 HT3
        go_wp2
        go_ret
        exact ⟨rfl, HT.out⟩
end Go.Proofs.Ytfafpcmdgjmlhaa
