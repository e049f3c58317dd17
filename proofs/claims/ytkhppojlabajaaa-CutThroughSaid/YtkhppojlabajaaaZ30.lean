/- law13: CutJoins: the walk. -/
import Derived.Test.YtkhppojlabajaaaZ28
import Derived.Test.YtkhppojlabajaaaZ29
/- law13: CutJoins: the walk. -/
namespace Go.Proofs.Ytkhppojlabajaaa
open Go.RowKit
set_option linter.unusedSimpArgs false
set_option linter.unusedVariables false

theorem k_join_any (A : Option Addr) (l : List Fr) (n c : Nat) (hn : l.length = n) (hz : ∀ f ∈ l, f.data.size ≤ 100000) (hl : n ≤ 1000) : ∃ (o : Int) (s : ByteArray) (b : Bool),
    (∀ A c w, Rd w A (frs l) → Calls Try.prog 23 #[.slice A n c] w fun e w' => e = .returned (.tuple #[.int .i64 o, .string s, .bool b]) ∧ Touch NoS w w') ∧
    (∀ A c w, Rd w A (frs l) → Calls Try.prog 24 #[.slice A n c] w fun e w' => e = .returned (.tuple #[.int .i64 o, .string s, .bool b]) ∧ Touch NoS w w') := by
  by_cases hj : joins l
  · refine ⟨jop l, dstr l, true, fun A c w hr => (k_join A l n c hn w hr hz hl).mono ?_, fun A c w hr => (r13_join A l n c hn w hr hz hl).mono ?_⟩
    all_goals
      rintro e w' ⟨h | h, ht⟩
      · exact ⟨h.2, ht⟩
      · exact absurd hj h.1
  · refine ⟨0, ⟨#[]⟩, false, fun A c w hr => (k_join A l n c hn w hr hz hl).mono ?_, fun A c w hr => (r13_join A l n c hn w hr hz hl).mono ?_⟩
    all_goals
      rintro e w' ⟨h | h, ht⟩
      · exact absurd h.1 hj
      · exact ⟨h.2, ht⟩
theorem k_bytes_any (A : Option Addr) (l : List Fr) (n c : Nat) (hn : l.length = n) (w : World) (hr : Rd w A (frs l)) (hf : ∀ f ∈ l, f.good) (hl : n ≤ 1000) (X : ByteArray) (hX : X = if err13 l = 0 then Go.strOfNums (puts l) else ⟨#[]⟩) :
    Calls Try.prog 25 #[.slice A n c] w fun e w' => ∃ A' n' c' bs, e = .returned (.tuple #[.slice A' n' c', .int .i64 (err13 l)]) ∧ bs.length = n' ∧ Rd w' A' (u8s bs) ∧ Go.strOfNums bs = X ∧ Touch NoS w w' :=
  (k_bytes A l n c hn w hr hf hl).mono fun e w' ⟨hj, ht⟩ => by
    rcases hj with ⟨h, v, rfl, ho⟩ | ⟨h, rfl⟩
    · obtain ⟨A', c', rfl, _, _, hrd, _, _⟩ := own_cases ho
      rw [if_pos h] at hX
      rw [h]
      exact ⟨A', _, c', puts l, rfl, rfl, hrd, hX.symm, ht⟩
    · rw [if_neg h] at hX
      exact ⟨none, 0, 0, [], rfl, rfl, fun h => absurd rfl h, by rw [hX]; rfl, ht⟩

set_option maxHeartbeats 12800000 in
set_option maxRecDepth 100000 in
theorem joins13_row (w : World) (A : Option Addr) (ls : List Fr) (c : Nat) (hr : Rd w A (ls.flatMap Fr.cl)) (hg : ∀ x ∈ ls, x.good) (hlc : ls.length ≤ c) (hcc : c ≤ maxLen)
    (B : Option Addr) (ds : List Int) (cb : Nat) (hd : Rd w B (ds.flatMap fun x => [.int .u32 x])) (hdg : ∀ x ∈ ds, (Lit.int .u32 x).wf = true) (hdc : ds.length ≤ cb) (hdm : cb ≤ maxLen) :
    Calls Try.prog 4 #[.slice A ls.length c, .slice B ds.length cb] w fun e w' => e = .returned (.bool true) ∧ Touch NoS w w' := by
  have hr : Rd w A (frs ls) := hr
  have HR := Lib.hid hr
  have HG := Lib.hid hg
  have HD := Lib.hid hd
  have HDW : Hid (∀ x ∈ ds, 0 ≤ x ∧ x ≤ 4294967295) := fun x hx => by
    obtain ⟨h1, h2⟩ := (Lit.wf_int_iff .u32 x).1 (hdg x hx)
    rw [show IntKind.u32.min = 0 from rfl] at h1
    rw [show IntKind.u32.max = 4294967295 from rfl] at h2
    exact ⟨h1, h2⟩
  obtain ⟨n, hn⟩ : ∃ n, n = ls.length := ⟨_, rfl⟩
  rw [← hn] at hlc ⊢
  have HN := Lib.hid hn.symm
  obtain ⟨q, hq⟩ : ∃ n, n = ds.length := ⟨_, rfl⟩
  rw [← hq] at hdc ⊢
  have HQ := Lib.hid hq.symm
  have hnm : n ≤ maxLen := by omega
  have HNM := Lib.hid hnm
  unfold maxLen at hdm hcc
  clear hr hg hn hnm hd hdg hq
  go_enter Try.func4, Try.ntmps4
  go_wp2_with fail
  refine (aw13 _).mono ?_
  rintro e w1 ⟨rfl, ht⟩
  have HT1 := Lib.hid ht
  clear ht
  go_wp2_with fail
  refine (r12_few A ls n c HN.out w1 (HR.out.touch_no HT1.out) HNM.out HG.out).mono ?_
  rintro e w2 ⟨rfl, rfl⟩
  obtain ⟨fw, hfw⟩ : ∃ fw, fw = few12 ls := ⟨_, rfl⟩
  rw [← hfw]
  have HFW := Lib.hid hfw
  clear hfw
  cases fw with
  | false =>
    go_wp2_with fail
    refine (aw13 _).mono ?_
    rintro e w3 ⟨rfl, ht⟩
    have HT3 := Lib.hid (HT1.out.trans ht)
    clear ht
    go_wp2
    go_ret
    exact ⟨rfl, HT3.out⟩
  | true =>
    by_cases hq50 : 50 < q
    · go_wp2_with fail
      refine (aw13 _).mono ?_
      rintro e w3 ⟨rfl, ht⟩
      have HT3 := Lib.hid (HT1.out.trans ht)
      clear ht
      go_wp2
      go_ret
      exact ⟨rfl, HT3.out⟩
    have hq50' : q ≤ 50 := by omega
    have hfew := of_decide_eq_true HFW.out.symm
    obtain ⟨h300, h30⟩ := hfew
    rw [HN.out] at h30
    have HZ : Hid (∀ f ∈ ls, f.data.size ≤ 100000) := fun f hf => by have := h300 f hf; omega
    have HZ2 : Hid (∀ f ∈ ls, f.data.size ≤ 1000000) := fun f hf => by have := h300 f hf; omega
    have hws : w.heap.size ≤ w1.heap.size := HT1.out.size
    obtain ⟨i, hi, hz0, hz1, hz2⟩ := info_parts info_fr
    obtain ⟨jo, js, jb, hJ1, hJ2⟩ := k_join_any A ls n c HN.out HZ.out (by omega)
    obtain ⟨X, hX⟩ : ∃ X, X = if err13 ls = 0 then Go.strOfNums (puts ls) else ⟨#[]⟩ := ⟨_, rfl⟩
    obtain ⟨er, her⟩ : ∃ er, er = err13 ls := ⟨_, rfl⟩
    have HB1 := Lib.hid (fun A c w hr => k_bytes_any A ls n c HN.out w hr HG.out (by omega) X hX)
    have HB2 := Lib.hid (fun A c w hr => r13_bytes A ls n c HN.out w hr HG.out HZ2.out (by omega))
    rw [← hX, ← her] at HB2
    rw [← her] at HB1
    have HJ1 := Lib.hid hJ1
    have HJ2 := Lib.hid hJ2
    have b1 : (jo != jo) = false := bne_self_eq_false _
    have b2 : (js.toList != js.toList) = false := bne_self_eq_false _
    have b2' : (js.toList == js.toList) = true := beq_self_eq_true _
    have b3 : (jb != jb) = false := bne_self_eq_false _
    have b4 : (X.toList != X.toList) = false := bne_self_eq_false _
    have b4' : (X.toList == X.toList) = true := beq_self_eq_true _
    have b5 : (er != er) = false := bne_self_eq_false _
    clear h300 hX her hJ1 hJ2 hq50
    go_wp2_with (at_builtin; refine wpList_app_row _ rfl (.tmp 34) (.tmp 35) 23 rfl w1.heap.size 44 i _ 8 40 Try.underlying23 hi hz0 hz1 hz2 rfl (by decide) _ 0 [] rfl (own_empty (Nat.le_refl _) _ _) A n c (frs ls) rfl (by rw [frs_length, HN.out]) ((HR.out.touch_no HT1.out).touch_no ((Touch.refl _ _).alloc _)) (frs_one ls) (by unfold maxLen; omega) (by omega) (by simp) ?_)
    intro v3 w3 ho3 hgr _
    obtain ⟨A3, c3, rfl, _, _, hrd, _, _⟩ := own_cases ho3
    have HR3 := Lib.hid hrd
    have HT3 := Lib.hid (HT1.out.trans (((Touch.refl _ _).alloc (.cells #[] 44)).grown hgr (fun q hq hl => absurd (own_base (own_empty (Nat.le_refl _) 44 8) hq) (by omega))))
    clear ho3 hgr hrd HT1
    go_wp2_with fail
    refine (HJ1.out A3 c3 _ HR3.out).mono ?_
    rintro e w4 ⟨rfl, ht⟩
    have HT4 := Lib.hid (HT3.out.trans ht)
    clear ht HT3 HR3
    go_wp2_with fail
    refine (HJ2.out A c _ (HR.out.touch_no HT4.out)).mono ?_
    rintro e w5 ⟨rfl, ht⟩
    have HT5 := Lib.hid (HT4.out.trans ht)
    clear ht HT4
    go_wp2_with (at_builtin; refine wpList_app_row _ rfl (.tmp 48) (.tmp 49) 23 rfl w5.heap.size 44 i _ 8 40 Try.underlying23 hi hz0 hz1 hz2 rfl (by decide) _ 0 [] rfl (own_empty (Nat.le_refl _) _ _) A n c (frs ls) rfl (by rw [frs_length, HN.out]) ((HR.out.touch_no HT5.out).touch_no ((Touch.refl _ _).alloc _)) (frs_one ls) (by unfold maxLen; omega) (by omega) (by simp) ?_)
    intro v6 w6 ho6 hgr _
    obtain ⟨A6, c6, rfl, _, _, hrd, _, _⟩ := own_cases ho6
    have HR6 := Lib.hid hrd
    have HT6 := Lib.hid (HT5.out.trans (((Touch.refl _ _).alloc (.cells #[] 44)).grown hgr (fun q hq hl => absurd (own_base (own_empty (Nat.le_refl _) 44 8) hq) (by omega))))
    clear ho6 hgr hrd HT5
    go_wp2_with fail
    refine (HB1.out A6 c6 _ HR6.out).mono ?_
    rintro e w7 ⟨A7, n7, c7, bs, rfl, hbs, hrb, hsx, ht⟩
    have HT7 := Lib.hid (HT6.out.trans ht)
    have HRB := Lib.hid hrb
    have HBS := Lib.hid hbs
    have HSX := Lib.hid hsx
    clear ht HT6 HR6 hrb hbs hsx
    go_wp2_with fail
    refine (HB2.out A c _ (HR.out.touch_no HT7.out)).mono ?_
    rintro e w8 ⟨rfl, ht⟩
    have HT8 := Lib.hid (HT7.out.trans ht)
    have HRB8 := Lib.hid (HRB.out.touch_no ht)
    clear ht HT7 HRB
    go_wp2_with (at_builtin; refine wpList_app_row _ rfl (.tmp 60) (.tmp 61) 23 rfl w8.heap.size 44 i _ 8 40 Try.underlying23 hi hz0 hz1 hz2 rfl (by decide) _ 0 [] rfl (own_empty (Nat.le_refl _) _ _) A n c (frs ls) rfl (by rw [frs_length, HN.out]) ((HR.out.touch_no HT8.out).touch_no ((Touch.refl _ _).alloc _)) (frs_one ls) (by unfold maxLen; omega) (by omega) (by simp) ?_)
    intro v9 w9 ho9 hgr _
    obtain ⟨A9, c9, rfl, _, _, hrd, _, _⟩ := own_cases ho9
    have HR9 := Lib.hid hrd
    have ht9 : Touch NoS w8 w9 := ((Touch.refl _ _).alloc (.cells #[] 44)).grown hgr (fun q hq hl => absurd (own_base (own_empty (Nat.le_refl _) 44 8) hq) (by omega))
    have HRB9 := Lib.hid (HRB8.out.touch_no ht9)
    have HT9 := Lib.hid (HT8.out.trans ht9)
    clear ho9 hgr hrd HT8 ht9 HRB8
    by_cases hqn : q < n
    · go_wp2_with fail
      refine (k_masked_no A9 n c9 B q cb hqn _).mono ?_
      rintro e w10 ⟨rfl, rfl⟩
      have cv := conv_str w9 A7 bs n7 c7 HBS.out HRB9.out
      rw [HSX.out] at cv
      go_wp2
      go_ret
      exact ⟨rfl, HT9.out⟩
    · have hqn' : n ≤ q := by omega
      go_wp2_with fail
      refine (k_masked A9 ls n c9 HN.out B ds q cb HQ.out hqn' _ HR9.out (HD.out.touch_no HT9.out) HDW.out (by omega) (by unfold maxLen; omega)).mono ?_
      rintro e w10 ⟨v10, rfl, ho, ht⟩
      obtain ⟨A10, c10, rfl, _, _, hrd, _, _⟩ := own_cases ho
      have HRM := Lib.hid hrd
      have HT10 := Lib.hid (HT9.out.trans ht)
      have hrb := HRB9.out.touch_no ht
      have cv := conv_str w10 A7 bs n7 c7 HBS.out hrb
      rw [HSX.out] at cv
      clear ho ht hrd hrb HT9 HR9 HRB9
      go_wp2_with fail
      clear cv
      go_loopw [17] (fun iv wr => ∃ k : Nat, k ≤ n ∧ iv = .int .i64 k ∧ Touch NoS w10 wr) (fun iv _ => n - (intOf iv).toNat)
      case atStart => exact ⟨0, by omega, rfl, Touch.refl _ _⟩
      case round =>
        obtain ⟨k, hk, rfl, ht⟩ := hrel
        have HTR := Lib.hid (HT10.out.trans ht)
        by_cases hlt : k < n
        · have hk1 : k < ls.length := by rw [HN.out]; exact hlt
          have hkd : k < ds.length := by rw [HQ.out]; omega
          have hkm : k < (maskAll ls ds).length := by rw [maskAll_length ls ds (by rw [HN.out, HQ.out]; exact hqn'), HN.out]; exact hlt
          obtain ⟨gA, oA, rfl, hgA, a0, a1, a2, a3, a4, a5, a6, a7⟩ := fr_cells (HR.out.touch_no HTR.out) k hk1
          obtain ⟨gM, oM, rfl, hgM, c0, c1, c2, c3, c4, c5, c6, c7⟩ := fr_cells (HRM.out.touch_no ht) k hkm
          obtain ⟨gB, oB, rfl, hgB, d0⟩ := u32_at (HD.out.touch_no HTR.out) k hkd
          obtain ⟨hx0, hx1⟩ := HDW.out ds[k] (List.getElem_mem hkd)
          have hmk : (maskAll ls ds)[k] = mask1 ls[k] ds[k] := by simp [maskAll]
          rw [hmk] at c0 c1 c2 c3 c4 c5 c6 c7
          obtain ⟨x, hx⟩ : ∃ x, x = ds[k] := ⟨_, rfl⟩
          obtain ⟨f, hf⟩ : ∃ f, f = ls[k] := ⟨_, rfl⟩
          rw [← hf] at a0 a1 a2 a3 a4 a5 a6 a7 c0 c1 c2 c3 c4 c5 c6 c7
          rw [← hx] at d0 c0 c1 c2 c3 c4 c5 c6 c7 hx0 hx1
          have hneq := neq_fr_all (mask1 f x) (mask1 f x) true (Fr.same_self _)
          obtain ⟨fin, op, masked, k0, k1, k2, k3, d⟩ := f
          simp only [mask1] at *
          have ht' := Lib.hid ht
          clear ht hk1 hkd hkm hmk hx hf
          go_wp2_with fail
          go_quiet (fail)
          go_wp2_with fail
          go_roundw
          · exact ⟨k + 1, by omega, by go_num, ((ht'.out.alloc _).drewN _)⟩
          · simp [intOf]; omega
        · have hkn : k = n := by omega
          subst hkn
          clear ht
          go_wp2
          go_ret
          exact ⟨rfl, HTR.out⟩
end Go.Proofs.Ytkhppojlabajaaa
