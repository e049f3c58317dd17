/- law11: the walks. -/
import Derived.Test.YtfafpcmdgjmlhaaCe
namespace Go.Proofs.Ytfafpcmdgjmlhaa
open Go.RowKit
set_option linter.unusedSimpArgs false
set_option linter.unusedVariables false

theorem cput_le (n : Int) (s : ByteArray) : (cput n s).1.size ≤ 125 := by
  by_cases h : (cput n s).2 = 0
  · rcases cput_size h with ⟨_, h⟩ | ⟨_, _, h, _⟩
    · rw [h]; decide
    · exact h
  · rw [cput_no h]; decide
theorem cget_le (s : ByteArray) : (cget s).2.1.size ≤ 125 := by
  unfold cget
  split
  · decide
  split
  · decide
  split
  · decide
  split
  · decide
  · rename_i h _ _
    show (s.extract 2 s.size).size ≤ 125
    simp
    omega
theorem across_zero (c : Int) : across11 c = 0 ↔ c = 1005 := by
  unfold across11
  constructor
  · intro h
    by_cases hc : c = 1005
    · exact hc
    · rw [if_neg hc] at h
      split at h
      · rename_i hv
        have := valid11_le hv
        omega
      · omega
  · intro h; rw [if_pos h]
theorem across_valid {c : Int} (h : c ≠ 1005) : valid11 (across11 c) = true := by
  unfold across11
  rw [if_neg h]
  split
  · assumption
  · decide

set_option maxHeartbeats 3200000 in
set_option maxRecDepth 100000 in
theorem puts11_row (w : World) (n : Int) (hn : (Lit.int .i64 n).wf = true) (s : ByteArray) (hs : s.size ≤ maxLen) : Calls Try.prog 9 #[.int .i64 n, .string s] w fun e w' => e = .returned (.bool true) ∧ Touch NoS w w' := by
  have H1 := Lib.hid (fun W => c_put n s hs W)
  have H2 := Lib.hid (fun W => r11_put n s hs W)
  have hle := cput_le n s
  have hgp := cget_put n s
  obtain ⟨R, hR⟩ : ∃ R, R = cput n s := ⟨_, rfl⟩
  rw [← hR] at H1 H2 hle hgp
  obtain ⟨D, er⟩ := R
  simp only at H1 H2 hle hgp
  have H3 := Lib.hid (fun W => c_get D (by unfold maxLen; omega) W)
  have HGP := Lib.hid hgp
  have H4 := Lib.hid (fun W => c_valid n W)
  have H5 := Lib.hid (fun W => r11_valid n W)
  obtain ⟨b, hb⟩ : ∃ b, b = valid11 n := ⟨_, rfl⟩
  rw [← hb] at H4 H5
  unfold maxLen at hs
  clear hR hn hb hgp
  go_enter Try.func9, Try.ntmps9
  go_wp2_with fail
  refine (aw11 _).mono ?_
  rintro e w1 ⟨rfl, ht⟩
  have HT1 := Lib.hid ht
  clear ht
  by_cases hb : 300 < s.size
  · go_wp2_with fail
    refine (aw11 _).mono ?_
    rintro e w2 ⟨rfl, ht⟩
    have HT2 := Lib.hid (HT1.out.trans ht)
    clear ht
    go_wp2
    go_ret
    exact ⟨rfl, HT2.out⟩
  have hb' : s.size ≤ 300 := by omega
  clear hb
  go_wp2_with fail
  refine (H1.out _).mono ?_
  rintro e w2 ⟨rfl, ht⟩
  have HT2 := Lib.hid (HT1.out.trans ht)
  clear ht
  go_wp2_with fail
  refine (H2.out _).mono ?_
  rintro e w3 ⟨rfl, ht⟩
  have HT3 := Lib.hid (HT2.out.trans ht)
  clear ht
  go_wp2_with fail
  refine (H4.out _).mono ?_
  rintro e w4 ⟨rfl, ht⟩
  have HT4 := Lib.hid (HT3.out.trans ht)
  clear ht
  go_wp2_with fail
  refine (H5.out _).mono ?_
  rintro e wq ⟨rfl, rfl⟩
  by_cases her : er = 0
  · subst her
    by_cases h0 : n = 0
    · subst h0
      go_wp2
      go_ret
      exact ⟨rfl, HT4.out⟩
    · have hq : (n == 0) = false := by rw [beq_eq_false_iff_ne]; exact h0
      have hg := HGP.out rfl
      rw [if_neg h0] at hg
      have HG := Lib.hid hg
      clear hg
      go_wp2_with fail
      refine (H3.out _).mono ?_
      rintro e w5 ⟨rfl, ht⟩
      rw [HG.out]
      have HT5 := Lib.hid (HT4.out.trans ht)
      clear ht
      go_wp2
      go_ret
      exact ⟨rfl, HT5.out⟩
  · have hq : (er != 0) = true := by rw [bne_iff_ne]; exact her
    have hq2 : (er == 0) = false := by rw [beq_eq_false_iff_ne]; exact her
    go_wp2
    go_ret
    exact ⟨rfl, HT4.out⟩

set_option maxHeartbeats 3200000 in
set_option maxRecDepth 100000 in
theorem gets11_row (w : World) (s : ByteArray) (hs : s.size ≤ maxLen) : Calls Try.prog 10 #[.string s] w fun e w' => e = .returned (.bool true) ∧ Touch NoS w w' := by
  have H1 := Lib.hid (fun W => c_get s hs W)
  have H2 := Lib.hid (fun W => r11_get s hs W)
  have hle := cget_le s
  have hgp := cput_get s
  obtain ⟨R, hR⟩ : ∃ R, R = cget s := ⟨_, rfl⟩
  rw [← hR] at H1 H2 hle hgp
  obtain ⟨n, D, er⟩ := R
  simp only at H1 H2 hle hgp
  have HGP := Lib.hid hgp
  have H3 := Lib.hid (fun W => c_across n W)
  obtain ⟨c, hc⟩ : ∃ c, c = across11 n := ⟨_, rfl⟩
  rw [← hc] at H3 HGP
  have H4 := Lib.hid (fun W => c_put c D (by unfold maxLen; omega) W)
  unfold maxLen at hs
  clear hR hc hgp
  go_enter Try.func10, Try.ntmps10
  go_wp2_with fail
  refine (aw11 _).mono ?_
  rintro e w1 ⟨rfl, ht⟩
  have HT1 := Lib.hid ht
  clear ht
  by_cases hb : 300 < s.size
  · go_wp2_with fail
    refine (aw11 _).mono ?_
    rintro e w2 ⟨rfl, ht⟩
    have HT2 := Lib.hid (HT1.out.trans ht)
    clear ht
    go_wp2
    go_ret
    exact ⟨rfl, HT2.out⟩
  have hb' : s.size ≤ 300 := by omega
  clear hb
  go_wp2_with fail
  refine (H1.out _).mono ?_
  rintro e w2 ⟨rfl, ht⟩
  have HT2 := Lib.hid (HT1.out.trans ht)
  clear ht
  go_wp2_with fail
  refine (H2.out _).mono ?_
  rintro e w3 ⟨rfl, ht⟩
  have HT3 := Lib.hid (HT2.out.trans ht)
  clear ht
  go_wp2_with fail
  refine (H3.out _).mono ?_
  rintro e w4 ⟨rfl, ht⟩
  have HT4 := Lib.hid (HT3.out.trans ht)
  clear ht
  go_wp2_with fail
  refine (H4.out _).mono ?_
  rintro e w5 ⟨rfl, ht⟩
  have HT5 := Lib.hid (HT4.out.trans ht)
  clear ht
  by_cases her : er = 0
  · have hg := HGP.out her
    subst her
    rw [hg]
    clear hg
    go_wp2
    go_ret
    exact ⟨rfl, HT5.out⟩
  · have hq : (er != 0) = true := by rw [bne_iff_ne]; exact her
    have hq2 : (er == 0) = false := by rw [beq_eq_false_iff_ne]; exact her
    generalize cput c D = z
    obtain ⟨z1, z2⟩ := z
    go_wp2
    go_ret
    exact ⟨rfl, HT5.out⟩

set_option maxHeartbeats 3200000 in
set_option maxRecDepth 100000 in
theorem codes11_row (w : World) (x : Int) (hx : (Lit.int .i64 x).wf = true) (c : Int) (hc : (Lit.int .i64 c).wf = true) : Calls Try.prog 11 #[.int .i64 x, .int .i64 c] w fun e w' => e = .returned (.bool true) ∧ Touch NoS w w' := by
  have H1 := Lib.hid (fun W => c_code x W)
  have H2 := Lib.hid (fun W => r11_code x W)
  have H3 := Lib.hid (fun W => c_across c W)
  have H4 := Lib.hid (fun W => r11_across c W)
  have hva := code11_valid x
  have hz := across_zero c
  have hvb := across_valid (c := c)
  obtain ⟨a, ha⟩ : ∃ a, a = code11 x := ⟨_, rfl⟩
  obtain ⟨b, hb⟩ : ∃ b, b = across11 c := ⟨_, rfl⟩
  rw [← ha] at H1 H2 hva
  rw [← hb] at H3 H4 hz hvb
  have H5 := Lib.hid (fun W => c_valid a W)
  rw [hva] at H5
  have H6 := Lib.hid (fun W => c_across a W)
  rw [across_self hva] at H6
  have H7 := Lib.hid (fun W => c_valid b W)
  clear hx hc ha hb hva
  by_cases h5 : c = 1005
  · obtain rfl := hz.2 h5
    subst h5
    clear hz hvb
    go_enter Try.func11, Try.ntmps11
    go_wp2_with fail
    refine (H1.out _).mono ?_
    rintro e w2 ⟨rfl, ht⟩
    have HT2 := Lib.hid ht
    clear ht
    go_wp2_with fail
    refine (H3.out _).mono ?_
    rintro e w3 ⟨rfl, ht⟩
    have HT3 := Lib.hid (HT2.out.trans ht)
    clear ht
    go_wp2_with fail
    refine (aw11 _).mono ?_
    rintro e w4 ⟨rfl, ht⟩
    have HT4 := Lib.hid (HT3.out.trans ht)
    clear ht
    go_wp2_with fail
    refine (H2.out _).mono ?_
    rintro e wq ⟨rfl, rfl⟩
    go_wp2_with fail
    refine (H4.out _).mono ?_
    rintro e wq ⟨rfl, rfl⟩
    go_wp2_with fail
    refine (H5.out _).mono ?_
    rintro e w5 ⟨rfl, ht⟩
    have HT5 := Lib.hid (HT4.out.trans ht)
    clear ht
    go_wp2_with fail
    refine (H6.out _).mono ?_
    rintro e w6 ⟨rfl, ht⟩
    have HT6 := Lib.hid (HT5.out.trans ht)
    clear ht
    go_wp2
    go_ret
    exact ⟨rfl, HT6.out⟩
  · have hb0 : ¬ b = 0 := fun h => h5 (hz.1 h)
    rw [hvb h5] at H7
    have hq : (c == 1005) = false := by rw [beq_eq_false_iff_ne]; exact h5
    have hq2 : (b == 0) = false := by rw [beq_eq_false_iff_ne]; exact hb0
    clear hz hvb
    go_enter Try.func11, Try.ntmps11
    go_wp2_with fail
    refine (H1.out _).mono ?_
    rintro e w2 ⟨rfl, ht⟩
    have HT2 := Lib.hid ht
    clear ht
    go_wp2_with fail
    refine (H3.out _).mono ?_
    rintro e w3 ⟨rfl, ht⟩
    have HT3 := Lib.hid (HT2.out.trans ht)
    clear ht
    go_wp2_with fail
    refine (aw11 _).mono ?_
    rintro e w4 ⟨rfl, ht⟩
    have HT4 := Lib.hid (HT3.out.trans ht)
    clear ht
    go_wp2_with fail
    refine (H2.out _).mono ?_
    rintro e wq ⟨rfl, rfl⟩
    go_wp2_with fail
    refine (H4.out _).mono ?_
    rintro e wq ⟨rfl, rfl⟩
    go_wp2_with fail
    refine (H5.out _).mono ?_
    rintro e w5 ⟨rfl, ht⟩
    have HT5 := Lib.hid (HT4.out.trans ht)
    clear ht
    go_wp2_with fail
    refine (H7.out _).mono ?_
    rintro e w6 ⟨rfl, ht⟩
    have HT6 := Lib.hid (HT5.out.trans ht)
    clear ht
    go_wp2_with fail
    refine (H6.out _).mono ?_
    rintro e w7 ⟨rfl, ht⟩
    have HT7 := Lib.hid (HT6.out.trans ht)
    clear ht
    go_wp2
    go_ret
    exact ⟨rfl, HT7.out⟩

set_option maxHeartbeats 3200000 in
set_option maxRecDepth 100000 in
theorem apart11_row (w : World) (a : Int) (ha : (Lit.int .i64 a).wf = true) (b : Int) (hb : (Lit.int .i64 b).wf = true) (v : ByteArray) (hv : v.size ≤ maxLen) (u : ByteArray) (hu : u.size ≤ maxLen) : Calls Try.prog 12 #[.int .i64 a, .int .i64 b, .string v, .string u] w fun e w' => e = .returned (.bool true) ∧ Touch NoS w w' := by
  have H1 := Lib.hid (fun W => c_put a v hv W)
  have H2 := Lib.hid (fun W => c_put b u hu W)
  have hap := fun h1 h2 => cput_apart (a := a) (b := b) (v := v) (w := u) h1 h2
  obtain ⟨R, hR⟩ : ∃ R, R = cput a v := ⟨_, rfl⟩
  obtain ⟨S, hS⟩ : ∃ S, S = cput b u := ⟨_, rfl⟩
  rw [← hR] at H1 hap
  rw [← hS] at H2 hap
  obtain ⟨D, er⟩ := R
  obtain ⟨E, es⟩ := S
  simp only at H1 H2 hap
  have HAP := Lib.hid hap
  unfold maxLen at hv hu
  clear hR hS ha hb hap
  go_enter Try.func12, Try.ntmps12
  go_wp2_with fail
  refine (aw11 _).mono ?_
  rintro e w1 ⟨rfl, ht⟩
  have HT1 := Lib.hid ht
  clear ht
  by_cases hbv : 130 < v.size
  · go_wp2_with fail
    refine (aw11 _).mono ?_
    rintro e w2 ⟨rfl, ht⟩
    have HT2 := Lib.hid (HT1.out.trans ht)
    clear ht
    go_wp2
    go_ret
    exact ⟨rfl, HT2.out⟩
  have hbv' : v.size ≤ 130 := by omega
  clear hbv
  by_cases hbu : 130 < u.size
  · go_wp2_with fail
    refine (aw11 _).mono ?_
    rintro e w2 ⟨rfl, ht⟩
    have HT2 := Lib.hid (HT1.out.trans ht)
    clear ht
    go_wp2
    go_ret
    exact ⟨rfl, HT2.out⟩
  have hbu' : u.size ≤ 130 := by omega
  clear hbu
  go_wp2_with fail
  refine (H1.out _).mono ?_
  rintro e w2 ⟨rfl, ht⟩
  have HT2 := Lib.hid (HT1.out.trans ht)
  clear ht
  go_wp2_with fail
  refine (H2.out _).mono ?_
  rintro e w3 ⟨rfl, ht⟩
  have HT3 := Lib.hid (HT2.out.trans ht)
  clear ht
  by_cases her : er = 0
  · subst her
    by_cases hes : es = 0
    · subst hes
      have hap := HAP.out rfl rfl
      by_cases hde : D = E
      · obtain ⟨rfl, rfl⟩ := hap.1 hde
        subst hde
        clear hap
        go_wp2
        go_ret
        exact ⟨rfl, HT3.out⟩
      · have q1 : (D.toList == E.toList) = false := by rw [str_eq]; exact decide_eq_false hde
        by_cases hab : a = b
        · subst hab
          have q2 : (v.toList == u.toList) = false := by rw [str_eq]; exact decide_eq_false (fun h => hde (hap.2 ⟨rfl, h⟩))
          clear hap hde
          go_wp2
          go_ret
          exact ⟨rfl, HT3.out⟩
        · have q2 : (a == b) = false := by rw [beq_eq_false_iff_ne]; exact hab
          clear hap hde
          go_wp2
          go_ret
          exact ⟨rfl, HT3.out⟩
    · have hq : (es != 0) = true := by rw [bne_iff_ne]; exact hes
      go_wp2
      go_ret
      exact ⟨rfl, HT3.out⟩
  · have hq : (er != 0) = true := by rw [bne_iff_ne]; exact her
    go_wp2
    go_ret
    exact ⟨rfl, HT3.out⟩

set_option maxHeartbeats 3200000 in
set_option maxRecDepth 100000 in
theorem sizes11_row (w : World) (n : Int) (hn : (Lit.int .i64 n).wf = true) (s : ByteArray) (hs : s.size ≤ maxLen) : Calls Try.prog 13 #[.int .i64 n, .string s] w fun e w' => e = .returned (.bool true) ∧ Touch NoS w w' := by
  have H1 := Lib.hid (fun W => c_put n s hs W)
  have hno := cput_no (n := n) (s := s)
  have hyes := cput_size (n := n) (s := s)
  obtain ⟨R, hR⟩ : ∃ R, R = cput n s := ⟨_, rfl⟩
  rw [← hR] at H1 hno hyes
  obtain ⟨D, er⟩ := R
  simp only at H1 hno hyes
  have HN := Lib.hid hno
  have HY := Lib.hid hyes
  unfold maxLen at hs
  clear hR hn hno hyes
  go_enter Try.func13, Try.ntmps13
  go_wp2_with fail
  refine (aw11 _).mono ?_
  rintro e w1 ⟨rfl, ht⟩
  have HT1 := Lib.hid ht
  clear ht
  by_cases hb : 300 < s.size
  · go_wp2_with fail
    refine (aw11 _).mono ?_
    rintro e w2 ⟨rfl, ht⟩
    have HT2 := Lib.hid (HT1.out.trans ht)
    clear ht
    go_wp2
    go_ret
    exact ⟨rfl, HT2.out⟩
  have hb' : s.size ≤ 300 := by omega
  clear hb
  go_wp2_with fail
  refine (H1.out _).mono ?_
  rintro e w2 ⟨rfl, ht⟩
  have HT2 := Lib.hid (HT1.out.trans ht)
  clear ht
  by_cases her : er = 0
  · subst her
    rcases HY.out rfl with ⟨rfl, rfl⟩ | ⟨h0, h1, h2, h3⟩
    · clear HY HN H1
      go_wp2
      go_ret
      exact ⟨rfl, HT2.out⟩
    · have hq : (n == 0) = false := by rw [beq_eq_false_iff_ne]; exact h0
      have hq1 : (D.size : Int) = 2 + s.size := by omega
      have hq2 : (D.size : Int) ≤ 125 := by omega
      have hq3 : (2 : Int) ≤ D.size := by omega
      clear h1
      go_wp2
      go_ret
      exact ⟨rfl, HT2.out⟩
  · obtain rfl := HN.out her
    have hq : (er != 0) = true := by rw [bne_iff_ne]; exact her
    go_wp2
    go_ret
    exact ⟨rfl, HT2.out⟩

theorem nums_nil (l : List Int) : Go.strOfNums l ++ (⟨#[]⟩ : ByteArray) = Go.strOfNums l := by
  apply ByteArray.ext
  simp

set_option maxHeartbeats 3200000 in
set_option maxRecDepth 100000 in
theorem every11_row (w : World) (c : Int) (hc : (Lit.int .u16 c).wf = true) : Calls Try.prog 14 #[.int .u16 c] w fun e w' => e = .returned (.bool true) ∧ Touch NoS w w' := by
  obtain ⟨h0, h1⟩ := (Lit.wf_int_iff .u16 c).1 hc
  rw [show IntKind.u16.min = 0 from rfl] at h0
  rw [show IntKind.u16.max = 65535 from rfl] at h1
  have hg := cget_two c h0 h1 ⟨#[]⟩ (by decide)
  rw [nums_nil, lets_nil, if_neg (show ¬ (true = false) by simp)] at hg
  have hz : (Go.strOfNums [c / 256, c % 256]).size = 2 := by rw [numsB_size]; rfl
  have H1 := Lib.hid (fun W => c_get (Go.strOfNums [c / 256, c % 256]) (by unfold maxLen; omega) W)
  rw [hg] at H1
  have H2 := Lib.hid (fun W => c_valid c W)
  have hw : IntKind.u16.wrap (c.tdiv 256) = c / 256 := by rw [Int.tdiv_eq_ediv_of_nonneg h0, IntWalk.u16_in _ (by omega)]
  have hm : c / 256 % 256 = c / 256 := by omega
  have hcv := fun (w : World) (a b : Int) (t : TypeId) (cap : Nat) => conv_two w a b t (0, 0) cap
  have H3 := Lib.hid (fun h => across_self (n := c) h)
  have H4 := Lib.hid (fun W => c_across c W)
  clear hc hg hz
  cases hv : valid11 c with
  | true =>
    rw [hv] at H2
    rw [if_neg (by rw [hv]; simp)] at H1
    rw [H3.out hv] at H4
    simp only at H1
    clear hv
    go_enter Try.func14, Try.ntmps14
    go_wp2_with fail
    refine (H1.out _).mono ?_
    rintro e w2 ⟨rfl, ht⟩
    have HT2 : Hid (Touch NoS w w2) := ((Touch.refl _ w).alloc _).trans ht
    clear ht
    go_wp2_with fail
    refine (H2.out _).mono ?_
    rintro e w3 ⟨rfl, ht⟩
    have HT3 := Lib.hid (HT2.out.trans ht)
    clear ht
    go_wp2_with fail
    refine (aw11 _).mono ?_
    rintro e w4 ⟨rfl, ht⟩
    have HT4 := Lib.hid (HT3.out.trans ht)
    clear ht
    go_wp2_with fail
    refine (H4.out _).mono ?_
    rintro e w5 ⟨rfl, ht⟩
    have HT5 := Lib.hid (HT4.out.trans ht)
    clear ht
    go_wp2
    go_ret
    exact ⟨rfl, HT5.out⟩
  | false =>
    rw [hv] at H2
    rw [if_pos hv] at H1
    simp only at H1
    clear hv
    go_enter Try.func14, Try.ntmps14
    go_wp2_with fail
    refine (H1.out _).mono ?_
    rintro e w2 ⟨rfl, ht⟩
    have HT2 : Hid (Touch NoS w w2) := ((Touch.refl _ w).alloc _).trans ht
    clear ht
    go_wp2_with fail
    refine (H2.out _).mono ?_
    rintro e w3 ⟨rfl, ht⟩
    have HT3 := Lib.hid (HT2.out.trans ht)
    clear ht
    go_wp2_with fail
    refine (aw11 _).mono ?_
    rintro e w4 ⟨rfl, ht⟩
    have HT4 := Lib.hid (HT3.out.trans ht)
    clear ht
    go_wp2
    go_ret
    exact ⟨rfl, HT4.out⟩
end Go.Proofs.Ytfafpcmdgjmlhaa
