/- law09: FrameBack, FrameSoon: the walks. -/
import Derived.Test.YtfafpcmdgjmlhaaRa
namespace Go.Proofs.Ytfafpcmdgjmlhaa
open Go.RowKit
set_option linter.unusedSimpArgs false
set_option linter.unusedVariables false

theorem eql_fr_all (f g : Fr) (b : Bool) (hb : f.same g = b) : ∀ W, (binOp .eql 43 (.agg #[.bool f.fin, .int .i64 f.op, .bool f.masked, .int .u8 f.k0, .int .u8 f.k1, .int .u8 f.k2, .int .u8 f.k3, .string f.data]) (.agg #[.bool g.fin, .int .i64 g.op, .bool g.masked, .int .u8 g.k0, .int .u8 g.k1, .int .u8 g.k2, .int .u8 g.k3, .string g.data])).run Try.prog W = .ok (.bool b) W :=
  fun W => by have := eql_fr W f g; rw [hb] at this; exact this
theorem neq_fr_all (f g : Fr) (b : Bool) (hb : f.same g = b) : ∀ W, (binOp .neq 43 (.agg #[.bool f.fin, .int .i64 f.op, .bool f.masked, .int .u8 f.k0, .int .u8 f.k1, .int .u8 f.k2, .int .u8 f.k3, .string f.data]) (.agg #[.bool g.fin, .int .i64 g.op, .bool g.masked, .int .u8 g.k0, .int .u8 g.k1, .int .u8 g.k2, .int .u8 g.k3, .string g.data])).run Try.prog W = .ok (.bool (!b)) W :=
  fun W => by have := neq_fr W f g; rw [hb] at this; exact this

set_option maxHeartbeats 3200000 in
set_option maxRecDepth 100000 in
theorem back_row (w : World) (s : ByteArray) (hs : s.size ≤ maxLen) : Calls Try.prog 18 #[.string s] w fun e w' => e = .returned (.bool true) ∧ Touch NoS w w' := by
  have HS := Lib.hid hs
  unfold maxLen at hs
  go_enter Try.func18, Try.ntmps18
  go_wp2_with fail
  refine (aw9 _).mono ?_
  rintro e w1 ⟨rfl, ht⟩
  have HT := Lib.hid ht
  clear ht
  by_cases h5 : 500 < s.size
  · go_wp2_with fail
    refine (aw9 _).mono ?_
    rintro e w2 ⟨rfl, ht⟩
    have HT2 := Lib.hid (HT.out.trans ht)
    clear ht
    go_wp2
    go_ret
    exact ⟨rfl, HT2.out⟩
  have h5' : s.size ≤ 500 := by omega
  obtain ⟨w2, cp, hconv, ht, hrd, hcp, hcm, h23⟩ := conv_ex w1 s HS.out
  have HT2 := Lib.hid (HT.out.trans ht)
  have HR := Lib.hid hrd
  have HCP := Lib.hid hcp
  have HCM := Lib.hid hcm
  clear ht hrd hcp hcm
  go_wp2_with fail
  refine (f_get _ (sb s) s.size cp (sb_length s) 65536 (wf_i64 (by omega) (by omega)) _ HR.out (sb_in s) HCP.out HCM.out (by omega)).mono ?_
  rintro e w3 ⟨rfl, ht⟩
  have HT3 := Lib.hid (HT2.out.trans ht)
  clear ht
  obtain ⟨f, n, er, hG⟩ : ∃ f n er, fget (sb s) 65536 = (f, n, er) := ⟨_, _, _, rfl⟩
  have hno := fget_no (sb_in s) (most := 65536)
  have hok := fun h => fget_ok (sb_in s) (by rw [sb_length]; exact HS.out) (most := 65536) (f := f) (n := n) h
  rw [hG] at hno hok ⊢
  simp only at hno ⊢
  by_cases he : er = 0
  · subst he
    obtain ⟨o1, o2, o3, o4, o5⟩ := hok rfl
    have hck : check9 f = 0 := by unfold check9; rw [if_pos o2, if_neg (by omega)]
    have hput := fun W => f_put f o1 hck W
    have HP := Lib.hid hput
    have hl : (fput f).length = n := by rw [o5, List.length_take]; omega
    have HL := Lib.hid hl
    have H5 := Lib.hid o5
    rw [sb_length] at o4
    clear hput hno hok hG hl o5 o1 o2 o3 hck
    obtain ⟨fin, op, masked, k0, k1, k2, k3, d⟩ := f
    simp only [Fr.cs] at *
    go_wp2_with fail
    refine (HP.out _).mono ?_
    rintro e w4 ⟨v, rfl, ho, ht⟩
    obtain ⟨A, c, rfl, hlc, hcm, hrd, _, _⟩ := own_cases ho
    have HT4 := Lib.hid ((HT3.out.alloc (.cells #[.bool fin, .int .i64 op, .bool masked, .int .u8 k0, .int .u8 k1, .int .u8 k2, .int .u8 k3, .string d] 43)).trans ht)
    have hcv := fun N => conv_str (w4.drewN N) A _ _ c rfl (hrd.touch_no ((Touch.refl _ _).drewN N))
    have hcv2 : Go.strOfNums (fput ⟨fin, op, masked, k0, k1, k2, k3, d⟩) = s.extract 0 n := by
      apply sb_inj
      rw [sb_extract, H5.out, sb_nums _ ((sb_in s).take _), List.drop_zero]
    simp only [hcv2] at hcv
    have i1 : (0 : Int) ≤ n := by omega
    have i2 : (n : Int) ≤ s.size := by omega
    clear ht ho hrd hlc hcv2
    go_wp2_with fail
    go_quiet (fail)
    go_wp2
    go_ret
    exact ⟨rfl, HT4.out.drewN _⟩
  · obtain ⟨rfl, rfl⟩ := hno he
    have heq := eql_fr_all Fr.zero Fr.zero true (Fr.same_self _)
    simp only [Fr.zero] at heq
    simp only [Fr.zero, Fr.cs]
    have he' : (er != 0) = true := by rw [bne_iff_ne]; exact he
    clear hok hno hG he
    go_wp2
    go_ret
    exact ⟨rfl, HT3.out.alloc _⟩

/-- What was known one byte ago. -/
def soonS (l : List Int) (most : Int) (k : Nat) : Fr × Nat × Int := if k = 0 then (Fr.zero, 0, 90) else fget (l.take (k - 1)) most
theorem soon_fact {l : List Int} (hb : bytesIn l) (hl : l.length ≤ maxLen) (most : Int) (k : Nat) (hk : k ≤ l.length) :
    ((soonS l most k).2.2 ≠ 90 → fget (l.take k) most = soonS l most k) ∧ ((fget (l.take k) most).2.2 = 0 → 2 ≤ (fget (l.take k) most).2.1 ∧ (fget (l.take k) most).2.1 ≤ k) ∧ ((fget (l.take k) most).2.2 ≠ 0 → (fget (l.take k) most).2.1 = 0) := by
  refine ⟨fun h => ?_, fun h => ?_, fun h => (fget_no (hb.take k) h).2⟩
  · unfold soonS at h ⊢
    by_cases h0 : k = 0
    · rw [if_pos h0] at h; exact absurd rfl h
    · rw [if_neg h0] at h ⊢
      have e : l.take k = l.take (k - 1) ++ [l[k - 1]] := by
        have := List.take_add_one (l := l) (i := k - 1)
        rw [show k - 1 + 1 = k from by omega, List.getElem?_eq_getElem (by omega)] at this
        exact this
      have hbk := hb.take k
      rw [e] at hbk ⊢
      exact fget_mono hbk most h
  · have := fget_ok (hb.take k) (by rw [List.length_take]; omega) (most := most) (f := (fget (l.take k) most).1) (n := (fget (l.take k) most).2.1) (by rw [← h])
    obtain ⟨_, _, _, h4, h5⟩ := this
    have h6 := congrArg List.length h5
    rw [fput_length, List.length_take] at h6
    rw [List.length_take] at h4 h6
    unfold size9 at h6
    omega
set_option maxHeartbeats 3200000 in
set_option maxRecDepth 100000 in
theorem soon_row (w : World) (s : ByteArray) (hs : s.size ≤ maxLen) (most : Int) (hm : (Lit.int .i64 most).wf = true) : Calls Try.prog 17 #[.string s, .int .i64 most] w fun e w' => e = .returned (.bool true) ∧ Touch NoS w w' := by
  have HS := Lib.hid hs
  have HM := Lib.hid hm
  unfold maxLen at hs
  clear hm
  go_enter Try.func17, Try.ntmps17
  go_wp2_with fail
  refine (aw9 _).mono ?_
  rintro e w1 ⟨rfl, ht⟩
  have HT := Lib.hid ht
  clear ht
  by_cases h5 : 300 < s.size
  · go_wp2_with fail
    refine (aw9 _).mono ?_
    rintro e w2 ⟨rfl, ht⟩
    have HT2 := Lib.hid (HT.out.trans ht)
    clear ht
    go_wp2
    go_ret
    exact ⟨rfl, HT2.out⟩
  have h5' : s.size ≤ 300 := by omega
  have h5'' : decide ((300 : Int) < s.size) = false := decide_eq_false (by omega)
  clear h5
  go_wp2_with fail
  go_loopw [7, 5, 6] (fun i a b wr => ∃ k : Nat, k ≤ s.size + 1 ∧ i = .int .i64 k ∧ a = .int .i64 (soonS (sb s) most k).2.2 ∧ b = .int .i64 (soonS (sb s) most k).2.1 ∧ Touch NoS w wr) (fun i _ _ _ => s.size + 1 - (intOf i).toNat)
  case atStart => exact ⟨0, by omega, rfl, rfl, rfl, HT.out⟩
  case round =>
    obtain ⟨k, hk, rfl, rfl, rfl, ht⟩ := hrel
    have HTr := Lib.hid ht
    clear ht HT
    by_cases hlt : k ≤ s.size
    · obtain ⟨f1, f2, f3⟩ := soon_fact (sb_in s) (by rw [sb_length]; exact HS.out) most k (by rw [sb_length]; exact hlt)
      have hnext : soonS (sb s) most (k + 1) = fget ((sb s).take k) most := by unfold soonS; rw [if_neg (by omega), Nat.add_sub_cancel]
      have hsb : sb (s.extract 0 k) = (sb s).take k := by rw [sb_extract, List.drop_zero]
      have hsz : (s.extract 0 k).size = k := by simp; omega
      obtain ⟨x, hx⟩ : ∃ x, x = s.extract 0 k := ⟨_, rfl⟩
      rw [← hx] at hsb hsz
      obtain ⟨w2, cp, hconv, ht, hrd, hcp, hcm, h23⟩ := conv_ex wr x (by unfold maxLen; omega)
      rw [hsz] at hconv hcp
      have HT2 := Lib.hid (HTr.out.trans ht)
      have HR := Lib.hid hrd
      have HCP := Lib.hid hcp
      have HCM := Lib.hid hcm
      obtain ⟨sf, su, sw, hS⟩ : ∃ sf su sw, soonS (sb s) most k = (sf, su, sw) := ⟨_, _, _, rfl⟩
      obtain ⟨f, n, er, hG⟩ : ∃ f n er, fget ((sb s).take k) most = (f, n, er) := ⟨_, _, _, rfl⟩
      rw [hS, hG] at f1
      rw [hG] at f2 f3 hnext
      rw [hS]
      simp only at f1 f2 f3 ⊢
      have HN := Lib.hid hnext
      have HX := Lib.hid hx
      have HG := Lib.hid hG
      have HSB := Lib.hid hsb
      have HSZ := Lib.hid hsz
      have i1 : (0 : Int) ≤ k := by omega
      have i2 : (k : Int) ≤ s.size := by omega
      rw [hx] at hconv
      clear ht hrd hcp hcm hS hG hnext hx hsb hsz
      go_wp2_with fail
      refine (f_get _ ((sb s).take k) k cp (by rw [← HSB.out, sb_length, HSZ.out]) most HM.out _ (by rw [← HSB.out]; exact HR.out) ((sb_in s).take k) HCP.out HCM.out (by omega)).mono ?_
      rintro e w3 ⟨rfl, ht⟩
      have HT3 := Lib.hid (HT2.out.trans ht)
      rw [HG.out]
      obtain ⟨fin, op, masked, k0, k1, k2, k3, d⟩ := f
      simp only [Fr.cs]
      clear ht hconv
      by_cases hw : sw = 90
      · subst hw
        clear f1
        by_cases he : er = 0
        · subst he
          obtain ⟨a1, a2⟩ := f2 rfl
          clear f2 f3
          go_wp2_with fail
          go_roundw
          · exact ⟨k + 1, by omega, by go_num, by rw [HN.out], by rw [HN.out], HT3.out.alloc _⟩
          · simp [intOf]; omega
        · obtain rfl := f3 he
          have he1 : (er == 0) = false := by rw [beq_eq_false_iff_ne]; exact he
          have he2 : (er != 0) = true := by rw [bne_iff_ne]; exact he
          clear f2 f3 he
          go_wp2_with fail
          go_roundw
          · exact ⟨k + 1, by omega, by go_num, by rw [HN.out], by rw [HN.out]; rfl, HT3.out.alloc _⟩
          · simp [intOf]; omega
      · have hw1 : (sw != 90) = true := by rw [bne_iff_ne]; exact hw
        have hq := f1 hw
        injection hq with q1 q2
        injection q2 with q2 q3
        subst q2 q3
        clear f1 hw q1
        by_cases he : er = 0
        · subst he
          obtain ⟨a1, a2⟩ := f2 rfl
          clear f2 f3
          go_wp2_with fail
          go_roundw
          · exact ⟨k + 1, by omega, by go_num, by rw [HN.out], by rw [HN.out], HT3.out.alloc _⟩
          · simp [intOf]; omega
        · obtain rfl := f3 he
          have he1 : (er == 0) = false := by rw [beq_eq_false_iff_ne]; exact he
          have he2 : (er != 0) = true := by rw [bne_iff_ne]; exact he
          clear f2 f3 he
          go_wp2_with fail
          go_roundw
          · exact ⟨k + 1, by omega, by go_num, by rw [HN.out], by rw [HN.out]; rfl, HT3.out.alloc _⟩
          · simp [intOf]; omega
    · have hkl : k = s.size + 1 := by omega
      subst hkl
      go_wp2
      go_ret
      exact ⟨rfl, HTr.out⟩
end Go.Proofs.Ytfafpcmdgjmlhaa
