/- law12: MsgOrder: the walk. -/
import Derived.Test.YtkhppojlabajaaaGh
namespace Go.Proofs.Ytkhppojlabajaaa
open Go.RowKit
set_option linter.unusedSimpArgs false
set_option linter.unusedVariables false

theorem mt_order0 (most : Int) (u : Uc) (fin : Bool) (d : ByteArray) : mtake ⟨most, 0, ⟨#[]⟩, u, false, 0⟩ ⟨fin, 0, false, 0, 0, 0, 0, d⟩ = (⟨most, 0, ⟨#[]⟩, u, false, 120⟩, Ev.zero, false, 120) := by
  rw [mt_data rfl rfl (.inl rfl) (.inr rfl)]
  unfold mdata
  rw [if_pos rfl, if_pos rfl]
  rfl
theorem mt_order1 (most : Int) (p : ByteArray) (u : Uc) (fin : Bool) (op : Int) (h : op = 1 ∨ op = 2) (d : ByteArray) : mtake ⟨most, 2, p, u, false, 0⟩ ⟨fin, op, false, 0, 0, 0, 0, d⟩ = (⟨most, 0, ⟨#[]⟩, u, false, 120⟩, Ev.zero, false, 120) := by
  rw [mt_data rfl rfl (.inr h) (.inr rfl)]
  unfold mdata
  rw [if_neg (show ¬ (op = 0) by omega), if_neg (show ¬ ((2 : Int) = 0) by omega)]
  rfl
set_option maxHeartbeats 6400000 in
set_option maxRecDepth 100000 in
theorem order12_row (w : World) (a : ByteArray) (ha : a.size ≤ maxLen) (b : ByteArray) (hb : b.size ≤ maxLen) (t : Bool) :
    Calls Try.prog 15 #[.string a, .string b, .bool t] w fun e w' => e = .returned (.bool true) ∧ Touch NoS w w' := by
  unfold maxLen at ha hb
  go_enter Try.func15, Try.ntmps15
  go_wp2_with fail
  refine (m_new 300 (by omega) (by omega) _).mono ?_
  rintro e w1 ⟨g, cu, rfl, hg, hcu, hm, ht⟩
  have HM1 := Lib.hid hm
  have HT1 := Lib.hid ht
  clear hm ht
  go_wp2_with fail
  refine (m_new 300 (by omega) (by omega) _).mono ?_
  rintro e w2 ⟨g', cu', rfl, hg', hcu', hm, ht⟩
  have HN2 := Lib.hid hm
  have HM2 := Lib.hid (HM1.out.no ht)
  have HT2 := Lib.hid (HT1.out.trans ht)
  have hgg : g ≠ g' := by have := HM1.out.lt; omega
  have hcc : cu ≠ cu' := by have := HM1.out.lt; omega
  have hbb := HT1.out.size
  clear hm ht HM1 HT1
  go_wp2_with fail
  refine (aw12 _).mono ?_
  rintro e w3 ⟨rfl, ht⟩
  have HN3 := Lib.hid (HN2.out.no ht)
  have HM3 := Lib.hid (HM2.out.no ht)
  have HT3 := Lib.hid (HT2.out.trans ht)
  clear ht HM2 HT2 HN2
  by_cases h1 : 100 < a.size
  · go_wp2_with fail
    refine (aw12 _).mono ?_
    rintro e w4 ⟨rfl, ht⟩
    have HT4 := Lib.hid (HT3.out.trans ht)
    clear ht
    go_wp2
    go_ret
    exact ⟨rfl, HT4.out⟩
  have h1' : a.size ≤ 100 := by omega
  by_cases h2 : 100 < b.size
  · go_wp2_with fail
    refine (aw12 _).mono ?_
    rintro e w4 ⟨rfl, ht⟩
    have HT4 := Lib.hid (HT3.out.trans ht)
    clear ht
    go_wp2
    go_ret
    exact ⟨rfl, HT4.out⟩
  have h2' : b.size ≤ 100 := by omega
  have hgd := Mc.new_good 300 (by omega) (by omega)
  have HGD := Lib.hid hgd
  have HK := Lib.hid (mt_order0 300 Uc.new t a)
  have hk2 := mt_begin 300 Uc.new false a
  rw [if_neg (by omega), if_pos rfl] at hk2
  have HK2 := Lib.hid hk2
  clear h1 h2 hgd hk2
  go_wp2_with fail
  refine (im_take HM3.out HGD.out ⟨t, 0, false, 0, 0, 0, 0, a⟩ (fr_good _ _ (by omega) _ (by unfold maxLen; omega)) (by show a.size ≤ _; omega) HT3.out.size _ _ _ _ HK.out).mono ?_
  rintro e w4 ⟨rfl, ⟨v4, hm, hl⟩, ht, _⟩
  have HM4 := Lib.hid hm
  have HN4 := Lib.hid (MO_other HM3.out HN3.out ht hgg hcc (fun b h => by cases h))
  have HT4 := Lib.hid (MO_old HT3.out HM3.out ht (Nat.le_refl _) hg hcu)
  clear hm ht hl HM3 HT3 HN3
  simp only [Ev.zero]
  go_wp2_with fail
  obtain ⟨w5, hw5⟩ : ∃ w5, w5 = w4.alloc (.cells #[.int .i64 0, .int .i64 0, .string ⟨#[]⟩] 57) := ⟨_, rfl⟩
  have HM5 := Lib.hid (HM4.out.no ((Touch.refl NoS w4).alloc (.cells #[.int .i64 0, .int .i64 0, .string ⟨#[]⟩] 57)))
  have HN5 := Lib.hid (HN4.out.no ((Touch.refl NoS w4).alloc (.cells #[.int .i64 0, .int .i64 0, .string ⟨#[]⟩] 57)))
  have HT5 := Lib.hid (HT4.out.alloc (.cells #[.int .i64 0, .int .i64 0, .string ⟨#[]⟩] 57))
  rw [← hw5] at HM5 HN5 HT5 ⊢
  clear hw5 HM4 HN4 HT4
  have hs5 := HT5.out.size
  refine (im_take (HN5.out.lower hbb) HGD.out ⟨false, 2, false, 0, 0, 0, 0, a⟩ (fr_good _ _ (by omega) _ (by unfold maxLen; omega)) (by show a.size ≤ _; omega) hs5 _ _ _ _ HK2.out).mono ?_
  rintro e w6 ⟨rfl, ⟨v6, hm, hl⟩, ht, hgd⟩
  have HN6 := Lib.hid hm
  have HGN := Lib.hid hgd
  have HM6 := Lib.hid (MO_other (HN5.out.lower hbb) HM5.out ht hgg.symm hcc.symm (fun b h h' => by cases h'))
  have HV6 : Hid (∀ b, v4.ownBlock = some b → v6.ownBlock ≠ some b) := Loc.apart (w1 := w) hl (fun b _ h => by cases h) (fun b h => (HM5.out.row_lt h).2)
  have HT6 := Lib.hid (MO_old HT5.out (HN5.out.lower hbb) ht (Nat.le_refl _) (by omega) (by omega))
  clear hm ht hl hgd HM5 HT5 HN5
  have HK3 := Lib.hid (fun op h => mt_order1 300 a Uc.new true op h b)
  simp only [Ev.zero]
  cases t with
  | false =>
    go_wp2_with fail
    obtain ⟨w7, hw7⟩ : ∃ w7, w7 = w6.alloc (.cells #[.int .i64 0, .int .i64 0, .string ⟨#[]⟩] 57) := ⟨_, rfl⟩
    have HM7 := Lib.hid (HM6.out.no ((Touch.refl NoS w6).alloc (.cells #[.int .i64 0, .int .i64 0, .string ⟨#[]⟩] 57)))
    have HN7 := Lib.hid (HN6.out.no ((Touch.refl NoS w6).alloc (.cells #[.int .i64 0, .int .i64 0, .string ⟨#[]⟩] 57)))
    have HT7 := Lib.hid (HT6.out.alloc (.cells #[.int .i64 0, .int .i64 0, .string ⟨#[]⟩] 57))
    rw [← hw7] at HM7 HN7 HT7 ⊢
    clear hw7 HM6 HN6 HT6
    have hs7 := HT7.out.size
    refine (im_take HN7.out HGN.out ⟨true, 2, false, 0, 0, 0, 0, b⟩ (fr_good _ _ (by omega) _ (by unfold maxLen; omega)) (by show b.size ≤ _; omega) hs7 _ _ _ _ (HK3.out 2 (.inr rfl))).mono ?_
    rintro e w8 ⟨rfl, ⟨v8, hm, hl⟩, ht, hgd⟩
    have HN8 := Lib.hid (hm.no ((Touch.refl NoS _).alloc (.cells #[.int .i64 0, .int .i64 0, .string ⟨#[]⟩] 57)))
    have HM8 := Lib.hid ((MO_other HN7.out HM7.out ht hgg.symm hcc.symm HV6.out).no ((Touch.refl NoS _).alloc (.cells #[.int .i64 0, .int .i64 0, .string ⟨#[]⟩] 57)))
    have HT8 := Lib.hid ((MO_old HT7.out HN7.out ht (Nat.le_refl _) (by omega) (by omega)).alloc (.cells #[.int .i64 0, .int .i64 0, .string ⟨#[]⟩] 57))
    clear hm ht hl hgd HM7 HT7 HN7
    simp only [Ev.zero]
    go_wp2_with fail
    refine (im_part HM8.out 0 rfl).mono ?_
    rintro e w9 ⟨rfl, rfl⟩
    go_wp2_with fail
    refine (im_part HN8.out 0 rfl).mono ?_
    rintro e w9 ⟨rfl, rfl⟩
    go_wp2_with fail
    refine (im_err HN8.out).mono ?_
    rintro e w9 ⟨rfl, rfl⟩
    go_wp2
    go_ret
    exact ⟨rfl, HT8.out⟩
  | true =>
    go_wp2_with fail
    obtain ⟨w7, hw7⟩ : ∃ w7, w7 = w6.alloc (.cells #[.int .i64 0, .int .i64 0, .string ⟨#[]⟩] 57) := ⟨_, rfl⟩
    have HM7 := Lib.hid (HM6.out.no ((Touch.refl NoS w6).alloc (.cells #[.int .i64 0, .int .i64 0, .string ⟨#[]⟩] 57)))
    have HN7 := Lib.hid (HN6.out.no ((Touch.refl NoS w6).alloc (.cells #[.int .i64 0, .int .i64 0, .string ⟨#[]⟩] 57)))
    have HT7 := Lib.hid (HT6.out.alloc (.cells #[.int .i64 0, .int .i64 0, .string ⟨#[]⟩] 57))
    rw [← hw7] at HM7 HN7 HT7 ⊢
    clear hw7 HM6 HN6 HT6
    have hs7 := HT7.out.size
    refine (im_take HN7.out HGN.out ⟨true, 1, false, 0, 0, 0, 0, b⟩ (fr_good _ _ (by omega) _ (by unfold maxLen; omega)) (by show b.size ≤ _; omega) hs7 _ _ _ _ (HK3.out 1 (.inl rfl))).mono ?_
    rintro e w8 ⟨rfl, ⟨v8, hm, hl⟩, ht, hgd⟩
    have HN8 := Lib.hid (hm.no ((Touch.refl NoS _).alloc (.cells #[.int .i64 0, .int .i64 0, .string ⟨#[]⟩] 57)))
    have HM8 := Lib.hid ((MO_other HN7.out HM7.out ht hgg.symm hcc.symm HV6.out).no ((Touch.refl NoS _).alloc (.cells #[.int .i64 0, .int .i64 0, .string ⟨#[]⟩] 57)))
    have HT8 := Lib.hid ((MO_old HT7.out HN7.out ht (Nat.le_refl _) (by omega) (by omega)).alloc (.cells #[.int .i64 0, .int .i64 0, .string ⟨#[]⟩] 57))
    clear hm ht hl hgd HM7 HT7 HN7
    simp only [Ev.zero]
    go_wp2_with fail
    refine (im_part HM8.out 0 rfl).mono ?_
    rintro e w9 ⟨rfl, rfl⟩
    go_wp2_with fail
    refine (im_part HN8.out 0 rfl).mono ?_
    rintro e w9 ⟨rfl, rfl⟩
    go_wp2_with fail
    refine (im_err HN8.out).mono ?_
    rintro e w9 ⟨rfl, rfl⟩
    go_wp2
    go_ret
    exact ⟨rfl, HT8.out⟩
end Go.Proofs.Ytkhppojlabajaaa
