/- law12: MsgBound: the walk. -/
import Derived.Test.YtkhppojlabajaaaGh
namespace Go.Proofs.Ytkhppojlabajaaa
open Go.RowKit
set_option linter.unusedSimpArgs false
set_option linter.unusedVariables false

set_option maxHeartbeats 6400000 in
set_option maxRecDepth 100000 in
theorem bound12_row (w : World) (x : Int) (hx : (Lit.int .u8 x).wf = true) (a : ByteArray) (ha : a.size ≤ maxLen) (b : ByteArray) (hb : b.size ≤ maxLen) :
    Calls Try.prog 13 #[.int .u8 x, .string a, .string b] w fun e w' => e = .returned (.bool true) ∧ Touch NoS w w' := by
  obtain ⟨hx0, hx1⟩ := u8_bounds hx
  clear hx
  unfold maxLen at ha hb
  have hw1 : IntKind.i64.wrap x = x := IntWalk.i64_in _ (by omega)
  have hw2 : IntKind.i64.wrap (1 + x) = 1 + x := IntWalk.i64_in _ (by omega)
  go_enter Try.func13, Try.ntmps13
  go_wp2_with fail
  refine (m_new (1 + x) (by omega) (by omega) _).mono ?_
  rintro e w1 ⟨g, cu, rfl, hg, hcu, hm, ht⟩
  have HM1 := Lib.hid hm
  have HT1 := Lib.hid ht
  clear hm ht
  go_wp2_with fail
  refine (aw12 _).mono ?_
  rintro e w2 ⟨rfl, ht⟩
  have HM2 := Lib.hid (HM1.out.no ht)
  have HT2 := Lib.hid (HT1.out.trans ht)
  clear ht HM1 HT1
  by_cases h1 : 300 < a.size
  · go_wp2_with fail
    refine (aw12 _).mono ?_
    rintro e w3 ⟨rfl, ht⟩
    have HT3 := Lib.hid (HT2.out.trans ht)
    clear ht
    go_wp2
    go_ret
    exact ⟨rfl, HT3.out⟩
  have h1' : a.size ≤ 300 := by omega
  by_cases h2 : 300 < b.size
  · go_wp2_with fail
    refine (aw12 _).mono ?_
    rintro e w3 ⟨rfl, ht⟩
    have HT3 := Lib.hid (HT2.out.trans ht)
    clear ht
    go_wp2
    go_ret
    exact ⟨rfl, HT3.out⟩
  have h2' : b.size ≤ 300 := by omega
  have hgd := Mc.new_good (1 + x) (by omega) (by omega)
  have HGD := Lib.hid hgd
  clear h1 h2 hgd
  by_cases hbig : 1 + x < a.size
  · have hk := mt_begin (1 + x) Uc.new false a
    rw [if_pos hbig] at hk
    have HK := Lib.hid hk
    clear hk
    go_wp2_with fail
    refine (im_take HM2.out HGD.out ⟨false, 2, false, 0, 0, 0, 0, a⟩ (fr_good _ _ (by omega) _ (by unfold maxLen; omega)) (by show a.size ≤ _; omega) HT2.out.size _ _ _ _ HK.out).mono ?_
    rintro e w3 ⟨rfl, ⟨v3, hm, _⟩, ht, hgd⟩
    have HM3 := Lib.hid hm
    have HT3 := Lib.hid (MO_old HT2.out HM2.out ht (Nat.le_refl _) hg hcu)
    clear hm ht hgd HM2 HT2
    simp only [Ev.zero]
    go_wp2_with fail
    refine (im_part (HM3.out.no ((Touch.refl _ _).alloc _)) 0 rfl).mono ?_
    rintro e w4 ⟨rfl, hw4⟩
    have HT4 : Hid (Touch NoS w w4) := by rw [← hw4]; exact HT3.out.alloc _
    clear hw4
    go_wp2
    go_ret
    exact ⟨rfl, HT4.out⟩
  · have hk := mt_begin (1 + x) Uc.new false a
    rw [if_neg hbig, if_pos rfl] at hk
    have HK := Lib.hid hk
    have hbig' : (a.size : Int) ≤ 1 + x := by omega
    have hsz : ((a.size : Int) != (a.size : Int)) = false := bne_self_eq_false _
    clear hk
    go_wp2_with fail
    refine (im_take HM2.out HGD.out ⟨false, 2, false, 0, 0, 0, 0, a⟩ (fr_good _ _ (by omega) _ (by unfold maxLen; omega)) (by show a.size ≤ _; omega) HT2.out.size _ _ _ _ HK.out).mono ?_
    rintro e w3 ⟨rfl, ⟨v3, hm, _⟩, ht, hgd⟩
    have HM3 := Lib.hid hm
    have HG3 := Lib.hid hgd
    have HT3 := Lib.hid (MO_old HT2.out HM2.out ht (Nat.le_refl _) hg hcu)
    clear hm ht hgd HM2 HT2
    simp only [Ev.zero]
    go_wp2_with fail
    refine (im_part (HM3.out.no ((Touch.refl _ _).alloc _)) a.size rfl).mono ?_
    rintro e w4 ⟨rfl, hw4⟩
    have HT4 : Hid (Touch NoS w w4) := by rw [← hw4]; exact HT3.out.alloc _
    have HM4 : Hid (IsMv w4 w.heap.size g cu ⟨1 + x, 2, a, Uc.new, false, 0⟩ v3) := by rw [← hw4]; exact HM3.out.no ((Touch.refl _ _).alloc _)
    clear hw4 HM3 HT3
    by_cases hb2 : 1 + x < a.size + b.size
    · have hk := mt_more (1 + x) a Uc.new true b
      rw [if_pos hb2] at hk
      have HK2 := Lib.hid hk
      clear hk
      go_wp2_with fail
      refine (im_take HM4.out HG3.out ⟨true, 0, false, 0, 0, 0, 0, b⟩ (fr_good _ _ (by omega) _ (by unfold maxLen; omega)) (by show b.size ≤ _; omega) HT4.out.size _ _ _ _ HK2.out).mono ?_
      rintro e w5 ⟨rfl, ⟨v5, hm, _⟩, ht, hgd⟩
      have HT5 := Lib.hid (MO_old HT4.out HM4.out ht (Nat.le_refl _) hg hcu)
      clear hm ht hgd HM4 HT4
      simp only [Ev.zero]
      go_wp2
      go_ret
      exact ⟨rfl, HT5.out.alloc _⟩
    · have hk := mt_more (1 + x) a Uc.new true b
      rw [if_neg hb2, if_neg (show ¬ true = false by simp)] at hk
      have HK2 := Lib.hid hk
      have hb2' : (a.size : Int) + b.size ≤ 1 + x := by omega
      clear hk
      go_wp2_with fail
      refine (im_take HM4.out HG3.out ⟨true, 0, false, 0, 0, 0, 0, b⟩ (fr_good _ _ (by omega) _ (by unfold maxLen; omega)) (by show b.size ≤ _; omega) HT4.out.size _ _ _ _ HK2.out).mono ?_
      rintro e w5 ⟨rfl, ⟨v5, hm, _⟩, ht, hgd⟩
      have HT5 := Lib.hid (MO_old HT4.out HM4.out ht (Nat.le_refl _) hg hcu)
      clear hm ht hgd HM4 HT4
      have keq := eql_ev_all ⟨2, 0, a ++ b⟩ ⟨2, 0, a ++ b⟩ true (Ev.same_self _)
      simp only at keq
      go_wp2
      go_ret
      exact ⟨rfl, HT5.out.alloc _⟩
end Go.Proofs.Ytkhppojlabajaaa
