/- frame: Get, in one. -/
import Derived.Test.YtkhppojlabajaaaFi
namespace Go.Proofs.Ytkhppojlabajaaa
open Go.RowKit
set_option linter.unusedSimpArgs false
set_option linter.unusedVariables false

theorem f_get (A : Option Addr) (l : List Int) (n cap : Nat) (hn : l.length = n) (most : Int) (hm : (Lit.int .i64 most).wf = true) (w : World) (hr : Rd w A (u8s l)) (hb : bytesIn l) (hl : n ≤ cap) (hc : cap ≤ maxLen) (hl2 : n ≤ 70368744177664) :
    Calls Try.prog 67 #[.slice A n cap, .int .i64 most] w fun e w' =>
      e = .returned (.tuple #[.agg (fget l most).1.cs, .int .i64 (fget l most).2.1, .int .i64 (fget l most).2.2]) ∧ Touch NoS w w' := by
  subst hn
  by_cases h0 : l = []
  · subst h0
    have hg : fget [] most = (Fr.zero, 0, 90) := rfl
    rw [hg]
    exact f_get_none A cap most w
  have hpos : 0 < l.length := by cases l with | nil => exact absurd rfl h0 | cons x t => simp
  obtain ⟨gA, off, rfl, hgA, ca⟩ := u8s_at hr 0 hpos
  have hx8 := getD_in hb 0 (by omega) 0
  have hxd : l[0] = l.getD 0 0 := by rw [List.getD_eq_getElem?_getD, List.getElem?_eq_getElem hpos]; rfl
  rw [hxd, Nat.add_zero] at ca
  unfold fget
  rw [if_neg h0]
  obtain ⟨x, hx⟩ : ∃ x, x = l.getD 0 0 := ⟨_, rfl⟩
  rw [← hx] at hx8 ca ⊢
  have hfin : (bits .and .u8 x 128 != 0) = decide (128 ≤ x) := by
    rw [and128 x hx8.1 hx8.2]
    by_cases h : 128 ≤ x
    · rw [if_pos h, decide_eq_true h]; rfl
    · rw [if_neg h, decide_eq_false h]; rfl
  have h1 : 1 < l.length → w.cell? ⟨gA, off + 1, none⟩ = some (.int .u8 (l.getD 1 0)) := fun h => by
    obtain ⟨g', off', he, _, hc'⟩ := u8s_at hr 1 h
    injection he with he
    injection he with h1 h2
    subst h1 h2
    rw [hc', List.getD_eq_getElem?_getD, List.getElem?_eq_getElem h]
    rfl
  have hv8 := getD_in hb 0 (by omega) 1
  by_cases hbad : x / 16 % 8 ≠ 0 ∨ known9 (x % 16) = false ∨ (control9 (x % 16) = true ∧ (x < 128 ∨ (1 < l.length ∧ 125 < l.getD 1 0 % 128)))
  · rw [if_pos hbad]
    refine f_get_bad gA off l.length cap hpos hl hc x (x % 16) _ (x / 16 % 8 * 16) (l.getD 1 0) (decide (128 ≤ x)) (control9 (x % 16)) (known9 (x % 16)) most w hgA ca h1 rfl hfin (and15 x hx8.1 hx8.2) (by omega) (by omega) (and112 x hx8.1 hx8.2) (and127 _ hv8.1 hv8.2) rfl rfl ?_
    rcases hbad with h | h | ⟨h, h2⟩
    · left; omega
    · exact .inr (.inl h)
    · refine .inr (.inr ⟨h, ?_⟩)
      rcases h2 with h2 | h2
      · left; exact decide_eq_false (by omega)
      · exact .inr h2
  · rw [if_neg hbad]
    have hz : bits .and .u8 x 112 = 0 := by
      rw [and112 x hx8.1 hx8.2]
      have : x / 16 % 8 = 0 := by
        rcases Decidable.em (x / 16 % 8 = 0) with h | h
        · exact h
        · exact absurd (.inl h) hbad
      omega
    have hk : known9 (x % 16) = true := by
      cases h : known9 (x % 16)
      · exact absurd (.inr (.inl h)) hbad
      · rfl
    have hok : control9 (x % 16) = true → decide (128 ≤ x) = true ∧ (1 < l.length → ¬ 125 < l.getD 1 0 % 128) := fun h => by
      refine ⟨decide_eq_true ?_, fun h1 h2 => hbad (.inr (.inr ⟨h, .inr ⟨h1, h2⟩⟩))⟩
      rcases Int.lt_or_le x 128 with h2 | h2
      · exact absurd (.inr (.inr ⟨h, .inl h2⟩)) hbad
      · exact h2
    by_cases hn1 : 1 < l.length
    · exact f_get_many gA off cap l w hr hb hn1 hl hc hl2 x (x % 16) _ (l.getD 1 0) (decide (128 ≤ x)) (control9 (x % 16)) most hm hgA ca (h1 hn1) rfl rfl hfin (and15 x hx8.1 hx8.2) (by omega) (by omega) hz hk rfl (fun h => ⟨(hok h).1, (hok h).2 hn1⟩)
    · have hl1 : l.length = 1 := by omega
      have hR : flen l most (decide (128 ≤ x)) (x % 16) = (Fr.zero, 0, 90) := by
        have : l.drop 1 = [] := List.eq_nil_of_length_eq_zero (by simp; omega)
        unfold flen
        rw [this]
        rfl
      rw [hR, hl1]
      exact f_get_one gA off cap (by omega) hc x (x % 16) _ (decide (128 ≤ x)) (control9 (x % 16)) most w hgA ca rfl hfin (and15 x hx8.1 hx8.2) (by omega) (by omega) hz hk rfl (fun h => (hok h).1)
end Go.Proofs.Ytkhppojlabajaaa
