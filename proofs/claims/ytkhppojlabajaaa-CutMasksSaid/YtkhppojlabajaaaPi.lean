/- frame: plain laws on bytes of frames and their beginnings. -/
import Derived.Test.YtkhppojlabajaaaFd
import Derived.Test.YtkhppojlabajaaaPf
import Derived.Test.YtkhppojlabajaaaPg
import Derived.Test.YtkhppojlabajaaaPh
namespace Go.Proofs.Ytkhppojlabajaaa
open Go.RowKit
set_option linter.unusedSimpArgs false
set_option linter.unusedVariables false

theorem check_form {f : Fr} (h : check9 f = 0) : form9 f = true ∧ f.data.size ≤ 65536 := ⟨(check_ok h).2.2, (check_ok h).2.1⟩
theorem size9_le (f : Fr) : size9 f ≤ f.data.size + 14 := by
  have h1 : (if 65536 ≤ f.data.size then 8 else if 125 < f.data.size then 2 else 0) ≤ 8 := by split; omega; split <;> omega
  have h2 : (if f.masked = true then 4 else 0) ≤ 4 := by split <;> omega
  unfold size9
  omega
theorem size9_ge (f : Fr) : 2 ≤ size9 f := by unfold size9; omega
/-- The beginning of a frame's bytes that holds its length: too long is told. -/
theorem fget_long {f : Fr} (hf : f.good) (hc : form9 f = true) (most : Int) (hm : most < f.data.size) (n : Nat) (hn : 1 + (lenB f.data.size).length ≤ n) : fget ((fput f).take n) most = (Fr.zero, 0, 92) := by
  have hz : f.data.size ≤ 9223372036854775807 := hf.2.2
  have hk : known9 f.op = true ∧ (control9 f.op = true → f.fin = true ∧ f.data.size ≤ 125) := by
    have h := hc
    unfold form9 at h
    simp only [Bool.and_eq_true, Bool.not_eq_true'] at h
    refine ⟨h.1.1, fun hcn => ?_⟩
    have h2 := h.1.2
    rw [hcn] at h2
    simp at h2
    exact h2
  have hop : 0 ≤ f.op ∧ f.op ≤ 10 := by
    have := hk.1
    unfold known9 at this
    have := of_decide_eq_true this
    omega
  obtain ⟨x, t, hx, hx1, hx2⟩ := long9_head f
  have hl := long9_length f
  obtain ⟨T, hT⟩ : ∃ T, (fput f).take n = first9 f :: (long9 f ++ T) := by
    refine ⟨(((if f.masked = true then f.key else []) ++ (if f.masked = true then turn f.key 0 (sb f.data) else sb f.data))).take (n - 1 - (long9 f).length), ?_⟩
    unfold fput
    rw [show n = (n - 1) + 1 from by omega, List.take_succ_cons, List.take_append, List.take_of_length_le (by omega), show n - 1 + 1 - 1 = n - 1 from by omega]
  rw [hT]
  have hG : getLen (long9 f ++ T) = ((f.data.size : Int), (lenB f.data.size).length, 0) := getLen_lenB f.data.size (by omega) f.masked T
  have hf0 : first9 f % 16 = f.op := by unfold first9; split <;> omega
  have hf1 : first9 f / 16 % 8 = 0 := by unfold first9; split <;> omega
  have hf2 : decide (128 ≤ first9 f) = f.fin := by
    unfold first9
    cases hfin : f.fin
    · simp; omega
    · simp; omega
  have h1 : (first9 f :: (long9 f ++ T)).getD 1 0 = x := by rw [hx]; rfl
  have hbad : ¬ ((first9 f :: (long9 f ++ T)).getD 0 0 / 16 % 8 ≠ 0 ∨ known9 ((first9 f :: (long9 f ++ T)).getD 0 0 % 16) = false ∨ (control9 ((first9 f :: (long9 f ++ T)).getD 0 0 % 16) = true ∧ ((first9 f :: (long9 f ++ T)).getD 0 0 < 128 ∨ (1 < (first9 f :: (long9 f ++ T)).length ∧ 125 < (first9 f :: (long9 f ++ T)).getD 1 0 % 128)))) := by
    rw [h1, List.getD_cons_zero, hf0, hf1, hk.1, hx1]
    rintro (h | h | ⟨h, h2⟩)
    · exact h rfl
    · cases h
    · obtain ⟨h3, h4⟩ := hk.2 h
      rw [h3] at hf2
      have := of_decide_eq_true hf2
      rcases h2 with h2 | ⟨_, h2⟩
      · omega
      · have := (lenB_small f.data.size).2 h4
        omega
  unfold fget
  rw [if_neg (by simp), if_neg hbad]
  unfold flen
  simp only [List.drop_succ_cons, List.drop_zero, hG]
  rw [if_neg (by omega), if_neg (by omega), if_pos (.inr hm)]
theorem fget_full {f : Fr} (hf : f.good) (hc : form9 f = true) (most : Int) : fget (fput f) most = if most < f.data.size then (Fr.zero, 0, 92) else (f, (fput f).length, 0) := by
  have := fget_fput f hf hc [] most
  rwa [List.append_nil] at this
theorem fput_bytes {f : Fr} (hf : f.good) (hc : form9 f = true) : bytesIn (fput f) := by
  refine fput_in f hf ?_
  have h := hc
  unfold form9 at h
  simp only [Bool.and_eq_true, Bool.not_eq_true'] at h
  have := h.1.1
  unfold known9 at this
  have := of_decide_eq_true this
  omega
/-- A beginning of a frame's bytes that isn't too long is none yet, or all of them. -/
theorem fget_begin {f : Fr} (hf : f.good) (hc : form9 f = true) (most : Int) (hm : ¬ most < f.data.size) (n : Nat) (hn : n ≤ (fput f).length) (hl : (fput f).length ≤ maxLen) : (fget ((fput f).take n) most).2.2 = 90 ∨ n = (fput f).length := by
  by_cases he : (fget ((fput f).take n) most).2.2 = 90
  · exact .inl he
  · right
    have hb := fput_bytes hf hc
    have e : fput f = (fput f).take n ++ (fput f).drop n := (List.take_append_drop n _).symm
    have hb2 := hb
    rw [e] at hb2
    have hmono := fget_mono hb2 most he
    rw [← e, fget_full hf hc, if_neg hm] at hmono
    have hn2 := congrArg (fun q => q.2.1) hmono
    simp only at hn2
    by_cases h0 : (fget ((fput f).take n) most).2.2 = 0
    · -- the bytes that it takes are in the beginning
      have h4 : (fget ((fput f).take n) most).2.1 ≤ ((fput f).take n).length := by
        exact (fget_ok (hb.take n) (by rw [List.length_take]; omega) (most := most) (f := (fget ((fput f).take n) most).1) (n := (fget ((fput f).take n) most).2.1) (by rw [← h0])).2.2.2.1
      rw [← hn2, List.length_take] at h4
      omega
    · have := congrArg (fun q => q.2.2) hmono
      simp only at this
      exact absurd this.symm h0

theorem zero_good (fin : Bool) (op : Int) (h : 0 ≤ op ∧ op ≤ 15) (d : ByteArray) (hd : d.size ≤ maxLen) : (Fr.mk fin op false 0 0 0 0 d).good :=
  ⟨wf_i64 (by show -9223372036854775808 ≤ op; omega) (by show op ≤ 9223372036854775807; omega), by intro x hx; simp [Fr.key] at hx; omega, hd⟩
end Go.Proofs.Ytkhppojlabajaaa
