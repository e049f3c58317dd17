/- law13: CutSizes: the walk. -/
import Derived.Test.YtkhppojlabajaaaZ28
/- law13: CutSizes: the walk. -/
namespace Go.Proofs.Ytkhppojlabajaaa
open Go.RowKit
set_option linter.unusedSimpArgs false
set_option linter.unusedVariables false

theorem cutFs_length (op : Int) (s : ByteArray) (m n : Nat) : (cutFs op s m n).length = n := by simp [cutFs]
theorem cutFs_get (op : Int) (s : ByteArray) (m n k : Nat) (h : k < (cutFs op s m n).length) : (cutFs op s m n)[k] = cutF op s m n k := by simp [cutFs]
theorem cutF_size (op : Int) (s : ByteArray) (m n k : Nat) (h : k * m ≤ s.size) : (cutF op s m n k).data.size = min (k * m + m) s.size - k * m := by
  show (s.extract _ _).size = _
  rw [ByteArray.size_extract]
  omega
/-- A piece: where it begins, how long it is. -/
theorem cutF_facts (op : Int) (s : ByteArray) (m n k : Nat) (hk : k < n) (h1 : 1 ≤ m) (f3 : s.size ≤ n * m) (f4 : (n - 1) * m ≤ s.size) (f5 : n ≠ 1 → (n - 1) * m < s.size) :
    k * m ≤ s.size ∧ (k + 1 < n → (cutF op s m n k).data.size = m) ∧ (cutF op s m n k).data.size ≤ m ∧ min ((k + 1) * m) s.size = min (k * m) s.size + (cutF op s m n k).data.size ∧ (0 < s.size → 0 < (cutF op s m n k).data.size) := by
  have hkm : k * m ≤ (n - 1) * m := Nat.mul_le_mul_right m (by omega)
  have h0 : k * m ≤ s.size := by omega
  have hs := cutF_size op s m n k h0
  have hsucc : (k + 1) * m = k * m + m := by rw [Nat.add_mul, Nat.one_mul]
  refine ⟨h0, fun hlt => ?_, by omega, by omega, fun hp => ?_⟩
  · have : (k + 1) * m ≤ (n - 1) * m := Nat.mul_le_mul_right m (by omega)
    omega
  · by_cases hn : n = 1
    · obtain rfl : k = 0 := by omega
      rw [hs]
      simp only [Nat.zero_mul]
      omega
    · have := f5 hn
      omega

set_option maxHeartbeats 6400000 in
set_option maxRecDepth 100000 in
theorem sizes13_row (w : World) (s : ByteArray) (hs : s.size ≤ maxLen) (x : Int) (hx : (Lit.int .u16 x).wf = true) :
    Calls Try.prog 7 #[.string s, .int .u16 x] w fun e w' => e = .returned (.bool true) ∧ Touch NoS w w' := by
  have hxb : 0 ≤ x ∧ x ≤ 65535 := by
    obtain ⟨h1, h2⟩ := (Lit.wf_int_iff .u16 x).1 hx
    rw [show IntKind.u16.min = 0 from rfl] at h1
    rw [show IntKind.u16.max = 65535 from rfl] at h2
    exact ⟨h1, h2⟩
  obtain ⟨hx0, hx1⟩ := hxb
  clear hx
  by_cases hz : 2000 < s.size
  · unfold maxLen at hs
    go_enter Try.func7, Try.ntmps7
    go_wp2_with fail
    refine (aw13 _).mono ?_
    rintro e w2 ⟨rfl, ht⟩
    have HT := Lib.hid ht
    clear ht
    go_wp2_with fail
    refine (aw13 _).mono ?_
    rintro e w3 ⟨rfl, ht⟩
    have HT3 := Lib.hid (HT.out.trans ht)
    clear ht
    go_wp2
    go_ret
    exact ⟨rfl, HT3.out⟩
  have hz' : s.size ≤ 2000 := by omega
  obtain ⟨m, hm⟩ : ∃ m : Nat, (m : Int) = 1 + x := ⟨(1 + x).toNat, by omega⟩
  have h1 : 1 ≤ m := by omega
  have h2 : m ≤ 65536 := by omega
  obtain ⟨n, hn, f1, _, f3, f4, f5⟩ := count_facts s.size m (by omega) h1 h2
  have f2 : n ≤ 2001 := by have := Nat.le_mul_of_pos_right (n - 1) (show 0 < m by omega); omega
  have HA := Lib.hid (fun W => k_frames 2 (.inr rfl) s (by omega) m h1 h2 n hn W)
  have hw1 : IntKind.i64.wrap x = x := IntWalk.i64_in _ (by omega)
  have hw2 : IntKind.i64.wrap (1 + x) = m := by rw [hm]; exact IntWalk.i64_in _ (by omega)
  have hn0 : ((n : Int) == 0) = false := by rw [beq_eq_false_iff_ne]; omega
  have hn0' : ¬ (n : Int) = 0 := by omega
  have HF := Lib.hid (fun k hk => cutF_facts 2 s m n k hk h1 f3 f4 f5)
  have HF3 := Lib.hid f3
  have hse : 0 < s.size ∨ s = ⟨#[]⟩ := by
    rcases Nat.eq_zero_or_pos s.size with h | h
    · exact .inr (ByteArray.ext (Array.eq_empty_of_size_eq_zero h))
    · exact .inl h
  have HSE := Lib.hid hse
  clear hz hs hn f3 f4 f5 hm hse
  go_enter Try.func7, Try.ntmps7
  go_wp2_with fail
  refine (aw13 _).mono ?_
  rintro e w2 ⟨rfl, ht⟩
  have HT := Lib.hid ht
  clear ht
  go_wp2_with fail
  refine (HA.out _).mono ?_
  rintro e w3 ⟨v3, rfl, ho, ht⟩
  obtain ⟨A3, c3, rfl, hlc3, hcm3, hrd, _, _⟩ := own_cases ho
  have HR3 := Lib.hid hrd
  have HT3 := Lib.hid (HT.out.trans ht)
  clear ht ho hrd HT
  go_wp2_with fail
  go_loopw [8, 9] (fun av iv wr => ∃ k : Nat, k ≤ n ∧ iv = .int .i64 k ∧ av = .int .i64 (min (k * m) s.size : Nat) ∧ wr = w3) (fun _ iv _ => n - (intOf iv).toNat)
  case atStart => exact ⟨0, by omega, rfl, by rw [Nat.zero_mul, Nat.zero_min]; rfl, rfl⟩
  case round =>
    obtain ⟨k, hk, rfl, rfl, rfl⟩ := hrel
    by_cases hlt : k < n
    · obtain ⟨c1, c2, c4, c5, _⟩ := HF.out k hlt
      obtain ⟨g, off, rfl, hg, a0, a1, a2, a3, a4, a5, a6, a7⟩ := fr_cells HR3.out k (by rw [cutFs_length]; exact hlt)
      rw [cutFs_get] at a0 a1 a2 a3 a4 a5 a6 a7
      have HC5 := Lib.hid c5
      obtain ⟨P, hP⟩ : ∃ P, P = min (k * m) s.size := ⟨_, rfl⟩
      rw [← hP]
      have hPb : P ≤ 2000 := by omega
      have hfin : (cutF 2 s m n k).fin = decide (k + 1 = n) := rfl
      have hop : (cutF 2 s m n k).op = if k = 0 then 2 else 0 := rfl
      rw [hfin] at a0
      rw [hop] at a1
      obtain ⟨d, hd⟩ : ∃ d, d = (cutF 2 s m n k).data := ⟨_, rfl⟩
      rw [← hd] at c2 c4 a7
      have HC5' : Hid (min ((k + 1) * m) s.size = P + d.size) := by show _ = _; rw [HC5.out, hP, hd]
      have hdb : d.size ≤ 2000 := by have := HC5'.out; omega
      have hkk : (k = 0 ∧ ((k : Int) == 0) = true) ∨ (k ≠ 0 ∧ ((k : Int) == 0) = false) := by
        by_cases h : k = 0
        · exact .inl ⟨h, by subst h; rfl⟩
        · exact .inr ⟨h, by rw [beq_eq_false_iff_ne]; omega⟩
      by_cases hl : k + 1 = n
      · rw [decide_eq_true hl] at a0
        have hl' : ¬ (k : Int) + 1 < n := by omega
        have hdm : (d.size : Int) ≤ m := by omega
        clear hfin hop hd c1 c2 c5 hP hl HC5
        rcases hkk with ⟨h0, q0⟩ | ⟨h0, q0⟩
        · rw [if_pos h0] at a1
          clear h0
          go_wp2_with fail
          go_roundw
          · exact ⟨k + 1, by omega, by go_num, by rw [HC5'.out]; go_num, by first | trivial | rfl⟩
          · simp [intOf]; omega
        · rw [if_neg h0] at a1
          clear h0
          go_wp2_with fail
          go_roundw
          · exact ⟨k + 1, by omega, by go_num, by rw [HC5'.out]; go_num, by first | trivial | rfl⟩
          · simp [intOf]; omega
      · rw [decide_eq_false hl] at a0
        have hl' : (k : Int) + 1 < n := by omega
        have hdm : (d.size : Int) ≤ m := by omega
        have hde : ((d.size : Int) != m) = false := by rw [c2 (by omega)]; exact bne_self_eq_false _
        clear hfin hop hd c1 c2 c5 hP hl HC5
        rcases hkk with ⟨h0, q0⟩ | ⟨h0, q0⟩
        · rw [if_pos h0] at a1
          clear h0
          go_wp2_with fail
          go_roundw
          · exact ⟨k + 1, by omega, by go_num, by rw [HC5'.out]; go_num, by first | trivial | rfl⟩
          · simp [intOf]; omega
        · rw [if_neg h0] at a1
          clear h0
          go_wp2_with fail
          go_roundw
          · exact ⟨k + 1, by omega, by go_num, by rw [HC5'.out]; go_num, by first | trivial | rfl⟩
          · simp [intOf]; omega
    · have hkn : k = n := by omega
      subst hkn
      obtain ⟨c1, c2, c4, c5, c6⟩ := HF.out (k - 1) (by omega)
      obtain ⟨g, off, rfl, hg, a0, a1, a2, a3, a4, a5, a6, a7⟩ := fr_cells HR3.out (k - 1) (by rw [cutFs_length]; omega)
      rw [cutFs_get] at a0 a1 a2 a3 a4 a5 a6 a7
      have hfin : (cutF 2 s m k (k - 1)).fin = true := decide_eq_true (by omega)
      rw [hfin] at a0
      obtain ⟨d, hd⟩ : ∃ d, d = (cutF 2 s m k (k - 1)).data := ⟨_, rfl⟩
      rw [← hd] at c2 c4 a7 c6
      have hmin : min (k * m) s.size = s.size := by have := HF3.out; omega
      rw [hmin]
      have hdb : d.size ≤ 65536 := by omega
      have hki : ((k : Int) - 1).toNat = k - 1 := by omega
      clear hfin hd c1 c2 c5 hmin hlt
      rcases HSE.out with hp | hp
      · have hdp := c6 hp
        clear c6 hp
        go_wp2
        go_ret
        exact ⟨rfl, HT3.out⟩
      · subst hp
        clear c6
        by_cases hdp : 0 < d.size
        · go_wp2
          go_ret
          exact ⟨rfl, HT3.out⟩
        · go_wp2
          go_ret
          exact ⟨rfl, HT3.out⟩
end Go.Proofs.Ytkhppojlabajaaa
