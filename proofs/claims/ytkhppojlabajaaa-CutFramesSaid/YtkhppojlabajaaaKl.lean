/- law13: CutCounts, CutFrames: the walks. -/
import Derived.Test.YtkhppojlabajaaaKk
import Derived.Test.YtkhppojlabajaaaTh
namespace Go.Proofs.Ytkhppojlabajaaa
open Go.RowKit
set_option linter.unusedSimpArgs false
set_option linter.unusedVariables false

set_option maxHeartbeats 3200000 in
set_option maxRecDepth 100000 in
theorem counts13_row (w : World) (size : Int) (hs : (Lit.int .i64 size).wf = true) (most : Int) (hm : (Lit.int .i64 most).wf = true) :
    Calls Try.prog 5 #[.int .i64 size, .int .i64 most] w fun e w' => e = .returned (.bool true) ∧ Touch NoS w w' := by
  have HC := Lib.hid (fun W => k_count size most W)
  by_cases hout : size < 0 ∨ 1048576 < size ∨ most < 1 ∨ 65536 < most
  · rw [show count13 size most = 0 from if_pos hout] at HC
    have hcase : size < 0 ∨ (0 ≤ size ∧ 1048576 < size) ∨ (0 ≤ size ∧ size ≤ 1048576 ∧ most < 1) ∨ (0 ≤ size ∧ size ≤ 1048576 ∧ 1 ≤ most ∧ 65536 < most) := by omega
    clear hout hs hm
    rcases hcase with h1 | ⟨h1, h2⟩ | ⟨h1, h2, h3⟩ | ⟨h1, h2, h3, h4⟩
    all_goals
      go_enter Try.func5, Try.ntmps5
      go_wp2_with fail
      refine (HC.out _).mono ?_
      rintro e w1 ⟨rfl, rfl⟩
      go_wp2_with fail
      refine (aw13 _).mono ?_
      rintro e w2 ⟨rfl, ht⟩
      have HT := Lib.hid ht
      clear ht
      go_wp2
      go_ret
      exact ⟨rfl, HT.out⟩
  · obtain ⟨s, rfl⟩ : ∃ s : Nat, size = s := ⟨size.toNat, by omega⟩
    obtain ⟨m, rfl⟩ : ∃ m : Nat, most = m := ⟨most.toNat, by omega⟩
    have h0 : s ≤ 1048576 := by omega
    have h1 : 1 ≤ m := by omega
    have h2 : m ≤ 65536 := by omega
    obtain ⟨n, hn, f1, f2, f3, f4, f5⟩ := count_facts s m h0 h1 h2
    rw [hn] at HC
    obtain ⟨P, hP⟩ : ∃ P, P = n * m := ⟨_, rfl⟩
    obtain ⟨Q, hQ⟩ : ∃ Q, Q = (n - 1) * m := ⟨_, rfl⟩
    have hPQ : P = Q + m := by
      rw [hP, hQ]
      obtain ⟨p, rfl⟩ : ∃ p, n = p + 1 := ⟨n - 1, by omega⟩
      rw [Nat.add_sub_cancel, Nat.add_mul, Nat.one_mul]
    rw [← hP] at f3
    rw [← hQ] at f4 f5
    have m1 : (n : Int) * m = P := by rw [hP]; exact (Int.natCast_mul n m).symm
    have m2 : ((n : Int) - 1) * m = Q := by rw [hQ, show ((n : Int) - 1) = ((n - 1 : Nat) : Int) by omega]; exact (Int.natCast_mul _ m).symm
    have w1 : IntKind.i64.wrap ((n : Int) * m) = P := by rw [m1]; exact IntWalk.i64_in _ (by omega)
    have w2 : IntKind.i64.wrap (((n : Int) - 1) * m) = Q := by rw [m2]; exact IntWalk.i64_in _ (by omega)
    have hcase : (n = 1 ∧ (s : Int) ≤ m) ∨ (((n : Int) == 1) = false ∧ Q < s) := by
      by_cases h : n = 1
      · exact .inl ⟨h, by subst h; rw [Nat.one_mul] at hP; omega⟩
      · exact .inr ⟨by rw [beq_eq_false_iff_ne]; omega, f5 h⟩
    clear hout hs hm hn hP hQ m1 m2 f5 hPQ
    rcases hcase with ⟨rfl, q1⟩ | ⟨q1, q2⟩
    all_goals
      go_enter Try.func5, Try.ntmps5
      go_wp2_with fail
      refine (HC.out _).mono ?_
      rintro e w1 ⟨rfl, rfl⟩
      go_wp2_with fail
      refine (aw13 _).mono ?_
      rintro e w2 ⟨rfl, ht⟩
      have HT := Lib.hid ht
      clear ht
      go_wp2
      go_ret
      exact ⟨rfl, HT.out⟩

set_option maxHeartbeats 3200000 in
set_option maxRecDepth 100000 in
theorem frames13_row (w : World) (op : Int) (ho : (Lit.int .i64 op).wf = true) (s : ByteArray) (hs : s.size ≤ maxLen) (most : Int) (hm : (Lit.int .i64 most).wf = true) :
    Calls Try.prog 3 #[.int .i64 op, .string s, .int .i64 most] w fun e w' => e = .returned (.bool true) ∧ Touch NoS w w' := by
  by_cases hz : 2000 < s.size
  · unfold maxLen at hs
    go_enter Try.func3, Try.ntmps3
    go_wp2_with fail
    refine (aw13 _).mono ?_
    rintro e w2 ⟨rfl, ht⟩
    have HT := Lib.hid ht
    clear ht
    go_wp2_with fail
    refine (aw13 _).mono ?_
    rintro e w3 ⟨rfl, ht⟩
    have HT3 := Lib.hid (HT.out.trans ht)
    clear ht
    go_wp2
    go_ret
    exact ⟨rfl, HT3.out⟩
  have hz' : s.size ≤ 2000 := by omega
  by_cases hbad : (op ≠ 1 ∧ op ≠ 2) ∨ most < 1 ∨ 65536 < most
  · have hb2 : (op ≠ 1 ∧ op ≠ 2) ∨ count13 s.size most = 0 := hbad.imp id fun h => if_pos (by omega)
    have hb3 : (op ≠ 1 ∧ op ≠ 2) ∨ most < 1 ∨ 65536 < most ∨ 1048576 < s.size := by omega
    have HA := Lib.hid (fun W => k_frames_no op s hs most W hb2)
    have HB := Lib.hid (fun W => r13_frames_no op s hs most W hb3)
    clear hbad hb2 hb3 hz hs
    go_enter Try.func3, Try.ntmps3
    go_wp2_with fail
    refine (aw13 _).mono ?_
    rintro e w2 ⟨rfl, ht⟩
    have HT := Lib.hid ht
    clear ht
    go_wp2_with fail
    refine (HA.out _).mono ?_
    rintro e w3 ⟨rfl, rfl⟩
    go_wp2_with fail
    refine (HB.out _).mono ?_
    rintro e w3 ⟨rfl, rfl⟩
    go_wp2
    go_ret
    exact ⟨rfl, HT.out⟩
  · obtain ⟨m, rfl⟩ : ∃ m : Nat, most = m := ⟨most.toNat, by omega⟩
    have hop : op = 1 ∨ op = 2 := by omega
    have h1 : 1 ≤ m := by omega
    have h2 : m ≤ 65536 := by omega
    obtain ⟨n, hn, f1, _, _, f4, _⟩ := count_facts s.size m (by omega) h1 h2
    have f2 : n ≤ 2001 := by have := Nat.le_mul_of_pos_right (n - 1) (show 0 < m by omega); omega
    clear f4
    have HA := Lib.hid (fun W => k_frames op hop s (by omega) m h1 h2 n hn W)
    have HB := Lib.hid (fun W => r13_frames op hop s (by omega) m h1 h2 n hn W)
    have HC := Lib.hid (fun W => k_count s.size m W)
    rw [hn] at HC
    obtain ⟨L, hL⟩ : ∃ L, L = cutFs op s m n := ⟨_, rfl⟩
    have hLl : L.length = n := by rw [hL]; simp [cutFs]
    rw [← hL] at HA HB
    have HL := Lib.hid hLl
    clear hbad hz hs hn hop hL hLl
    go_enter Try.func3, Try.ntmps3
    go_wp2_with fail
    refine (aw13 _).mono ?_
    rintro e w2 ⟨rfl, ht⟩
    have HT := Lib.hid ht
    clear ht
    go_wp2_with fail
    refine (HA.out _).mono ?_
    rintro e w3 ⟨v3, rfl, ho, ht⟩
    obtain ⟨A3, c3, rfl, hlc3, hcm3, hrd, _, _⟩ := own_cases ho
    have HR3 := Lib.hid hrd
    have HT3 := Lib.hid (HT.out.trans ht)
    clear ht ho hrd HT
    go_wp2_with fail
    refine (HB.out _).mono ?_
    rintro e w4 ⟨v4, rfl, ho, ht⟩
    obtain ⟨A4, c4, rfl, hlc4, hcm4, hrd, _, _⟩ := own_cases ho
    have HR4 := Lib.hid hrd
    have HR3' := Lib.hid (HR3.out.touch_no ht)
    have HT4 := Lib.hid (HT3.out.trans ht)
    clear ht ho hrd HT3 HR3
    go_wp2_with fail
    refine (r10_same A3 A4 L L n n c3 c4 HL.out HL.out _ HR3'.out HR4.out (by omega) (by omega)).mono ?_
    rintro e w5 ⟨rfl, ht⟩
    rw [show decide (L = L) = true from decide_eq_true rfl]
    have HT5 := Lib.hid (HT4.out.trans ht)
    clear ht HT4
    go_wp2_with fail
    refine (HC.out _).mono ?_
    rintro e w6 ⟨rfl, rfl⟩
    go_wp2
    go_ret
    exact ⟨rfl, HT5.out⟩
end Go.Proofs.Ytkhppojlabajaaa
