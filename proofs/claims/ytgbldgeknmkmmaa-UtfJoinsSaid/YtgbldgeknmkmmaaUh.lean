/- The law UtfJoins: the walk. -/
import Derived.Test.YtgbldgeknmkmmaaUg
namespace Go.Proofs.Ytgbldgeknmkmmaa
open Go.RowKit
set_option linter.unusedSimpArgs false
set_option linter.unusedVariables false

set_option maxHeartbeats 1600000 in
theorem joins_row (w : World) (a : ByteArray) (ha : a.size ≤ maxLen) (b : ByteArray) (hb : b.size ≤ maxLen) :
    Calls Try.prog 10 #[.string a, .string b] w fun e w' => e = .returned (.bool true) ∧ Touch NoS w w' := by
  have kv := fun (W : World) (s : ByteArray) => Lib.run_convert_string_bytes (P := Try.prog) W 9 48 5 s Try.underlying9 Try.underlying48 Try.underlying5
  unfold maxLen at ha hb
  by_cases h1 : 200 < a.size
  · go_enter Try.func10, Try.ntmps10
    go_wp2_with fail
    refine (u_awake _).mono ?_
    rintro e w2 ⟨rfl, ht⟩
    have HT2 := Lib.hid ht
    clear ht
    go_wp2
    go_ret
    exact ⟨rfl, HT2.out⟩
  by_cases h2 : 200 < b.size
  · go_enter Try.func10, Try.ntmps10
    go_wp2_with fail
    refine (u_awake _).mono ?_
    rintro e w2 ⟨rfl, ht⟩
    have HT2 := Lib.hid ht
    clear ht
    go_wp2
    go_ret
    exact ⟨rfl, HT2.out⟩
  obtain ⟨x, ok, hx⟩ : ∃ x ok, ucount (sb a) = (x, ok) := ⟨_, _, rfl⟩
  obtain ⟨y, fine, hy⟩ : ∃ y fine, ucount (sb b) = (y, fine) := ⟨_, _, rfl⟩
  obtain ⟨z, all, hz⟩ : ∃ z all, ucount (sb (a ++ b)) = (z, all) := ⟨_, _, rfl⟩
  have hj := ucount_join (sb a) (sb b)
  rw [← sb_append, hx, hy, hz] at hj
  simp only at hj
  have bx : 0 ≤ x ∧ x ≤ 200 := by
    have := ucount_bound (sb a)
    rw [hx, sb_length] at this
    simp only at this
    omega
  have by' : 0 ≤ y ∧ y ≤ 200 := by
    have := ucount_bound (sb b)
    rw [hy, sb_length] at this
    simp only at this
    omega
  obtain ⟨bx0, bx1⟩ := bx
  obtain ⟨by0, by1⟩ := by'
  have HX := Lib.hid hx
  have HY := Lib.hid hy
  have HZ := Lib.hid hz
  have HJ := Lib.hid hj
  clear hx hy hz hj
  go_enter Try.func10, Try.ntmps10
  go_wp2_with fail
  refine (u_countc a _ _ rfl _ (by omega)).mono ?_
  rintro e w1 ⟨rfl, ht⟩
  have HT := Lib.hid ht
  clear ht
  rw [HX.out]
  go_wp2_with fail
  refine (u_countc b _ _ rfl _ (by omega)).mono ?_
  rintro e w2 ⟨rfl, ht⟩
  have HT2 := Lib.hid (HT.out.trans ht)
  clear ht HT
  rw [HY.out]
  go_wp2_with fail
  trace_state
  refine (u_countc (a ++ b) _ _ (by rw [ByteArray.size_append]) _ (by omega)).mono ?_
  rintro e w3 ⟨rfl, ht⟩
  have HT3 := Lib.hid (HT2.out.trans ht)
  clear ht HT2
  rw [HZ.out]
  go_wp2_with fail
  refine (u_awake _).mono ?_
  rintro e w4 ⟨rfl, ht⟩
  have HT4 := Lib.hid (HT3.out.trans ht)
  clear ht HT3
  cases ok
  · go_wp2
    go_ret
    exact ⟨rfl, HT4.out⟩
  obtain ⟨j1, j2⟩ := HJ.out rfl
  subst j1
  cases all
  · go_wp2
    go_ret
    exact ⟨rfl, HT4.out⟩
  have j3 := j2 rfl
  subst j3
  go_wp2
  go_ret
  exact ⟨rfl, HT4.out⟩
end Go.Proofs.Ytgbldgeknmkmmaa
