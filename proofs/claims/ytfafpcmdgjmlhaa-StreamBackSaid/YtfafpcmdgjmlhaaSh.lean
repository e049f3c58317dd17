/- ref09: Get, part 2: one byte alone. -/
import Derived.Test.YtfafpcmdgjmlhaaSg
namespace Go.Proofs.Ytfafpcmdgjmlhaa
open Go.RowKit
set_option linter.unusedSimpArgs false
set_option linter.unusedVariables false

set_option maxHeartbeats 3200000 in
set_option maxRecDepth 100000 in
theorem r9_get_one (s : ByteArray) (hs : s.size = 1) (x o : Int) (fin cn : Bool) (most : Int) (w : World)
    (hx : ((s[0].toNat : Nat) : Int) = x) (hx0 : 0 ≤ x) (hx1 : x ≤ 255) (hfin : decide (128 ≤ x) = fin) (ho : x % 16 = o) (hz : x / 16 % 8 = 0) (hc : control9 o = cn) (hk : known9 o = true) (hok : cn = true → fin = true) :
    Calls Try.prog 52 #[.string s, .int .i64 most] w fun e w' =>
      e = .returned (.tuple #[.agg Fr.zero.cs, .int .i64 0, .int .i64 90]) ∧ Touch NoS w w' := by
  obtain ⟨hne, hne2⟩ := str_ne s (by omega)
  have HC := Lib.hid (r9_control o)
  rw [hc] at HC
  have hG : ∀ W, Calls Try.prog 68 #[.string ByteArray.empty] W fun e w' => e = .returned (.tuple #[.int .u64 0, .int .i64 0, .int .i64 80]) ∧ W = w' := fun W => r8_get ByteArray.empty (by decide) W
  have HG := Lib.hid hG
  have hcase : (cn = false ∧ 0 ≤ o ∧ o ≤ 2) ∨ (cn = true ∧ 2 < o) := by
    unfold known9 at hk
    unfold control9 at hc
    have := of_decide_eq_true hk
    cases cn
    · have h2 := of_decide_eq_false hc; left; exact ⟨rfl, by omega, by omega⟩
    · have h2 := of_decide_eq_true hc; right; exact ⟨rfl, by omega⟩
  clear hc hG hk
  rcases hcase with ⟨rfl, o0, o1⟩ | ⟨rfl, o2⟩
  · clear hok
    go_enter Try.func52, Try.ntmps52
    go_wp2_with fail
    go_region
    obtain ⟨w1, hw1⟩ : ∃ w1, w1 = ((w.alloc (.cells Fr.zero.cs 43)).alloc (.cells (Fr.cs ⟨fin, o, false, 0, 0, 0, 0, ⟨#[]⟩⟩) 43)).drew := ⟨_, rfl⟩
    obtain ⟨hb4, hb7, ht⟩ : Blk w1 w.heap.size 43 Fr.zero.cs ∧ Blk w1 (w.heap.size + 1) 43 (Fr.cs ⟨fin, o, false, 0, 0, 0, 0, ⟨#[]⟩⟩) ∧ Touch NoS w w1 := by rw [hw1]; exact two_blocks _ _ _ _ _
    simp only [Fr.zero, Fr.cs] at hw1
    rw [← hw1]
    have c0 := hb7.cell 0
    have c1 := hb7.cell 1
    simp [Fr.cs] at c0 c1
    have HB4 := Lib.hid hb4
    have HT := Lib.hid ht
    clear hb4 hb7 ht hw1
    go_wp2_with fail
    refine (HC.out _).mono ?_
    rintro e w2 ⟨rfl, rfl⟩
    go_wp2_with fail
    refine (HG.out _).mono ?_
    rintro e w2 ⟨rfl, rfl⟩
    go_upto_region 12 with (fail)
    go_wp2_with (refine wpList_store_row rfl 43 (.tmp 4) (.tmp 78) rfl w.heap.size Fr.zero.cs rfl rfl 43 Fr.zero.cs HB4.out fr_info rfl (fr_one _) ?_; rw [setRow_same HB4.out])
    refine bodyPost_ret (v := .tuple #[.agg Fr.zero.cs, .int .i64 0, .int .i64 90]) (r9get_results _ _ _ _ _ _ rfl rfl rfl HB4.out) rfl ⟨rfl, HT.out⟩
  · obtain rfl := hok rfl
    clear hok
    go_enter Try.func52, Try.ntmps52
    go_wp2_with fail
    go_region
    obtain ⟨w1, hw1⟩ : ∃ w1, w1 = ((w.alloc (.cells Fr.zero.cs 43)).alloc (.cells (Fr.cs ⟨true, o, false, 0, 0, 0, 0, ⟨#[]⟩⟩) 43)).drew := ⟨_, rfl⟩
    obtain ⟨hb4, hb7, ht⟩ : Blk w1 w.heap.size 43 Fr.zero.cs ∧ Blk w1 (w.heap.size + 1) 43 (Fr.cs ⟨true, o, false, 0, 0, 0, 0, ⟨#[]⟩⟩) ∧ Touch NoS w w1 := by rw [hw1]; exact two_blocks _ _ _ _ _
    simp only [Fr.zero, Fr.cs] at hw1
    rw [← hw1]
    have c0 := hb7.cell 0
    have c1 := hb7.cell 1
    simp [Fr.cs] at c0 c1
    have HB4 := Lib.hid hb4
    have HT := Lib.hid ht
    clear hb4 hb7 ht hw1
    go_wp2_with fail
    refine (HC.out _).mono ?_
    rintro e w2 ⟨rfl, rfl⟩
    go_wp2_with fail
    refine (HC.out _).mono ?_
    rintro e w2 ⟨rfl, rfl⟩
    go_wp2_with fail
    refine (HG.out _).mono ?_
    rintro e w2 ⟨rfl, rfl⟩
    go_upto_region 12 with (fail)
    go_wp2_with (refine wpList_store_row rfl 43 (.tmp 4) (.tmp 78) rfl w.heap.size Fr.zero.cs rfl rfl 43 Fr.zero.cs HB4.out fr_info rfl (fr_one _) ?_; rw [setRow_same HB4.out])
    refine bodyPost_ret (v := .tuple #[.agg Fr.zero.cs, .int .i64 0, .int .i64 90]) (r9get_results _ _ _ _ _ _ rfl rfl rfl HB4.out) rfl ⟨rfl, HT.out⟩
end Go.Proofs.Ytfafpcmdgjmlhaa
