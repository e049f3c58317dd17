/- ref09: Get, part 1: what is wrong at its first bytes. | ref09: Get, part 2: one byte alone. -/
import Derived.Test.YtlnabpoohnphiaaGreatB40
/- ref09: Get, part 1: what is wrong at its first bytes. -/
namespace Go.Proofs.YtlnabpoohnphiaaGreat
open Go.RowKit
set_option linter.unusedSimpArgs false
set_option linter.unusedVariables false

theorem r9get_results (tmps : Array Value) (w : World) (f : Fr) (g : Nat) (n e : Int) (h4 : tmps.getD 4 undef = .pointer (some ⟨g, 0, none⟩)) (h5 : tmps.getD 5 undef = .int .i64 n) (h6 : tmps.getD 6 undef = .int .i64 e)
    (hb : Blk w g 42 f.cs) : (results Tryz.f71 tmps).run Tryz.prog w = .ok (.tuple #[.agg f.cs, .int .i64 n, .int .i64 e]) w := by
  have hld := fr_load hb rfl
  obtain ⟨a, b, c, d, e', h, i, j⟩ := f
  have c0 := hb.cell 0
  have c1 := hb.cell 1
  have c2 := hb.cell 2
  have c3 := hb.cell 3
  have c4 := hb.cell 4
  have c5 := hb.cell 5
  have c6 := hb.cell 6
  have c7 := hb.cell 7
  simp only [Array.getD_eq_getD_getElem?] at h4 h5 h6
  simp [Fr.cs] at c0 c1 c2 c3 c4 c5 c6 c7
  simp [results, Tryz.results71, go_sem, h4, h5, h6, c0, c1, c2, c3, c4, c5, c6, c7, Fr.cs]
set_option maxHeartbeats 3200000 in
set_option maxRecDepth 100000 in
theorem r9_get_none (most : Int) (s : ByteArray) (hs : s.size = 0) (w : World) :
    Calls Tryz.prog 71 #[.string s, .int .i64 most] w fun e w' =>
      e = .returned (.tuple #[.agg Fr.zero.cs, .int .i64 0, .int .i64 90]) ∧ Touch NoS w w' := by
  obtain rfl : s = ⟨#[]⟩ := by
    apply ByteArray.ext
    exact Array.eq_empty_of_size_eq_zero hs
  go_enter Tryz.func71, Tryz.ntmps71
  go_wp2
  refine bodyPost_ret (v := .tuple #[.agg Fr.zero.cs, .int .i64 0, .int .i64 90]) (by simp [results, Tryz.results71, go_sem, Fr.zero, Fr.cs]) rfl ⟨rfl, ?_⟩
  exact ((Touch.refl _ _).alloc _)
set_option maxHeartbeats 3200000 in
set_option maxRecDepth 100000 in
theorem r9_get_high (s : ByteArray) (hpos : 0 < s.size) (hs : s.size ≤ 70368744177664) (x o z : Int) (fin : Bool) (most : Int) (w : World)
    (hx : ((s[0].toNat : Nat) : Int) = x) (hx0 : 0 ≤ x) (hx1 : x ≤ 255) (hfin : decide (128 ≤ x) = fin) (ho : x % 16 = o) (hz : x / 16 % 8 = z) (hzb : z ≠ 0) :
    Calls Tryz.prog 71 #[.string s, .int .i64 most] w fun e w' =>
      e = .returned (.tuple #[.agg Fr.zero.cs, .int .i64 0, .int .i64 91]) ∧ Touch NoS w w' := by
  obtain ⟨hne, hne2⟩ := str_ne s hpos
  have hz1 : (z != 0) = true := by rw [bne_iff_ne]; exact hzb
  have hpos' : (0 : Int) < s.size := by omega
  clear hzb
  go_enter Tryz.func71, Tryz.ntmps71
  go_wp2_with fail
  go_region
  obtain ⟨w1, hw1⟩ : ∃ w1, w1 = ((w.alloc (.cells Fr.zero.cs 42)).alloc (.cells (Fr.cs ⟨fin, o, false, 0, 0, 0, 0, ⟨#[]⟩⟩) 42)).drew := ⟨_, rfl⟩
  obtain ⟨hb4, hb7, ht⟩ : Blk w1 w.heap.size 42 Fr.zero.cs ∧ Blk w1 (w.heap.size + 1) 42 (Fr.cs ⟨fin, o, false, 0, 0, 0, 0, ⟨#[]⟩⟩) ∧ Touch NoS w w1 := by rw [hw1]; exact two_blocks _ _ _ _ _
  simp only [Fr.zero, Fr.cs] at hw1
  rw [← hw1]
  have HB4 := Lib.hid hb4
  have HT := Lib.hid ht
  clear hb4 hb7 ht hw1
  go_upto_region 5 with (fail)
  go_wp2_with (refine wpList_store_row rfl 42 (.tmp 4) (.tmp 50) rfl w.heap.size Fr.zero.cs rfl rfl 42 Fr.zero.cs HB4.out fr_info rfl (fr_one _) ?_; rw [setRow_same HB4.out])
  refine bodyPost_ret (v := .tuple #[.agg Fr.zero.cs, .int .i64 0, .int .i64 91]) (r9get_results _ _ _ _ _ _ rfl rfl rfl HB4.out) rfl ⟨rfl, HT.out⟩
set_option maxHeartbeats 3200000 in
set_option maxRecDepth 100000 in
theorem r9_get_unknown (s : ByteArray) (hpos : 0 < s.size) (hs : s.size ≤ 70368744177664) (x o : Int) (fin : Bool) (most : Int) (w : World)
    (hx : ((s[0].toNat : Nat) : Int) = x) (hx0 : 0 ≤ x) (hx1 : x ≤ 255) (hfin : decide (128 ≤ x) = fin) (ho : x % 16 = o) (hz : x / 16 % 8 = 0) (ho2 : 2 < o) (hc : control9 o = false) :
    Calls Tryz.prog 71 #[.string s, .int .i64 most] w fun e w' =>
      e = .returned (.tuple #[.agg Fr.zero.cs, .int .i64 0, .int .i64 91]) ∧ Touch NoS w w' := by
  obtain ⟨hne, hne2⟩ := str_ne s hpos
  have HC := Lib.hid (r9_control o)
  rw [hc] at HC
  have hpos' : (0 : Int) < s.size := by omega
  clear hc
  go_enter Tryz.func71, Tryz.ntmps71
  go_wp2_with fail
  go_region
  obtain ⟨w1, hw1⟩ : ∃ w1, w1 = ((w.alloc (.cells Fr.zero.cs 42)).alloc (.cells (Fr.cs ⟨fin, o, false, 0, 0, 0, 0, ⟨#[]⟩⟩) 42)).drew := ⟨_, rfl⟩
  obtain ⟨hb4, hb7, ht⟩ : Blk w1 w.heap.size 42 Fr.zero.cs ∧ Blk w1 (w.heap.size + 1) 42 (Fr.cs ⟨fin, o, false, 0, 0, 0, 0, ⟨#[]⟩⟩) ∧ Touch NoS w w1 := by rw [hw1]; exact two_blocks _ _ _ _ _
  simp only [Fr.zero, Fr.cs] at hw1
  rw [← hw1]
  have c0 := hb7.cell 0
  have c1 := hb7.cell 1
  simp [Fr.cs] at c0 c1
  have HB4 := Lib.hid hb4
  have HT := Lib.hid ht
  clear hb4 hb7 ht hw1
  go_wp2_with fail
  refine (HC.out _).mono ?_
  rintro e w2 ⟨rfl, rfl⟩
  go_upto_region 5 with (fail)
  go_wp2_with (refine wpList_store_row rfl 42 (.tmp 4) (.tmp 50) rfl w.heap.size Fr.zero.cs rfl rfl 42 Fr.zero.cs HB4.out fr_info rfl (fr_one _) ?_; rw [setRow_same HB4.out])
  refine bodyPost_ret (v := .tuple #[.agg Fr.zero.cs, .int .i64 0, .int .i64 91]) (r9get_results _ _ _ _ _ _ rfl rfl rfl HB4.out) rfl ⟨rfl, HT.out⟩
set_option maxHeartbeats 3200000 in
set_option maxRecDepth 100000 in
theorem r9_get_nofin (s : ByteArray) (hpos : 0 < s.size) (hs : s.size ≤ 70368744177664) (x o : Int) (most : Int) (w : World)
    (hx : ((s[0].toNat : Nat) : Int) = x) (hx0 : 0 ≤ x) (hx1 : x ≤ 255) (hfin : decide (128 ≤ x) = false) (ho : x % 16 = o) (hz : x / 16 % 8 = 0) (hc : control9 o = true) :
    Calls Tryz.prog 71 #[.string s, .int .i64 most] w fun e w' =>
      e = .returned (.tuple #[.agg Fr.zero.cs, .int .i64 0, .int .i64 91]) ∧ Touch NoS w w' := by
  obtain ⟨hne, hne2⟩ := str_ne s hpos
  have HC := Lib.hid (r9_control o)
  rw [hc] at HC
  have ho2 : 2 < o := by unfold control9 at hc; have := of_decide_eq_true hc; omega
  have hpos' : (0 : Int) < s.size := by omega
  clear hc
  go_enter Tryz.func71, Tryz.ntmps71
  go_wp2_with fail
  go_region
  obtain ⟨w1, hw1⟩ : ∃ w1, w1 = ((w.alloc (.cells Fr.zero.cs 42)).alloc (.cells (Fr.cs ⟨false, o, false, 0, 0, 0, 0, ⟨#[]⟩⟩) 42)).drew := ⟨_, rfl⟩
  obtain ⟨hb4, hb7, ht⟩ : Blk w1 w.heap.size 42 Fr.zero.cs ∧ Blk w1 (w.heap.size + 1) 42 (Fr.cs ⟨false, o, false, 0, 0, 0, 0, ⟨#[]⟩⟩) ∧ Touch NoS w w1 := by rw [hw1]; exact two_blocks _ _ _ _ _
  simp only [Fr.zero, Fr.cs] at hw1
  rw [← hw1]
  have c0 := hb7.cell 0
  have c1 := hb7.cell 1
  simp [Fr.cs] at c0 c1
  have HB4 := Lib.hid hb4
  have HT := Lib.hid ht
  clear hb4 hb7 ht hw1
  go_wp2_with fail
  refine (HC.out _).mono ?_
  rintro e w2 ⟨rfl, rfl⟩
  go_wp2_with fail
  refine (HC.out _).mono ?_
  rintro e w2 ⟨rfl, rfl⟩
  go_upto_region 5 with (fail)
  go_wp2_with (refine wpList_store_row rfl 42 (.tmp 4) (.tmp 50) rfl w.heap.size Fr.zero.cs rfl rfl 42 Fr.zero.cs HB4.out fr_info rfl (fr_one _) ?_; rw [setRow_same HB4.out])
  refine bodyPost_ret (v := .tuple #[.agg Fr.zero.cs, .int .i64 0, .int .i64 91]) (r9get_results _ _ _ _ _ _ rfl rfl rfl HB4.out) rfl ⟨rfl, HT.out⟩
set_option maxHeartbeats 3200000 in
set_option maxRecDepth 100000 in
theorem r9_get_large (s : ByteArray) (hpos : 1 < s.size) (hs : s.size ≤ 70368744177664) (x o v : Int) (most : Int) (w : World)
    (hx : ((s[0].toNat : Nat) : Int) = x) (hx0 : 0 ≤ x) (hx1 : x ≤ 255) (hfin : decide (128 ≤ x) = true) (ho : x % 16 = o) (hz : x / 16 % 8 = 0) (hc : control9 o = true)
    (hv : ((s[1].toNat : Nat) : Int) = v) (hv0 : 0 ≤ v) (hv1 : v ≤ 255) (hv2 : 125 < v % 128) :
    Calls Tryz.prog 71 #[.string s, .int .i64 most] w fun e w' =>
      e = .returned (.tuple #[.agg Fr.zero.cs, .int .i64 0, .int .i64 91]) ∧ Touch NoS w w' := by
  obtain ⟨hne, hne2⟩ := str_ne s (by omega)
  have HC := Lib.hid (r9_control o)
  rw [hc] at HC
  have ho2 : 2 < o := by unfold control9 at hc; have := of_decide_eq_true hc; omega
  have hpos' : (0 : Int) < s.size := by omega
  have hpos2 : (1 : Int) < s.size := by omega
  clear hc
  go_enter Tryz.func71, Tryz.ntmps71
  go_wp2_with fail
  go_region
  obtain ⟨w1, hw1⟩ : ∃ w1, w1 = ((w.alloc (.cells Fr.zero.cs 42)).alloc (.cells (Fr.cs ⟨true, o, false, 0, 0, 0, 0, ⟨#[]⟩⟩) 42)).drew := ⟨_, rfl⟩
  obtain ⟨hb4, hb7, ht⟩ : Blk w1 w.heap.size 42 Fr.zero.cs ∧ Blk w1 (w.heap.size + 1) 42 (Fr.cs ⟨true, o, false, 0, 0, 0, 0, ⟨#[]⟩⟩) ∧ Touch NoS w w1 := by rw [hw1]; exact two_blocks _ _ _ _ _
  simp only [Fr.zero, Fr.cs] at hw1
  rw [← hw1]
  have c0 := hb7.cell 0
  have c1 := hb7.cell 1
  simp [Fr.cs] at c0 c1
  have HB4 := Lib.hid hb4
  have HT := Lib.hid ht
  clear hb4 hb7 ht hw1
  go_wp2_with fail
  refine (HC.out _).mono ?_
  rintro e w2 ⟨rfl, rfl⟩
  go_wp2_with fail
  refine (HC.out _).mono ?_
  rintro e w2 ⟨rfl, rfl⟩
  go_wp2_with fail
  refine (HC.out _).mono ?_
  rintro e w2 ⟨rfl, rfl⟩
  go_upto_region 7 with (fail)
  go_wp2_with (refine wpList_store_row rfl 42 (.tmp 4) (.tmp 65) rfl w.heap.size Fr.zero.cs rfl rfl 42 Fr.zero.cs HB4.out fr_info rfl (fr_one _) ?_; rw [setRow_same HB4.out])
  refine bodyPost_ret (v := .tuple #[.agg Fr.zero.cs, .int .i64 0, .int .i64 91]) (r9get_results _ _ _ _ _ _ rfl rfl rfl HB4.out) rfl ⟨rfl, HT.out⟩
end Go.Proofs.YtlnabpoohnphiaaGreat
/- ref09: Get, part 2: one byte alone. -/
namespace Go.Proofs.YtlnabpoohnphiaaGreat
open Go.RowKit
set_option linter.unusedSimpArgs false
set_option linter.unusedVariables false

set_option maxHeartbeats 3200000 in
set_option maxRecDepth 100000 in
theorem r9_get_one (s : ByteArray) (hs : s.size = 1) (x o : Int) (fin cn : Bool) (most : Int) (w : World)
    (hx : ((s[0].toNat : Nat) : Int) = x) (hx0 : 0 ≤ x) (hx1 : x ≤ 255) (hfin : decide (128 ≤ x) = fin) (ho : x % 16 = o) (hz : x / 16 % 8 = 0) (hc : control9 o = cn) (hk : known9 o = true) (hok : cn = true → fin = true) :
    Calls Tryz.prog 71 #[.string s, .int .i64 most] w fun e w' =>
      e = .returned (.tuple #[.agg Fr.zero.cs, .int .i64 0, .int .i64 90]) ∧ Touch NoS w w' := by
  obtain ⟨hne, hne2⟩ := str_ne s (by omega)
  have HC := Lib.hid (r9_control o)
  rw [hc] at HC
  have hG : ∀ W, Calls Tryz.prog 93 #[.string ByteArray.empty] W fun e w' => e = .returned (.tuple #[.int .u64 0, .int .i64 0, .int .i64 80]) ∧ W = w' := fun W => r8_get ByteArray.empty (by decide) W
  have HG := Lib.hid hG
  have hcase : (cn = false ∧ 0 ≤ o ∧ o ≤ 2) ∨ (cn = true ∧ 2 < o) := by
    unfold known9 at hk
    unfold control9 at hc
    have := of_decide_eq_true hk
    cases cn
    · have h2 := of_decide_eq_false hc; left; exact ⟨rfl, by omega, by omega⟩
    · have h2 := of_decide_eq_true hc; right; exact ⟨rfl, by omega⟩
  clear hc hG hk
  rcases hcase with ⟨rfl, o0, o1⟩ | ⟨rfl, o2⟩
  · clear hok
    go_enter Tryz.func71, Tryz.ntmps71
    go_wp2_with fail
    go_region
    obtain ⟨w1, hw1⟩ : ∃ w1, w1 = ((w.alloc (.cells Fr.zero.cs 42)).alloc (.cells (Fr.cs ⟨fin, o, false, 0, 0, 0, 0, ⟨#[]⟩⟩) 42)).drew := ⟨_, rfl⟩
    obtain ⟨hb4, hb7, ht⟩ : Blk w1 w.heap.size 42 Fr.zero.cs ∧ Blk w1 (w.heap.size + 1) 42 (Fr.cs ⟨fin, o, false, 0, 0, 0, 0, ⟨#[]⟩⟩) ∧ Touch NoS w w1 := by rw [hw1]; exact two_blocks _ _ _ _ _
    simp only [Fr.zero, Fr.cs] at hw1
    rw [← hw1]
    have c0 := hb7.cell 0
    have c1 := hb7.cell 1
    simp [Fr.cs] at c0 c1
    have HB4 := Lib.hid hb4
    have HT := Lib.hid ht
    clear hb4 hb7 ht hw1
    go_wp2_with fail
    refine (HC.out _).mono ?_
    rintro e w2 ⟨rfl, rfl⟩
    go_wp2_with fail
    refine (HG.out _).mono ?_
    rintro e w2 ⟨rfl, rfl⟩
    go_upto_region 12 with (fail)
    go_wp2_with (refine wpList_store_row rfl 42 (.tmp 4) (.tmp 78) rfl w.heap.size Fr.zero.cs rfl rfl 42 Fr.zero.cs HB4.out fr_info rfl (fr_one _) ?_; rw [setRow_same HB4.out])
    refine bodyPost_ret (v := .tuple #[.agg Fr.zero.cs, .int .i64 0, .int .i64 90]) (r9get_results _ _ _ _ _ _ rfl rfl rfl HB4.out) rfl ⟨rfl, HT.out⟩
  · obtain rfl := hok rfl
    clear hok
    go_enter Tryz.func71, Tryz.ntmps71
    go_wp2_with fail
    go_region
    obtain ⟨w1, hw1⟩ : ∃ w1, w1 = ((w.alloc (.cells Fr.zero.cs 42)).alloc (.cells (Fr.cs ⟨true, o, false, 0, 0, 0, 0, ⟨#[]⟩⟩) 42)).drew := ⟨_, rfl⟩
    obtain ⟨hb4, hb7, ht⟩ : Blk w1 w.heap.size 42 Fr.zero.cs ∧ Blk w1 (w.heap.size + 1) 42 (Fr.cs ⟨true, o, false, 0, 0, 0, 0, ⟨#[]⟩⟩) ∧ Touch NoS w w1 := by rw [hw1]; exact two_blocks _ _ _ _ _
    simp only [Fr.zero, Fr.cs] at hw1
    rw [← hw1]
    have c0 := hb7.cell 0
    have c1 := hb7.cell 1
    simp [Fr.cs] at c0 c1
    have HB4 := Lib.hid hb4
    have HT := Lib.hid ht
    clear hb4 hb7 ht hw1
    go_wp2_with fail
    refine (HC.out _).mono ?_
    rintro e w2 ⟨rfl, rfl⟩
    go_wp2_with fail
    refine (HC.out _).mono ?_
    rintro e w2 ⟨rfl, rfl⟩
    go_wp2_with fail
    refine (HG.out _).mono ?_
    rintro e w2 ⟨rfl, rfl⟩
    go_upto_region 12 with (fail)
    go_wp2_with (refine wpList_store_row rfl 42 (.tmp 4) (.tmp 78) rfl w.heap.size Fr.zero.cs rfl rfl 42 Fr.zero.cs HB4.out fr_info rfl (fr_one _) ?_; rw [setRow_same HB4.out])
    refine bodyPost_ret (v := .tuple #[.agg Fr.zero.cs, .int .i64 0, .int .i64 90]) (r9get_results _ _ _ _ _ _ rfl rfl rfl HB4.out) rfl ⟨rfl, HT.out⟩
end Go.Proofs.YtlnabpoohnphiaaGreat
