/- frame: Get, behind its first byte. -/
import Derived.Test.YtpadlcllcmodaaaY11
/- frame: Get, behind its first byte. -/
namespace Go.Proofs.Ytpadlcllcmodaaa
open Go.RowKit
set_option linter.unusedSimpArgs false
set_option linter.unusedVariables false

set_option maxHeartbeats 6400000 in
set_option maxRecDepth 100000 in
theorem f_get_one (g off cap : Nat) (hcap : 1 ≤ cap) (hc : cap ≤ maxLen) (x o y : Int) (fin cn : Bool) (most : Int) (w : World)
    (hg : g < w.heap.size) (h0 : w.cell? ⟨g, off, none⟩ = some (.int .u8 x))
    (hy : bits .and .u8 x 128 = y) (hyf : (y != 0) = fin) (ho : bits .and .u8 x 15 = o) (ho0 : 0 ≤ o) (ho1 : o ≤ 15) (hz : bits .and .u8 x 112 = 0)
    (hk : known9 o = true) (hcn : control9 o = cn) (hok : cn = true → fin = true) :
    Calls Try.prog 64 #[.slice (some ⟨g, off, none⟩) 1 cap, .int .i64 most] w fun e w' =>
      e = .returned (.tuple #[.agg Fr.zero.cs, .int .i64 0, .int .i64 90]) ∧ Touch NoS w w' := by
  have HKN := Lib.hid (f_known o)
  have HCN := Lib.hid (f_control o)
  rw [hk] at HKN
  rw [hcn] at HCN
  have HC := Lib.hid hc
  unfold maxLen at hc
  clear hk hcn
  cases cn with
  | false =>
    clear hok
    by_cases h1 : cap = 1
    · subst h1
      go_enter Try.func64, Try.ntmps64
      go_wp2_with fail
      go_region
      go_wp2_with fail
      refine (HCN.out _).mono ?_
      rintro e w1 ⟨rfl, hw1⟩
      obtain ⟨hb4, hb7, ht⟩ : Blk w1 w.heap.size 59 Fr.zero.cs ∧ Blk w1 (w.heap.size + 1) 59 (Fr.cs ⟨fin, o, false, 0, 0, 0, 0, ⟨#[]⟩⟩) ∧ Touch NoS w w1 := by rw [← hw1]; exact two_blocks _ _ _ _ _
      have ca := ht.cell h0
      have c0 := hb7.cell 0
      have c1 := hb7.cell 1
      simp [Fr.cs] at c0 c1
      have HB4 := Lib.hid hb4
      have HT := Lib.hid ht
      have gl : g < w1.heap.size := by have := ht.size; omega
      clear hw1 hb4 hb7 ht h0
      go_wp2_with fail
      refine (HKN.out _).mono ?_
      rintro e w2 ⟨rfl, rfl⟩
      go_wp2_with fail
      refine (m_get_ _ [] 0 _ rfl _ (Rd_nil _ _) (fun x hx => by simp at hx) (Nat.zero_le _) (by have := HC.out; unfold maxLen at *; omega) (by omega)).mono ?_
      rintro e w2 ⟨rfl, ht⟩
      have HB5 := Lib.hid (HB4.out.touch ht (fun h => h))
      have HT2 := Lib.hid (HT.out.trans ht)
      have g1 : (getLen []).1 = 0 := rfl
      have g2 : (getLen []).2.1 = 0 := rfl
      have g3 : (getLen []).2.2 = 80 := rfl
      rw [g1, g2, g3]
      clear g1 g2 g3 ht HB4 HT
      go_wp2_with (refine wpList_store_row rfl 59 (.tmp 4) (.tmp 81) rfl w.heap.size Fr.zero.cs rfl rfl 59 Fr.zero.cs HB5.out fr_info rfl (fr_one _) ?_; rw [setRow_same HB5.out])
      refine bodyPost_ret (v := .tuple #[.agg Fr.zero.cs, .int .i64 0, .int .i64 90]) (get_results _ _ _ _ _ _ rfl rfl rfl HB5.out) rfl ⟨rfl, HT2.out⟩
    · have h1' : (cap == 1) = false := by rw [beq_eq_false_iff_ne]; exact h1
      go_enter Try.func64, Try.ntmps64
      go_wp2_with fail
      go_region
      go_wp2_with fail
      refine (HCN.out _).mono ?_
      rintro e w1 ⟨rfl, hw1⟩
      obtain ⟨hb4, hb7, ht⟩ : Blk w1 w.heap.size 59 Fr.zero.cs ∧ Blk w1 (w.heap.size + 1) 59 (Fr.cs ⟨fin, o, false, 0, 0, 0, 0, ⟨#[]⟩⟩) ∧ Touch NoS w w1 := by rw [← hw1]; exact two_blocks _ _ _ _ _
      have ca := ht.cell h0
      have c0 := hb7.cell 0
      have c1 := hb7.cell 1
      simp [Fr.cs] at c0 c1
      have HB4 := Lib.hid hb4
      have HT := Lib.hid ht
      have gl : g < w1.heap.size := by have := ht.size; omega
      clear hw1 hb4 hb7 ht h0
      go_wp2_with fail
      refine (HKN.out _).mono ?_
      rintro e w2 ⟨rfl, rfl⟩
      go_wp2_with fail
      refine (m_get_ _ [] 0 _ rfl _ (Rd_nil _ _) (fun x hx => by simp at hx) (Nat.zero_le _) (by have := HC.out; unfold maxLen at *; omega) (by omega)).mono ?_
      rintro e w2 ⟨rfl, ht⟩
      have HB5 := Lib.hid (HB4.out.touch ht (fun h => h))
      have HT2 := Lib.hid (HT.out.trans ht)
      have g1 : (getLen []).1 = 0 := rfl
      have g2 : (getLen []).2.1 = 0 := rfl
      have g3 : (getLen []).2.2 = 80 := rfl
      rw [g1, g2, g3]
      clear g1 g2 g3 ht HB4 HT
      go_wp2_with (refine wpList_store_row rfl 59 (.tmp 4) (.tmp 81) rfl w.heap.size Fr.zero.cs rfl rfl 59 Fr.zero.cs HB5.out fr_info rfl (fr_one _) ?_; rw [setRow_same HB5.out])
      refine bodyPost_ret (v := .tuple #[.agg Fr.zero.cs, .int .i64 0, .int .i64 90]) (get_results _ _ _ _ _ _ rfl rfl rfl HB5.out) rfl ⟨rfl, HT2.out⟩
  | true =>
    obtain rfl := hok rfl
    clear hok
    by_cases h1 : cap = 1
    · subst h1
      go_enter Try.func64, Try.ntmps64
      go_wp2_with fail
      go_region
      go_wp2_with fail
      refine (HCN.out _).mono ?_
      rintro e w1 ⟨rfl, hw1⟩
      obtain ⟨hb4, hb7, ht⟩ : Blk w1 w.heap.size 59 Fr.zero.cs ∧ Blk w1 (w.heap.size + 1) 59 (Fr.cs ⟨true, o, false, 0, 0, 0, 0, ⟨#[]⟩⟩) ∧ Touch NoS w w1 := by rw [← hw1]; exact two_blocks _ _ _ _ _
      have ca := ht.cell h0
      have c0 := hb7.cell 0
      have c1 := hb7.cell 1
      simp [Fr.cs] at c0 c1
      have HB4 := Lib.hid hb4
      have HT := Lib.hid ht
      have gl : g < w1.heap.size := by have := ht.size; omega
      clear hw1 hb4 hb7 ht h0
      go_wp2_with fail
      refine (HKN.out _).mono ?_
      rintro e w2 ⟨rfl, rfl⟩
      go_wp2_with fail
      refine (m_get_ _ [] 0 _ rfl _ (Rd_nil _ _) (fun x hx => by simp at hx) (Nat.zero_le _) (by have := HC.out; unfold maxLen at *; omega) (by omega)).mono ?_
      rintro e w2 ⟨rfl, ht⟩
      have HB5 := Lib.hid (HB4.out.touch ht (fun h => h))
      have HT2 := Lib.hid (HT.out.trans ht)
      have g1 : (getLen []).1 = 0 := rfl
      have g2 : (getLen []).2.1 = 0 := rfl
      have g3 : (getLen []).2.2 = 80 := rfl
      rw [g1, g2, g3]
      clear g1 g2 g3 ht HB4 HT
      go_wp2_with (refine wpList_store_row rfl 59 (.tmp 4) (.tmp 81) rfl w.heap.size Fr.zero.cs rfl rfl 59 Fr.zero.cs HB5.out fr_info rfl (fr_one _) ?_; rw [setRow_same HB5.out])
      refine bodyPost_ret (v := .tuple #[.agg Fr.zero.cs, .int .i64 0, .int .i64 90]) (get_results _ _ _ _ _ _ rfl rfl rfl HB5.out) rfl ⟨rfl, HT2.out⟩
    · have h1' : (cap == 1) = false := by rw [beq_eq_false_iff_ne]; exact h1
      go_enter Try.func64, Try.ntmps64
      go_wp2_with fail
      go_region
      go_wp2_with fail
      refine (HCN.out _).mono ?_
      rintro e w1 ⟨rfl, hw1⟩
      obtain ⟨hb4, hb7, ht⟩ : Blk w1 w.heap.size 59 Fr.zero.cs ∧ Blk w1 (w.heap.size + 1) 59 (Fr.cs ⟨true, o, false, 0, 0, 0, 0, ⟨#[]⟩⟩) ∧ Touch NoS w w1 := by rw [← hw1]; exact two_blocks _ _ _ _ _
      have ca := ht.cell h0
      have c0 := hb7.cell 0
      have c1 := hb7.cell 1
      simp [Fr.cs] at c0 c1
      have HB4 := Lib.hid hb4
      have HT := Lib.hid ht
      have gl : g < w1.heap.size := by have := ht.size; omega
      clear hw1 hb4 hb7 ht h0
      go_wp2_with fail
      refine (HKN.out _).mono ?_
      rintro e w2 ⟨rfl, rfl⟩
      go_wp2_with fail
      refine (m_get_ _ [] 0 _ rfl _ (Rd_nil _ _) (fun x hx => by simp at hx) (Nat.zero_le _) (by have := HC.out; unfold maxLen at *; omega) (by omega)).mono ?_
      rintro e w2 ⟨rfl, ht⟩
      have HB5 := Lib.hid (HB4.out.touch ht (fun h => h))
      have HT2 := Lib.hid (HT.out.trans ht)
      have g1 : (getLen []).1 = 0 := rfl
      have g2 : (getLen []).2.1 = 0 := rfl
      have g3 : (getLen []).2.2 = 80 := rfl
      rw [g1, g2, g3]
      clear g1 g2 g3 ht HB4 HT
      go_wp2_with (refine wpList_store_row rfl 59 (.tmp 4) (.tmp 81) rfl w.heap.size Fr.zero.cs rfl rfl 59 Fr.zero.cs HB5.out fr_info rfl (fr_one _) ?_; rw [setRow_same HB5.out])
      refine bodyPost_ret (v := .tuple #[.agg Fr.zero.cs, .int .i64 0, .int .i64 90]) (get_results _ _ _ _ _ _ rfl rfl rfl HB5.out) rfl ⟨rfl, HT2.out⟩
end Go.Proofs.Ytpadlcllcmodaaa
