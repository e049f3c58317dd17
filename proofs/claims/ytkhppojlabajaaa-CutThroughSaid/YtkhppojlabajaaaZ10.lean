/- ref13: Frames. -/
import Derived.Test.YtkhppojlabajaaaZ09
import Derived.Test.YtkhppojlabajaaaZ03
import Derived.Deep.RegionLawGrows
/- ref13: Frames. -/
namespace Go.Proofs.Ytkhppojlabajaaa
open Go.RowKit
set_option linter.unusedSimpArgs false
set_option linter.unusedVariables false

set_option maxHeartbeats 3200000 in
set_option maxRecDepth 100000 in
theorem r13_frames_no (op : Int) (s : ByteArray) (hs : s.size ≤ maxLen) (most : Int) (w : World) (h : (op ≠ 1 ∧ op ≠ 2) ∨ most < 1 ∨ 65536 < most ∨ 1048576 < s.size) :
    Calls Try.prog 19 #[.int .i64 op, .string s, .int .i64 most] w fun e w' => e = .returned (.tuple #[.slice none 0 0, .bool false]) ∧ w = w' := by
  unfold maxLen at hs
  by_cases hop : op = 1 ∨ op = 2
  · have h' : most < 1 ∨ 65536 < most ∨ 1048576 < s.size := by omega
    have hcase : most < 1 ∨ (1 ≤ most ∧ 65536 < most) ∨ (1 ≤ most ∧ most ≤ 65536 ∧ 1048576 < s.size) := by omega
    clear h h'
    rcases hop with rfl | rfl
    all_goals
      rcases hcase with h1 | ⟨h1, h2⟩ | ⟨h1, h2, h3⟩
      all_goals
        go_enter Try.func19, Try.ntmps19
        go_wp2
        go_ret2
        exact ⟨rfl, rfl⟩
  · have q1 : (op != 1) = true := by rw [bne_iff_ne]; omega
    have q2 : (op != 2) = true := by rw [bne_iff_ne]; omega
    have q3 : ¬ op = 1 := by omega
    have q4 : ¬ op = 2 := by omega
    clear h hop
    go_enter Try.func19, Try.ntmps19
    go_wp2
    go_ret2
    exact ⟨rfl, rfl⟩

set_option maxHeartbeats 6400000 in
set_option maxRecDepth 100000 in
theorem r13_frames (op : Int) (hop : op = 1 ∨ op = 2) (s : ByteArray) (hs : s.size ≤ 1048576) (most : Nat) (h1 : 1 ≤ most) (h2 : most ≤ 65536) (n : Nat) (hn : count13 s.size most = n) (w : World) :
    Calls Try.prog 19 #[.int .i64 op, .string s, .int .i64 most] w fun e w' => ∃ v, e = .returned (.tuple #[v, .bool true]) ∧ w'.ownsRow w.heap.size 44 8 v n (frs (cutFs op s most n)) ∧ Touch NoS w w' := by
  obtain ⟨n', hn', f1, f2, f3, f4, f5⟩ := count_facts s.size most hs h1 h2
  obtain rfl : n' = n := by rw [hn] at hn'; omega
  have HF3 := Lib.hid f3
  have HF5 := Lib.hid f5
  have hopb : (op = 1 ∧ (op != 1) = false) ∨ (op = 2 ∧ (op != 1) = true ∧ (op != 2) = false) := by rcases hop with rfl | rfl <;> simp
  obtain ⟨i, hi, hz0, hz1, hz2⟩ := info_parts info_fr
  have h1' : (1 : Int) ≤ most := by omega
  have h2' : (most : Int) ≤ 65536 := by omega
  have hs' : (s.size : Int) ≤ 1048576 := by omega
  clear hn hn' f3 f4 f5 hop
  rcases hopb with ⟨rfl, hq⟩ | ⟨rfl, hq⟩
  · clear hq
    go_enter Try.func19, Try.ntmps19
    go_wp2_with fail
    go_loopw [0, 1, 8] (fun ov dv lv wr => ∃ (k : Nat) (r : ByteArray) (A : Option Addr) (c : Nat), k + 1 ≤ n' ∧ dv = .string r ∧ k * most ≤ s.size ∧ Hid (sb r = (sb s).drop (k * most)) ∧ ov = .int .i64 (if k = 0 then (1 : Int) else 0) ∧ lv = .slice A k c ∧ wr.ownsRow w.heap.size 44 8 (.slice A k c) k (frs ((List.range k).map (cutF (1 : Int) s most n'))) ∧ Touch NoS w wr)
      (fun _ dv _ _ => match dv with | .string r => r.size | _ => 0)
    case atStart => exact ⟨0, s, some ⟨w.heap.size, 0, none⟩, 0, by omega, rfl, by omega, by simp [Hid], rfl, rfl, ⟨rfl, .inr ⟨w.heap.size, 0, #[], rfl, Nat.le_refl _, Blk.new _ _ _, Nat.le_refl _, by simp [maxLen], rfl, rfl⟩⟩, (Touch.refl _ _).alloc _⟩
    case round =>
      obtain ⟨k, r, A, c, hk, rfl, hkm, hrs, rfl, rfl, ho, ht⟩ := hrel
      have HO := Lib.hid ho
      have HT := Lib.hid ht
      have hsz : w.heap.size ≤ wr.heap.size := ht.size
      obtain ⟨P, hP⟩ : ∃ P, P = k * most := ⟨_, rfl⟩
      rw [← hP] at hkm hrs
      have hrz : r.size = s.size - P := by rw [← sb_length r, hrs.out, List.length_drop, sb_length]
      have HRS := Lib.hid hrs.out
      obtain ⟨opk, hopk⟩ : ∃ opk : Int, opk = if k = 0 then (1 : Int) else 0 := ⟨_, rfl⟩
      have hnext : (List.range (k + 1)).map (cutF (1 : Int) s most n') = (List.range k).map (cutF (1 : Int) s most n') ++ [cutF (1 : Int) s most n' k] := by rw [List.range_succ, List.map_append]; rfl
      have HNX := Lib.hid hnext
      have hP1 : (k + 1) * most = P + most := by rw [Nat.add_mul, Nat.one_mul, hP]
      have HP1 := Lib.hid hP1
      by_cases hgt : most < r.size
      · have hk2 : k + 2 ≤ n' := by
          rcases Nat.lt_or_ge (k + 1) n' with h | h
          · omega
          · have h3 : n' * most ≤ (k + 1) * most := Nat.mul_le_mul_right most h
            have := HF3.out
            omega
        have HFR : Hid (cutF (1 : Int) s most n' k = ⟨false, opk, false, 0, 0, 0, 0, r.extract 0 most⟩) := by
          show cutF (1 : Int) s most n' k = _
          unfold cutF
          rw [← hP, ← hopk, decide_eq_false (by omega)]
          congr 1
          apply sb_inj
          rw [sb_extract, sb_extract, hrs.out, List.drop_zero, show min (P + most) s.size = P + most from by omega, List.drop_take, show P + most - P = most from by omega]
        rw [← hopk]
        have HR2 : Hid (sb (r.extract most r.size) = (sb s).drop (P + most)) := by
          show sb (r.extract most r.size) = _
          rw [sb_extract, List.take_of_length_le (by rw [sb_length]; exact Nat.le_refl _), hrs.out, List.drop_drop]
        have HRN : Hid (Rd (wr.alloc (.cells (Fr.cl ⟨false, opk, false, 0, 0, 0, 0, r.extract 0 most⟩).toArray 44)) (some ⟨wr.heap.size, 0, none⟩) (Fr.cl ⟨false, opk, false, 0, 0, 0, 0, r.extract 0 most⟩)) := Rd.new wr _ 44 (0, 0)
        have HFO : Hid (∀ u ∈ Fr.cl ⟨false, opk, false, 0, 0, 0, 0, r.extract 0 most⟩, u.oneCell' = true) := by have := frs_one [⟨false, opk, false, 0, 0, 0, 0, r.extract 0 most⟩]; rw [frs_single] at this; exact this
        have j0 : (0 : Int) ≤ most := by omega
        have j1 : (most : Int) ≤ r.size := by omega
        have j2 : (most : Int) < r.size := by omega
        have hrl : r.size ≤ s.size := by omega
        have hPm : P + most ≤ s.size := by omega
        have HRZ := Lib.hid hrz
        clear ho ht hP hopk hnext hrs hrz hP1
        go_upto_region 5 with (fail)
        go_wp2_with (at_builtin; refine wpList_app_row _ rfl (.tmp 33) (.tmp 39) 23 rfl w.heap.size 44 i _ 8 40 Try.underlying23 hi hz0 hz1 hz2 rfl (by decide) _ k (frs ((List.range k).map (cutF (1 : Int) s most n'))) rfl (own_no HO.out ((Touch.refl _ _).alloc _)) (some ⟨wr.heap.size, 0, none⟩) 1 1 (Fr.cl ⟨false, opk, false, 0, 0, 0, 0, r.extract 0 most⟩) rfl rfl HRN.out HFO.out (by unfold maxLen; omega) (by omega) (by simp; omega) ?_)
        intro v3 w3 ho3 hgr _
        obtain ⟨A3, c3, rfl, _, _, _, _, _⟩ := own_cases ho3
        have HO3 := Lib.hid ho3
        have HT3 := Lib.hid ((HT.out.alloc (.cells (Fr.cl ⟨false, opk, false, 0, 0, 0, 0, r.extract 0 most⟩).toArray 44)).grown hgr (fun q hq hl => absurd (own_base HO.out hq) (by omega)))
        clear ho3 hgr HO HT
        go_wp2_with fail
        go_region
        all_goals
          try simp [Act.put]
          go_wp2_with fail
          go_roundw
          · refine ⟨k + 1, r.extract most r.size, A3, c3, by omega, rfl, by rw [HP1.out]; exact hPm, by show sb _ = _; rw [HP1.out]; exact HR2.out, by rw [if_neg (by omega)], rfl, ?_, HT3.out.drew⟩
            rw [HNX.out, frs_append, HFR.out, frs_single]
            exact own_no HO3.out (Touch.refl _ _).drew
          · show (r.extract most r.size).size < r.size
            simp
            omega
      · have hkn : k + 1 = n' := by
          by_cases hn1 : n' = 1
          · omega
          · have h3 := HF5.out hn1
            rcases Nat.lt_or_ge (k + 1) n' with h | h
            · have h4 : (k + 1) * most ≤ (n' - 1) * most := Nat.mul_le_mul_right most (by omega)
              omega
            · omega
        have HFR : Hid (cutF (1 : Int) s most n' k = ⟨true, opk, false, 0, 0, 0, 0, r⟩) := by
          show cutF (1 : Int) s most n' k = _
          unfold cutF
          rw [← hP, ← hopk, decide_eq_true hkn]
          congr 1
          apply sb_inj
          rw [sb_extract, hrs.out, show min (P + most) s.size = s.size from by omega, List.take_of_length_le (by rw [sb_length]; exact Nat.le_refl _)]
        rw [← hopk]
        have HRN : Hid (Rd (wr.alloc (.cells (Fr.cl ⟨true, opk, false, 0, 0, 0, 0, r⟩).toArray 44)) (some ⟨wr.heap.size, 0, none⟩) (Fr.cl ⟨true, opk, false, 0, 0, 0, 0, r⟩)) := Rd.new wr _ 44 (0, 0)
        have HFO : Hid (∀ u ∈ Fr.cl ⟨true, opk, false, 0, 0, 0, 0, r⟩, u.oneCell' = true) := by have := frs_one [⟨true, opk, false, 0, 0, 0, 0, r⟩]; rw [frs_single] at this; exact this
        have j1 : (r.size : Int) ≤ most := by omega
        have hrl : r.size ≤ s.size := by omega
        have HKN := Lib.hid hkn
        clear ho ht hP hopk hnext hrs hrz hP1 hgt
        go_upto_region 7 with (fail)
        go_wp2_with (at_builtin; refine wpList_app_row _ rfl (.tmp 44) (.tmp 48) 23 rfl w.heap.size 44 i _ 8 40 Try.underlying23 hi hz0 hz1 hz2 rfl (by decide) _ k (frs ((List.range k).map (cutF (1 : Int) s most n'))) rfl (own_no HO.out ((Touch.refl _ _).alloc _)) (some ⟨wr.heap.size, 0, none⟩) 1 1 (Fr.cl ⟨true, opk, false, 0, 0, 0, 0, r⟩) rfl rfl HRN.out HFO.out (by unfold maxLen; omega) (by omega) (by simp; omega) ?_)
        intro v3 w3 ho3 hgr _
        have HO3 := Lib.hid ho3
        have HT3 := Lib.hid ((HT.out.alloc (.cells (Fr.cl ⟨true, opk, false, 0, 0, 0, 0, r⟩).toArray 44)).grown hgr (fun q hq hl => absurd (own_base HO.out hq) (by omega)))
        clear ho3 hgr HO HT
        go_wp2
        go_ret2
        refine ⟨v3, rfl, ?_, HT3.out⟩
        have e := HKN.out
        subst e
        unfold cutFs
        rw [HNX.out, frs_append, HFR.out, frs_single]
        exact HO3.out
  · clear hq
    go_enter Try.func19, Try.ntmps19
    go_wp2_with fail
    go_loopw [0, 1, 8] (fun ov dv lv wr => ∃ (k : Nat) (r : ByteArray) (A : Option Addr) (c : Nat), k + 1 ≤ n' ∧ dv = .string r ∧ k * most ≤ s.size ∧ Hid (sb r = (sb s).drop (k * most)) ∧ ov = .int .i64 (if k = 0 then (2 : Int) else 0) ∧ lv = .slice A k c ∧ wr.ownsRow w.heap.size 44 8 (.slice A k c) k (frs ((List.range k).map (cutF (2 : Int) s most n'))) ∧ Touch NoS w wr)
      (fun _ dv _ _ => match dv with | .string r => r.size | _ => 0)
    case atStart => exact ⟨0, s, some ⟨w.heap.size, 0, none⟩, 0, by omega, rfl, by omega, by simp [Hid], rfl, rfl, ⟨rfl, .inr ⟨w.heap.size, 0, #[], rfl, Nat.le_refl _, Blk.new _ _ _, Nat.le_refl _, by simp [maxLen], rfl, rfl⟩⟩, (Touch.refl _ _).alloc _⟩
    case round =>
      obtain ⟨k, r, A, c, hk, rfl, hkm, hrs, rfl, rfl, ho, ht⟩ := hrel
      have HO := Lib.hid ho
      have HT := Lib.hid ht
      have hsz : w.heap.size ≤ wr.heap.size := ht.size
      obtain ⟨P, hP⟩ : ∃ P, P = k * most := ⟨_, rfl⟩
      rw [← hP] at hkm hrs
      have hrz : r.size = s.size - P := by rw [← sb_length r, hrs.out, List.length_drop, sb_length]
      have HRS := Lib.hid hrs.out
      obtain ⟨opk, hopk⟩ : ∃ opk : Int, opk = if k = 0 then (2 : Int) else 0 := ⟨_, rfl⟩
      have hnext : (List.range (k + 1)).map (cutF (2 : Int) s most n') = (List.range k).map (cutF (2 : Int) s most n') ++ [cutF (2 : Int) s most n' k] := by rw [List.range_succ, List.map_append]; rfl
      have HNX := Lib.hid hnext
      have hP1 : (k + 1) * most = P + most := by rw [Nat.add_mul, Nat.one_mul, hP]
      have HP1 := Lib.hid hP1
      by_cases hgt : most < r.size
      · have hk2 : k + 2 ≤ n' := by
          rcases Nat.lt_or_ge (k + 1) n' with h | h
          · omega
          · have h3 : n' * most ≤ (k + 1) * most := Nat.mul_le_mul_right most h
            have := HF3.out
            omega
        have HFR : Hid (cutF (2 : Int) s most n' k = ⟨false, opk, false, 0, 0, 0, 0, r.extract 0 most⟩) := by
          show cutF (2 : Int) s most n' k = _
          unfold cutF
          rw [← hP, ← hopk, decide_eq_false (by omega)]
          congr 1
          apply sb_inj
          rw [sb_extract, sb_extract, hrs.out, List.drop_zero, show min (P + most) s.size = P + most from by omega, List.drop_take, show P + most - P = most from by omega]
        rw [← hopk]
        have HR2 : Hid (sb (r.extract most r.size) = (sb s).drop (P + most)) := by
          show sb (r.extract most r.size) = _
          rw [sb_extract, List.take_of_length_le (by rw [sb_length]; exact Nat.le_refl _), hrs.out, List.drop_drop]
        have HRN : Hid (Rd (wr.alloc (.cells (Fr.cl ⟨false, opk, false, 0, 0, 0, 0, r.extract 0 most⟩).toArray 44)) (some ⟨wr.heap.size, 0, none⟩) (Fr.cl ⟨false, opk, false, 0, 0, 0, 0, r.extract 0 most⟩)) := Rd.new wr _ 44 (0, 0)
        have HFO : Hid (∀ u ∈ Fr.cl ⟨false, opk, false, 0, 0, 0, 0, r.extract 0 most⟩, u.oneCell' = true) := by have := frs_one [⟨false, opk, false, 0, 0, 0, 0, r.extract 0 most⟩]; rw [frs_single] at this; exact this
        have j0 : (0 : Int) ≤ most := by omega
        have j1 : (most : Int) ≤ r.size := by omega
        have j2 : (most : Int) < r.size := by omega
        have hrl : r.size ≤ s.size := by omega
        have hPm : P + most ≤ s.size := by omega
        have HRZ := Lib.hid hrz
        clear ho ht hP hopk hnext hrs hrz hP1
        go_upto_region 5 with (fail)
        go_wp2_with (at_builtin; refine wpList_app_row _ rfl (.tmp 33) (.tmp 39) 23 rfl w.heap.size 44 i _ 8 40 Try.underlying23 hi hz0 hz1 hz2 rfl (by decide) _ k (frs ((List.range k).map (cutF (2 : Int) s most n'))) rfl (own_no HO.out ((Touch.refl _ _).alloc _)) (some ⟨wr.heap.size, 0, none⟩) 1 1 (Fr.cl ⟨false, opk, false, 0, 0, 0, 0, r.extract 0 most⟩) rfl rfl HRN.out HFO.out (by unfold maxLen; omega) (by omega) (by simp; omega) ?_)
        intro v3 w3 ho3 hgr _
        obtain ⟨A3, c3, rfl, _, _, _, _, _⟩ := own_cases ho3
        have HO3 := Lib.hid ho3
        have HT3 := Lib.hid ((HT.out.alloc (.cells (Fr.cl ⟨false, opk, false, 0, 0, 0, 0, r.extract 0 most⟩).toArray 44)).grown hgr (fun q hq hl => absurd (own_base HO.out hq) (by omega)))
        clear ho3 hgr HO HT
        go_wp2_with fail
        go_region
        all_goals
          try simp [Act.put]
          go_wp2_with fail
          go_roundw
          · refine ⟨k + 1, r.extract most r.size, A3, c3, by omega, rfl, by rw [HP1.out]; exact hPm, by show sb _ = _; rw [HP1.out]; exact HR2.out, by rw [if_neg (by omega)], rfl, ?_, HT3.out.drew⟩
            rw [HNX.out, frs_append, HFR.out, frs_single]
            exact own_no HO3.out (Touch.refl _ _).drew
          · show (r.extract most r.size).size < r.size
            simp
            omega
      · have hkn : k + 1 = n' := by
          by_cases hn1 : n' = 1
          · omega
          · have h3 := HF5.out hn1
            rcases Nat.lt_or_ge (k + 1) n' with h | h
            · have h4 : (k + 1) * most ≤ (n' - 1) * most := Nat.mul_le_mul_right most (by omega)
              omega
            · omega
        have HFR : Hid (cutF (2 : Int) s most n' k = ⟨true, opk, false, 0, 0, 0, 0, r⟩) := by
          show cutF (2 : Int) s most n' k = _
          unfold cutF
          rw [← hP, ← hopk, decide_eq_true hkn]
          congr 1
          apply sb_inj
          rw [sb_extract, hrs.out, show min (P + most) s.size = s.size from by omega, List.take_of_length_le (by rw [sb_length]; exact Nat.le_refl _)]
        rw [← hopk]
        have HRN : Hid (Rd (wr.alloc (.cells (Fr.cl ⟨true, opk, false, 0, 0, 0, 0, r⟩).toArray 44)) (some ⟨wr.heap.size, 0, none⟩) (Fr.cl ⟨true, opk, false, 0, 0, 0, 0, r⟩)) := Rd.new wr _ 44 (0, 0)
        have HFO : Hid (∀ u ∈ Fr.cl ⟨true, opk, false, 0, 0, 0, 0, r⟩, u.oneCell' = true) := by have := frs_one [⟨true, opk, false, 0, 0, 0, 0, r⟩]; rw [frs_single] at this; exact this
        have j1 : (r.size : Int) ≤ most := by omega
        have hrl : r.size ≤ s.size := by omega
        have HKN := Lib.hid hkn
        clear ho ht hP hopk hnext hrs hrz hP1 hgt
        go_upto_region 7 with (fail)
        go_wp2_with (at_builtin; refine wpList_app_row _ rfl (.tmp 44) (.tmp 48) 23 rfl w.heap.size 44 i _ 8 40 Try.underlying23 hi hz0 hz1 hz2 rfl (by decide) _ k (frs ((List.range k).map (cutF (2 : Int) s most n'))) rfl (own_no HO.out ((Touch.refl _ _).alloc _)) (some ⟨wr.heap.size, 0, none⟩) 1 1 (Fr.cl ⟨true, opk, false, 0, 0, 0, 0, r⟩) rfl rfl HRN.out HFO.out (by unfold maxLen; omega) (by omega) (by simp; omega) ?_)
        intro v3 w3 ho3 hgr _
        have HO3 := Lib.hid ho3
        have HT3 := Lib.hid ((HT.out.alloc (.cells (Fr.cl ⟨true, opk, false, 0, 0, 0, 0, r⟩).toArray 44)).grown hgr (fun q hq hl => absurd (own_base HO.out hq) (by omega)))
        clear ho3 hgr HO HT
        go_wp2
        go_ret2
        refine ⟨v3, rfl, ?_, HT3.out⟩
        have e := HKN.out
        subst e
        unfold cutFs
        rw [HNX.out, frs_append, HFR.out, frs_single]
        exact HO3.out
end Go.Proofs.Ytkhppojlabajaaa
