/- cut: Frames. | ref13: Frames. -/
import Derived.Test.YtlnabpoohnphiaaGreatB18
import Derived.Test.YtlnabpoohnphiaaGreatB04
import Derived.Test.YtlnabpoohnphiaaGreatB01
import Derived.OwnWalk
import Derived.Deep.RegionLawGrows
/- cut: Frames. -/
namespace Go.Proofs.YtlnabpoohnphiaaGreat
open Go.RowKit
set_option linter.unusedSimpArgs false
set_option linter.unusedVariables false

/-- The frame i of n of a message. -/
def cutF (op : Int) (s : ByteArray) (most n i : Nat) : Fr := ⟨decide (i + 1 = n), if i = 0 then op else 0, false, 0, 0, 0, 0, s.extract (i * most) (min (i * most + most) s.size)⟩
def cutFs (op : Int) (s : ByteArray) (most n : Nat) : List Fr := (List.range n).map (cutF op s most n)
theorem count_facts (size most : Nat) (h0 : size ≤ 1048576) (h1 : 1 ≤ most) (h2 : most ≤ 65536) : ∃ n : Nat, count13 size most = n ∧ 1 ≤ n ∧ n ≤ 1048576 + 1 ∧ size ≤ n * most ∧ (n - 1) * most ≤ size ∧ (n ≠ 1 → (n - 1) * most < size) := by
  have hc : count13 size most = max (((size : Int) + most - 1) / most) 1 := if_neg (by omega)
  have hd : ((size : Int) + most - 1) / most = (((size + most - 1) / most : Nat) : Int) := by
    rw [Int.natCast_ediv]
    congr 1
    omega
  have hm : ∀ q, (size + most - 1) / most = q → q * most ≤ size + most - 1 ∧ size + most - 1 < (q + 1) * most := fun q hq => by
    have h3 := Nat.div_add_mod (size + most - 1) most
    have h4 := Nat.mod_lt (size + most - 1) (show most > 0 by omega)
    rw [hq] at h3
    rw [Nat.add_mul, Nat.one_mul, Nat.mul_comm q most]
    omega
  obtain ⟨q, hq⟩ : ∃ q, (size + most - 1) / most = q := ⟨_, rfl⟩
  obtain ⟨h3, h4⟩ := hm q hq
  rw [hq] at hd
  have hle : q ≤ size + most - 1 := by rw [← hq]; exact Nat.div_le_self _ _
  rw [Nat.add_mul, Nat.one_mul] at h4
  rcases Nat.eq_zero_or_pos q with h5 | h5
  · subst h5
    refine ⟨1, by rw [hc, hd]; rfl, by omega, by omega, by omega, by omega, fun h => absurd rfl h⟩
  · have hq1 : (q - 1) * most + most = q * most := by
      obtain ⟨p, rfl⟩ : ∃ p, q = p + 1 := ⟨q - 1, by omega⟩
      rw [Nat.add_sub_cancel, Nat.add_mul, Nat.one_mul]
    have hql : q ≤ 1048577 := by
      have h6 : q * 1 ≤ q * most := Nat.mul_le_mul_left q h1
      have h7 : (q - 1) * 1 ≤ (q - 1) * most := Nat.mul_le_mul_left _ h1
      omega
    refine ⟨q, by rw [hc, hd]; omega, by omega, hql, by omega, by omega, fun _ => by omega⟩

set_option maxHeartbeats 3200000 in
set_option maxRecDepth 100000 in
theorem k_frames_no (op : Int) (s : ByteArray) (hs : s.size ≤ maxLen) (most : Int) (w : World) (h : (op ≠ 1 ∧ op ≠ 2) ∨ count13 s.size most = 0) :
    Calls Tryz.prog 90 #[.int .i64 op, .string s, .int .i64 most] w fun e w' => e = .returned (.tuple #[.slice none 0 0, .int .i64 130]) ∧ w = w' := by
  have HC := Lib.hid (fun W => k_count s.size most W)
  obtain ⟨n, hn⟩ : ∃ n, n = count13 s.size most := ⟨_, rfl⟩
  rw [← hn] at HC h
  unfold maxLen at hs
  clear hn
  rcases h with ⟨h1, h2⟩ | rfl
  · have q1 : (op != 1) = true := by rw [bne_iff_ne]; exact h1
    have q2 : (op != 2) = true := by rw [bne_iff_ne]; exact h2
    go_enter Tryz.func90, Tryz.ntmps90
    go_wp2_with fail
    refine (HC.out _).mono ?_
    rintro e w1 ⟨rfl, rfl⟩
    go_wp2
    go_ret2
    exact ⟨rfl, rfl⟩
  · have hcase : op = 1 ∨ op = 2 ∨ (op ≠ 1 ∧ op ≠ 2 ∧ (op != 1) = true ∧ (op != 2) = true) := by
      by_cases h1 : op = 1
      · exact .inl h1
      by_cases h2 : op = 2
      · exact .inr (.inl h2)
      exact .inr (.inr ⟨h1, h2, by rw [bne_iff_ne]; exact h1, by rw [bne_iff_ne]; exact h2⟩)
    rcases hcase with rfl | rfl | ⟨h1, h2, q1, q2⟩
    all_goals
      go_enter Tryz.func90, Tryz.ntmps90
      go_wp2_with fail
      refine (HC.out _).mono ?_
      rintro e w1 ⟨rfl, rfl⟩
      go_wp2
      go_ret2
      exact ⟨rfl, rfl⟩

set_option maxHeartbeats 6400000 in
set_option maxRecDepth 100000 in
theorem k_frames (op : Int) (hop : op = 1 ∨ op = 2) (s : ByteArray) (hs : s.size ≤ 1048576) (most : Nat) (h1 : 1 ≤ most) (h2 : most ≤ 65536) (n : Nat) (hn : count13 s.size most = n) (w : World) :
    Calls Tryz.prog 90 #[.int .i64 op, .string s, .int .i64 most] w fun e w' => ∃ v, e = .returned (.tuple #[v, .int .i64 0]) ∧ w'.ownsRow w.heap.size 42 8 v n (frs (cutFs op s most n)) ∧ Touch NoS w w' := by
  have HC := Lib.hid (fun W => k_count s.size most W)
  rw [hn] at HC
  obtain ⟨n', hn', f1, f2, f3, f4, f5⟩ := count_facts s.size most hs h1 h2
  obtain rfl : n' = n := by rw [hn] at hn'; omega
  have HF4 := Lib.hid f4
  have hnz : ((n' : Int) == 0) = false := by rw [beq_eq_false_iff_ne]; omega
  have hnz2 : ¬ (n' : Int) = 0 := by omega
  have hopb : ((op != 1) && (op != 2)) = false := by rcases hop with rfl | rfl <;> rfl
  obtain ⟨i, hi, hz0, hz1, hz2⟩ := info_parts info_fr
  have HOP := Lib.hid hop
  clear hn hn' f3 f4 f5
  rcases hop with rfl | rfl
  · skip
    go_enter Tryz.func90, Tryz.ntmps90
    go_wp2_with fail
    refine (HC.out _).mono ?_
    rintro e w1 ⟨rfl, rfl⟩
    go_wp2_with (at_make; refine wpList_make_own _ rfl (.const (.int .i64 0)) (.tmp 25) 51 rfl w.heap.size 42 i _ 8 Tryz.underlying51 hi hz0 hz1 .i64 .i64 (n' : Int) n' rfl rfl rfl (by rw [hz2]; omega) (by unfold maxLen; omega) (Nat.le_refl _) ?_)
    intro w2 ho2 hgr
    have HO2 := Lib.hid ho2
    have HT2 : Hid (Touch NoS w w2) := (Touch.refl NoS w).grown hgr (by intro k hk; cases hk)
    clear ho2 hgr
    go_wp2_with fail
    go_loopw [0, 9, 28] (fun ov lv iv wr => ∃ (k : Nat) (A : Option Addr) (c : Nat), k ≤ n' ∧ iv = .int .i64 k ∧ ov = .int .i64 (if k = 0 then (1 : Int) else 0) ∧ lv = .slice A k c ∧ wr.ownsRow w.heap.size 42 8 (.slice A k c) k (frs ((List.range k).map (cutF (1 : Int) s most n'))) ∧ Touch NoS w wr)
      (fun _ _ iv _ => n' - (intOf iv).toNat)
    case atStart => exact ⟨0, _, _, by omega, rfl, rfl, rfl, HO2.out, HT2.out⟩
    case round =>
      obtain ⟨k, A, c, hk, rfl, rfl, rfl, ho, ht⟩ := hrel
      have HO := Lib.hid ho
      have HT := Lib.hid ht
      have hsz : w.heap.size ≤ wr.heap.size := ht.size
      by_cases hlt : k < n'
      · obtain ⟨P, hP⟩ : ∃ P, P = k * most := ⟨_, rfl⟩
        have hPs : P ≤ s.size := by
          have h3 : k * most ≤ (n' - 1) * most := Nat.mul_le_mul_right most (by omega)
          have := HF4.out
          omega
        obtain ⟨E, hE⟩ : ∃ E, E = min (P + most) s.size := ⟨_, rfl⟩
        have hPE : P ≤ E := by omega
        have hEs : E ≤ s.size := by omega
        have m1 : (k : Int) * most = P := by rw [hP]; exact (Int.natCast_mul k most).symm
        have m2 : ((k : Int) + 1) * most = P + most := by rw [Int.add_mul, m1]; omega
        have w1' : IntKind.i64.wrap ((k : Int) * most) = P := by rw [m1]; exact IntWalk.i64_in _ (by omega)
        have w2' : IntKind.i64.wrap (((k : Int) + 1) * most) = (P : Int) + most := by rw [m2]; exact IntWalk.i64_in _ (by omega)
        have m3 : min ((P : Int) + most) s.size = (E : Int) := by omega
        have b1 : ((k : Int) == (n' : Int) - 1) = decide (k + 1 = n') := by
          by_cases h : k + 1 = n'
          · rw [decide_eq_true h, beq_iff_eq]; omega
          · rw [decide_eq_false h, beq_eq_false_iff_ne]; omega
        obtain ⟨fin, hfin⟩ : ∃ fin, fin = decide (k + 1 = n') := ⟨_, rfl⟩
        rw [← hfin] at b1
        obtain ⟨opk, hopk⟩ : ∃ opk : Int, opk = if k = 0 then (1 : Int) else 0 := ⟨_, rfl⟩
        have HFR : Hid (cutF (1 : Int) s most n' k = ⟨fin, opk, false, 0, 0, 0, 0, s.extract P E⟩) := by
          show cutF (1 : Int) s most n' k = _
          unfold cutF
          rw [← hP, ← hE, ← hfin, ← hopk]
        have hnext : (List.range (k + 1)).map (cutF (1 : Int) s most n') = (List.range k).map (cutF (1 : Int) s most n') ++ [cutF (1 : Int) s most n' k] := by rw [List.range_succ, List.map_append]; rfl
        have HNX := Lib.hid hnext
        rw [← hopk]
        have j1 : (P : Int) ≤ E := by omega
        have j2 : (E : Int) ≤ s.size := by omega
        have HRN : Hid (Rd (wr.alloc (.cells (Fr.cl ⟨fin, opk, false, 0, 0, 0, 0, s.extract P E⟩).toArray 42)) (some ⟨wr.heap.size, 0, none⟩) (Fr.cl ⟨fin, opk, false, 0, 0, 0, 0, s.extract P E⟩)) := Rd.new wr _ 42 (0, 0)
        have HFO : Hid (∀ u ∈ Fr.cl ⟨fin, opk, false, 0, 0, 0, 0, s.extract P E⟩, u.oneCell' = true) := by have := frs_one [⟨fin, opk, false, 0, 0, 0, 0, s.extract P E⟩]; rw [frs_single] at this; exact this
        clear ho ht hP hE hfin hopk hnext HO2 HT2 m2
        go_upto_region 8 with (fail)
        go_wp2_with (at_builtin; refine wpList_app_row _ rfl (.tmp 31) (.tmp 50) 51 rfl w.heap.size 42 i _ 8 40 Tryz.underlying51 hi hz0 hz1 hz2 rfl (by decide) _ k (frs ((List.range k).map (cutF (1 : Int) s most n'))) rfl (own_no HO.out ((Touch.refl _ _).alloc _)) (some ⟨wr.heap.size, 0, none⟩) 1 1 (Fr.cl ⟨fin, opk, false, 0, 0, 0, 0, s.extract P E⟩) rfl rfl HRN.out HFO.out (by unfold maxLen; omega) (by omega) (by simp; omega) ?_)
        intro v3 w3 ho3 hgr _
        obtain ⟨A3, c3, rfl, _, _, _, _, _⟩ := own_cases ho3
        have HO3 := Lib.hid ho3
        have HT3 := Lib.hid ((HT.out.alloc (.cells (Fr.cl ⟨fin, opk, false, 0, 0, 0, 0, s.extract P E⟩).toArray 42)).grown hgr (fun q hq hl => absurd (own_base HO.out hq) (by omega)))
        clear ho3 hgr HO HT
        go_wp2_with fail
        go_roundw
        · refine ⟨k + 1, A3, c3, by omega, by go_num, by rw [if_neg (by omega)], rfl, ?_, HT3.out⟩
          rw [HNX.out, frs_append, HFR.out, frs_single]
          exact HO3.out
        · simp [intOf]; omega
      · have hkn : k = n' := by omega
        subst hkn
        clear ho ht HO2 HT2
        go_wp2
        go_ret2
        exact ⟨_, rfl, HO.out, HT.out⟩
  · skip
    go_enter Tryz.func90, Tryz.ntmps90
    go_wp2_with fail
    refine (HC.out _).mono ?_
    rintro e w1 ⟨rfl, rfl⟩
    go_wp2_with (at_make; refine wpList_make_own _ rfl (.const (.int .i64 0)) (.tmp 25) 51 rfl w.heap.size 42 i _ 8 Tryz.underlying51 hi hz0 hz1 .i64 .i64 (n' : Int) n' rfl rfl rfl (by rw [hz2]; omega) (by unfold maxLen; omega) (Nat.le_refl _) ?_)
    intro w2 ho2 hgr
    have HO2 := Lib.hid ho2
    have HT2 : Hid (Touch NoS w w2) := (Touch.refl NoS w).grown hgr (by intro k hk; cases hk)
    clear ho2 hgr
    go_wp2_with fail
    go_loopw [0, 9, 28] (fun ov lv iv wr => ∃ (k : Nat) (A : Option Addr) (c : Nat), k ≤ n' ∧ iv = .int .i64 k ∧ ov = .int .i64 (if k = 0 then (2 : Int) else 0) ∧ lv = .slice A k c ∧ wr.ownsRow w.heap.size 42 8 (.slice A k c) k (frs ((List.range k).map (cutF (2 : Int) s most n'))) ∧ Touch NoS w wr)
      (fun _ _ iv _ => n' - (intOf iv).toNat)
    case atStart => exact ⟨0, _, _, by omega, rfl, rfl, rfl, HO2.out, HT2.out⟩
    case round =>
      obtain ⟨k, A, c, hk, rfl, rfl, rfl, ho, ht⟩ := hrel
      have HO := Lib.hid ho
      have HT := Lib.hid ht
      have hsz : w.heap.size ≤ wr.heap.size := ht.size
      by_cases hlt : k < n'
      · obtain ⟨P, hP⟩ : ∃ P, P = k * most := ⟨_, rfl⟩
        have hPs : P ≤ s.size := by
          have h3 : k * most ≤ (n' - 1) * most := Nat.mul_le_mul_right most (by omega)
          have := HF4.out
          omega
        obtain ⟨E, hE⟩ : ∃ E, E = min (P + most) s.size := ⟨_, rfl⟩
        have hPE : P ≤ E := by omega
        have hEs : E ≤ s.size := by omega
        have m1 : (k : Int) * most = P := by rw [hP]; exact (Int.natCast_mul k most).symm
        have m2 : ((k : Int) + 1) * most = P + most := by rw [Int.add_mul, m1]; omega
        have w1' : IntKind.i64.wrap ((k : Int) * most) = P := by rw [m1]; exact IntWalk.i64_in _ (by omega)
        have w2' : IntKind.i64.wrap (((k : Int) + 1) * most) = (P : Int) + most := by rw [m2]; exact IntWalk.i64_in _ (by omega)
        have m3 : min ((P : Int) + most) s.size = (E : Int) := by omega
        have b1 : ((k : Int) == (n' : Int) - 1) = decide (k + 1 = n') := by
          by_cases h : k + 1 = n'
          · rw [decide_eq_true h, beq_iff_eq]; omega
          · rw [decide_eq_false h, beq_eq_false_iff_ne]; omega
        obtain ⟨fin, hfin⟩ : ∃ fin, fin = decide (k + 1 = n') := ⟨_, rfl⟩
        rw [← hfin] at b1
        obtain ⟨opk, hopk⟩ : ∃ opk : Int, opk = if k = 0 then (2 : Int) else 0 := ⟨_, rfl⟩
        have HFR : Hid (cutF (2 : Int) s most n' k = ⟨fin, opk, false, 0, 0, 0, 0, s.extract P E⟩) := by
          show cutF (2 : Int) s most n' k = _
          unfold cutF
          rw [← hP, ← hE, ← hfin, ← hopk]
        have hnext : (List.range (k + 1)).map (cutF (2 : Int) s most n') = (List.range k).map (cutF (2 : Int) s most n') ++ [cutF (2 : Int) s most n' k] := by rw [List.range_succ, List.map_append]; rfl
        have HNX := Lib.hid hnext
        rw [← hopk]
        have j1 : (P : Int) ≤ E := by omega
        have j2 : (E : Int) ≤ s.size := by omega
        have HRN : Hid (Rd (wr.alloc (.cells (Fr.cl ⟨fin, opk, false, 0, 0, 0, 0, s.extract P E⟩).toArray 42)) (some ⟨wr.heap.size, 0, none⟩) (Fr.cl ⟨fin, opk, false, 0, 0, 0, 0, s.extract P E⟩)) := Rd.new wr _ 42 (0, 0)
        have HFO : Hid (∀ u ∈ Fr.cl ⟨fin, opk, false, 0, 0, 0, 0, s.extract P E⟩, u.oneCell' = true) := by have := frs_one [⟨fin, opk, false, 0, 0, 0, 0, s.extract P E⟩]; rw [frs_single] at this; exact this
        clear ho ht hP hE hfin hopk hnext HO2 HT2 m2
        go_upto_region 8 with (fail)
        go_wp2_with (at_builtin; refine wpList_app_row _ rfl (.tmp 31) (.tmp 50) 51 rfl w.heap.size 42 i _ 8 40 Tryz.underlying51 hi hz0 hz1 hz2 rfl (by decide) _ k (frs ((List.range k).map (cutF (2 : Int) s most n'))) rfl (own_no HO.out ((Touch.refl _ _).alloc _)) (some ⟨wr.heap.size, 0, none⟩) 1 1 (Fr.cl ⟨fin, opk, false, 0, 0, 0, 0, s.extract P E⟩) rfl rfl HRN.out HFO.out (by unfold maxLen; omega) (by omega) (by simp; omega) ?_)
        intro v3 w3 ho3 hgr _
        obtain ⟨A3, c3, rfl, _, _, _, _, _⟩ := own_cases ho3
        have HO3 := Lib.hid ho3
        have HT3 := Lib.hid ((HT.out.alloc (.cells (Fr.cl ⟨fin, opk, false, 0, 0, 0, 0, s.extract P E⟩).toArray 42)).grown hgr (fun q hq hl => absurd (own_base HO.out hq) (by omega)))
        clear ho3 hgr HO HT
        go_wp2_with fail
        go_roundw
        · refine ⟨k + 1, A3, c3, by omega, by go_num, by rw [if_neg (by omega)], rfl, ?_, HT3.out⟩
          rw [HNX.out, frs_append, HFR.out, frs_single]
          exact HO3.out
        · simp [intOf]; omega
      · have hkn : k = n' := by omega
        subst hkn
        clear ho ht HO2 HT2
        go_wp2
        go_ret2
        exact ⟨_, rfl, HO.out, HT.out⟩
end Go.Proofs.YtlnabpoohnphiaaGreat
/- ref13: Frames. -/
namespace Go.Proofs.YtlnabpoohnphiaaGreat
open Go.RowKit
set_option linter.unusedSimpArgs false
set_option linter.unusedVariables false

end Go.Proofs.YtlnabpoohnphiaaGreat
