/- law13: CutOnce: the walk. -/
import Derived.Test.YtkhppojlabajaaaZ32
import Derived.Deep.RegionLawGrows
/- law13: CutOnce: the walk. -/
namespace Go.Proofs.Ytkhppojlabajaaa
open Go.RowKit
set_option linter.unusedSimpArgs false
set_option linter.unusedVariables false

section
variable {op : Int} {s : ByteArray} {m n : Nat} (hop : op = 1 ∨ op = 2) (h1 : 1 ≤ m) (f1 : 1 ≤ n) (f3 : s.size ≤ n * m) (f4 : (n - 1) * m ≤ s.size) (f5 : n ≠ 1 → (n - 1) * m < s.size)
include hop f1 in
theorem cut_joins : joins (cutFs op s m n) := by
  refine ⟨fun h => by have := cutFs_length op s m n; rw [h] at this; simp at this; omega, fun i hi => ?_⟩
  rw [cutFs_get, cutFs_length]
  unfold jok
  have hfin : (cutF op s m n i).fin = decide (i + 1 = n) := rfl
  have hopi : (cutF op s m n i).op = if i = 0 then op else 0 := rfl
  rw [hfin, hopi]
  by_cases h : i = 0
  · subst h
    simp only [if_true, beq_self_eq_true, Bool.and_true]
    exact decide_eq_true hop
  · simp [h]
include h1 f3 f4 f5 in
theorem cut_take (k : Nat) (hk : k ≤ n) : dlist ((cutFs op s m n).take k) = s.data.toList.take (min (k * m) s.size) := by
  induction k with
  | zero => simp [dlist]
  | succ k ih =>
    have hkl : k < (cutFs op s m n).length := by rw [cutFs_length]; omega
    obtain ⟨c1, _, _, c5, _⟩ := cutF_facts op s m n k (by omega) h1 f3 f4 f5
    rw [dlist_take _ k hkl, ih (by omega), cutFs_get]
    have hd : (cutF op s m n k).data.data.toList = (s.data.toList.take (min (k * m + m) s.size)).drop (k * m) := by
      show (s.extract (k * m) (min (k * m + m) s.size)).data.toList = _
      simp [ByteArray.data_extract, Array.toList_extract, List.extract_eq_take_drop, List.drop_take]
    rw [hd, Nat.min_eq_left c1, show (k + 1) * m = k * m + m from by rw [Nat.add_mul, Nat.one_mul]]
    have : s.data.toList.take (k * m) = (s.data.toList.take (min (k * m + m) s.size)).take (k * m) := by
      rw [List.take_take, Nat.min_eq_left]
      omega
    rw [this, List.take_append_drop]
include h1 f3 f4 f5 in
theorem cut_str : dstr (cutFs op s m n) = s := by
  have h := cut_take h1 f3 f4 f5 n (Nat.le_refl n) (op := op)
  rw [List.take_of_length_le (by rw [cutFs_length]; exact Nat.le_refl _), Nat.min_eq_right f3, List.take_of_length_le (by simp)] at h
  show (⟨(dlist (cutFs op s m n)).toArray⟩ : ByteArray) = s
  rw [h]
include h1 f3 f4 f5 in
theorem cut_size : (dlist (cutFs op s m n)).length = s.size := by
  rw [← dstr_size, cut_str h1 f3 f4 f5]
theorem dlist_split (l : List Fr) (k : Nat) (h : k < l.length) : (dlist l).length = (dlist (l.take k)).length + (l[k].data.size + (dlist (l.drop (k + 1))).length) := by
  have e : dlist l = dlist (l.take k) ++ (l[k].data.data.toList ++ dlist (l.drop (k + 1))) := by
    have h2 : l = l.take k ++ (l[k] :: l.drop (k + 1)) := by rw [← List.drop_eq_getElem_cons h, List.take_append_drop]
    have h3 : dlist l = dlist (l.take k ++ (l[k] :: l.drop (k + 1))) := congrArg dlist h2
    rw [h3, dlist_append]
    rfl
  rw [e, List.length_append, List.length_append]
  rfl
include h1 f1 f3 f4 f5 in
theorem once_less (k : Nat) (hk : k < n) (hj : joins ((cutFs op s m n).take k ++ (cutFs op s m n).drop (k + 1))) : (dlist ((cutFs op s m n).take k ++ (cutFs op s m n).drop (k + 1))).length < s.size := by
  have hkl : k < (cutFs op s m n).length := by rw [cutFs_length]; exact hk
  have h := dlist_split (cutFs op s m n) k hkl
  rw [cut_size h1 f3 f4 f5, cutFs_get] at h
  obtain ⟨_, _, _, _, c6⟩ := cutF_facts op s m n k hk h1 f3 f4 f5
  rw [dlist_append, List.length_append]
  by_cases hs : 0 < s.size
  · have := c6 hs
    omega
  · have hn : n = 1 := by
      by_cases hn : n = 1
      · exact hn
      · have := f5 hn; omega
    subst hn
    obtain rfl : k = 0 := by omega
    exact absurd (by simp [cutFs]) hj.1
include h1 f1 f3 f4 f5 in
theorem once_more (k : Nat) (hk : k < n) (hj : joins ((cutFs op s m n).take (k + 1) ++ (cutFs op s m n).drop k)) : s.size < (dlist ((cutFs op s m n).take (k + 1) ++ (cutFs op s m n).drop k)).length := by
  have hkl : k < (cutFs op s m n).length := by rw [cutFs_length]; exact hk
  have h := dlist_split (cutFs op s m n) k hkl
  have ht := congrArg List.length (dlist_take (cutFs op s m n) k hkl)
  have hd : (dlist ((cutFs op s m n).drop k)).length = (cutFs op s m n)[k].data.size + (dlist ((cutFs op s m n).drop (k + 1))).length := by
    have : (cutFs op s m n).drop k = (cutFs op s m n)[k] :: (cutFs op s m n).drop (k + 1) := List.drop_eq_getElem_cons hkl
    rw [this]
    show ((cutFs op s m n)[k].data.data.toList ++ dlist _).length = _
    rw [List.length_append]
    rfl
  rw [List.length_append] at ht
  have hsz : (cutFs op s m n)[k].data.data.toList.length = (cutFs op s m n)[k].data.size := rfl
  rw [hsz] at ht
  rw [cutFs_get] at h ht hd
  obtain ⟨_, _, _, _, c6⟩ := cutF_facts op s m n k hk h1 f3 f4 f5
  rw [cut_size h1 f3 f4 f5] at h
  rw [dlist_append, List.length_append]
  by_cases hs : 0 < s.size
  · have := c6 hs
    omega
  · have hn : n = 1 := by
      by_cases hn : n = 1
      · exact hn
      · have := f5 hn; omega
    subst hn
    obtain rfl : k = 0 := by omega
    have h2 := hj.2 0 (by simp [cutFs])
    simp [cutFs, jok, cutF] at h2
end
theorem jop_cut (op : Int) (s : ByteArray) (m n : Nat) (h : 1 ≤ n) : jop (cutFs op s m n) = op := by
  obtain ⟨k, rfl⟩ : ∃ k, n = k + 1 := ⟨n - 1, by omega⟩
  simp [cutFs, List.range_succ_eq_map, jop, cutF]

set_option maxHeartbeats 6400000 in
set_option maxRecDepth 100000 in
theorem once13_row (w : World) (s : ByteArray) (hs : s.size ≤ maxLen) (x : Int) (hx : (Lit.int .u8 x).wf = true) (y : Int) (hy : (Lit.int .u8 y).wf = true) :
    Calls Try.prog 9 #[.string s, .int .u8 x, .int .u8 y] w fun e w' => e = .returned (.bool true) ∧ Touch NoS w w' := by
  obtain ⟨hx0, hx1⟩ := u8_bounds hx
  obtain ⟨hy0, hy1⟩ := u8_bounds hy
  clear hx hy
  by_cases hz : 500 < s.size
  · unfold maxLen at hs
    go_enter Try.func9, Try.ntmps9
    go_wp2_with fail
    refine (aw13 _).mono ?_
    rintro e w2 ⟨rfl, ht⟩
    have HT := Lib.hid ht
    clear ht
    go_wp2_with fail
    refine (aw13 _).mono ?_
    rintro e w3 ⟨rfl, ht⟩
    have HT3 := Lib.hid (HT.out.trans ht)
    clear ht
    go_wp2
    go_ret
    exact ⟨rfl, HT3.out⟩
  have hz' : s.size ≤ 500 := by omega
  obtain ⟨m, hm⟩ : ∃ m : Nat, (m : Int) = 1 + x := ⟨(1 + x).toNat, by omega⟩
  have h1 : 1 ≤ m := by omega
  have h2 : m ≤ 65536 := by omega
  obtain ⟨n, hn, f1, _, f3, f4, f5⟩ := count_facts s.size m (by omega) h1 h2
  have f2 : n ≤ 501 := by have := Nat.le_mul_of_pos_right (n - 1) (show 0 < m by omega); omega
  have HA := Lib.hid (fun W => k_frames 1 (.inl rfl) s (by omega) m h1 h2 n hn W)
  have hw1 : IntKind.i64.wrap x = x := IntWalk.i64_in _ (by omega)
  have hw2 : IntKind.i64.wrap (1 + x) = m := by rw [hm]; exact IntWalk.i64_in _ (by omega)
  have hw3 : IntKind.i64.wrap y = y := IntWalk.i64_in _ (by omega)
  have hn0 : ((n : Int) == 0) = false := by rw [beq_eq_false_iff_ne]; omega
  have hn0' : ¬ (n : Int) = 0 := by omega
  obtain ⟨k, hk⟩ : ∃ k : Nat, (k : Int) = y % (n : Int) := ⟨(y % (n : Int)).toNat, by have := Int.emod_nonneg y (show (n : Int) ≠ 0 by omega); omega⟩
  have hkn : k < n := by have := Int.emod_lt_of_pos y (show (0 : Int) < n by omega); omega
  have hw4 : y.tmod (n : Int) = k := by rw [Int.tmod_eq_emod_of_nonneg hy0, hk]
  have hw5 : IntKind.i64.wrap k = k := IntWalk.i64_in _ (by omega)
  have hw6 : IntKind.i64.wrap ((k : Int) + 1) = k + 1 := IntWalk.i64_in _ (by omega)
  have hj := cut_joins (op := 1) (s := s) (m := m) (.inl rfl) f1
  have hst := cut_str (op := 1) h1 f3 f4 f5
  have hop := jop_cut 1 s m n f1
  have hls := once_less (op := 1) h1 f1 f3 f4 f5 k hkn
  have hms := once_more (op := 1) h1 f1 f3 f4 f5 k hkn
  have hln := cutFs_length 1 s m n
  have hzz : ∀ f ∈ cutFs 1 s m n, f.data.size ≤ 100000 := by
    intro f hf
    obtain ⟨i, hi, rfl⟩ := List.getElem_of_mem hf
    rw [cutFs_get]
    have := (cutF_facts 1 s m n i (by rw [hln] at hi; exact hi) h1 f3 f4 f5).2.2.1
    omega
  obtain ⟨L, hL⟩ : ∃ L, L = cutFs 1 s m n := ⟨_, rfl⟩
  rw [← hL] at HA hj hst hop hls hms hln hzz
  have HJ := Lib.hid hj
  have HST := Lib.hid hst
  have HOP := Lib.hid hop
  have HLS := Lib.hid hls
  have HMS := Lib.hid hms
  have HLN := Lib.hid hln
  have HZZ := Lib.hid hzz
  have HZL : Hid (∀ f ∈ L.take k ++ L.drop (k + 1), f.data.size ≤ 100000) := fun f hf => hzz f ((List.mem_append.1 hf).elim List.mem_of_mem_take List.mem_of_mem_drop)
  have HZM : Hid (∀ f ∈ L.take (k + 1) ++ L.drop k, f.data.size ≤ 100000) := fun f hf => hzz f ((List.mem_append.1 hf).elim List.mem_of_mem_take List.mem_of_mem_drop)
  have HLL : Hid ((L.take k ++ L.drop (k + 1)).length = k + (n - (k + 1))) := by show _ = _; rw [List.length_append, List.length_take, List.length_drop, hln]; omega
  have HLM : Hid ((L.take (k + 1) ++ L.drop k).length = k + 1 + (n - k)) := by show _ = _; rw [List.length_append, List.length_take, List.length_drop, hln]; omega
  obtain ⟨i, hi, hz0, hz1, hz2⟩ := info_parts info_fr
  clear hz hs hn f3 f4 f5 hm hk hj hst hop hls hms hln hzz hL
  go_enter Try.func9, Try.ntmps9
  go_wp2_with fail
  refine (aw13 _).mono ?_
  rintro e w2 ⟨rfl, ht⟩
  have HT := Lib.hid ht
  clear ht
  go_wp2_with fail
  refine (HA.out _).mono ?_
  rintro e w3 ⟨v3, rfl, ho, ht⟩
  obtain ⟨A3, c3, rfl, hlc3, hcm3, hrd, _, _⟩ := own_cases ho
  have HR3 := Lib.hid hrd
  have HT3 := Lib.hid (HT.out.trans ht)
  clear ht ho hrd HT
  go_wp2_with fail
  refine (k_join A3 L n c3 HLN.out _ HR3.out HZZ.out (by omega)).mono ?_
  rintro e w4 ⟨hj, ht⟩
  rcases hj with ⟨_, rfl⟩ | ⟨h, _⟩
  case inr => exact absurd HJ.out h
  rw [HST.out, HOP.out]
  have HR4 := Lib.hid (HR3.out.touch_no ht)
  have HT4 := Lib.hid (HT3.out.trans ht)
  have hs4 : w.heap.size ≤ w4.heap.size := HT4.out.size
  clear ht HR3 HT3
  unfold maxLen at hcm3
  obtain ⟨A5, hsl5, hsl5', hr5⟩ := sl_any (T := 23) Try.underlying23 size_fr HR4.out (by rw [frs_length, HLN.out]) hlc3 ((k : Int) + 1) (n : Int) (k + 1) n (by omega) rfl (by omega) (Nat.le_refl n)
  obtain ⟨A6, hsl6, hsl6', hr6⟩ := sl_any (T := 23) Try.underlying23 size_fr HR4.out (by rw [frs_length, HLN.out]) hlc3 (k : Int) (n : Int) k n rfl rfl (by omega) (Nat.le_refl n)
  have hsl5' := hsl5' rfl
  have hsl6' := hsl6' rfl
  have hlen8 : (frs L).length ≤ n * 8 := by rw [frs_length, HLN.out]; exact Nat.le_refl _
  rw [List.take_of_length_le hlen8, ← frs_drop] at hr5 hr6
  have HR5 := Lib.hid hr5
  have HR6 := Lib.hid hr6
  have HRT : Hid (Rd w4 A3 (frs (L.take k))) := by show Rd w4 A3 (frs (L.take k)); rw [frs_take]; exact HR4.out.take _
  have HRU : Hid (Rd w4 A3 (frs (L.take (k + 1)))) := by show Rd w4 A3 (frs (L.take (k + 1))); rw [frs_take]; exact HR4.out.take _
  clear hsl5 hsl6 hlen8 hr5 hr6
  have kc1 : k ≤ c3 := by omega
  have kc2 : k + 1 ≤ c3 := by omega
  have kc3 : (k : Int) + 1 ≤ c3 := by omega
  have kc5 : (0 : Int) ≤ (k : Int) + 1 := by omega
  have kc4 : ((k : Int) + 1).toNat = k + 1 := by omega
  go_upto_region 8 with (fail)
  go_cut [13] (fun sv wx => ∃ A' c', sv = .slice A' (k + (n - (k + 1))) c' ∧ Rd wx A' (frs (L.take k ++ L.drop (k + 1))) ∧ Touch NoS w4 wx)
  case first =>
    go_region_law (first
      | (refine step_app_row _ rfl (.tmp 55) (.tmp 58) 23 rfl w4.heap.size 44 i _ 8 40 Try.underlying23 hi hz0 hz1 hz2 rfl (by decide) (.slice (some ⟨w4.heap.size, 0, none⟩) 0 0) 0 [] (by simp [Act.eval, Act.put]) (own_empty (Nat.le_refl _) _ _) A3 (k) c3 (frs (L.take k)) (by simp [Act.eval, Act.put]) (by rw [frs_length, List.length_take, HLN.out, Nat.min_eq_left (by omega)]) (HRT.out.touch_no ((Touch.refl _ _).alloc _).drew) (frs_one _) (by unfold maxLen; omega) (by omega) (by simp) ?_
         intro v5 w5 ho hgr _
         have HO5 := Lib.hid ho
         have HU5 := Lib.hid (show Touch NoS w4 w5 from ((Touch.refl _ _).alloc (.cells #[] 44)).drew.grown hgr (fun q hq hl => absurd (own_base (own_empty (Nat.le_refl _) 44 8) hq) (by omega)))
         have hs5 : w4.heap.size ≤ w5.heap.size := HU5.out.size
         clear ho hgr)
      | (refine step_app_row _ rfl (.tmp 59) (.tmp 63) 23 rfl w4.heap.size 44 i _ 8 40 Try.underlying23 hi hz0 hz1 hz2 rfl (by decide) v5 (k) (frs (L.take k)) (by simp [Act.eval, Act.put]) (by simpa using HO5.out) A5 (n - (k + 1)) _ (frs (L.drop (k + 1))) (by simp [Act.eval, Act.put]; rfl) (by rw [frs_length, List.length_drop, HLN.out]) (HR5.out.touch_no HU5.out) (frs_one _) (by unfold maxLen; omega) (by omega) (by omega) ?_
         intro v5b w5b ho hgr _
         rw [← frs_append] at ho
         have HO5b := Lib.hid ho
         have HU5b := Lib.hid (HU5.out.grown hgr (fun q hq hl => absurd (own_base HO5.out hq) (by omega)))
         clear ho hgr))
    all_goals
      go_wp2_with fail
      go_meet
      obtain ⟨Ax, cx, rfl, _, _, hrx, _, _⟩ := own_cases HO5b.out
      exact ⟨Ax, cx, rfl, hrx, HU5b.out⟩
  case rest =>
  obtain ⟨A13, c13, rfl, hr13, ht⟩ := hcut
  have HR6a := Lib.hid (HR6.out.touch_no ht)
  have HRUa := Lib.hid (HRU.out.touch_no ht)
  have HR13 := Lib.hid hr13
  have HT13 := Lib.hid (HT4.out.trans ht)
  have HV13 := Lib.hid ht
  clear ht hr13
  clear hsl5'
  go_upto_region 9 with (fail)
  go_cut [14] (fun sv wx => ∃ A' c', sv = .slice A' (k + 1 + (n - k)) c' ∧ Rd wx A' (frs (L.take (k + 1) ++ L.drop k)) ∧ Touch NoS wc wx)
  case first =>
    go_region_law (first
      | (refine step_app_row _ rfl (.tmp 65) (.tmp 69) 23 rfl wc.heap.size 44 i _ 8 40 Try.underlying23 hi hz0 hz1 hz2 rfl (by decide) (.slice (some ⟨wc.heap.size, 0, none⟩) 0 0) 0 [] (by simp [Act.eval, Act.put]) (own_empty (Nat.le_refl _) _ _) A3 (k + 1) c3 (frs (L.take (k + 1))) (by simp [Act.eval, Act.put]) (by rw [frs_length, List.length_take, HLN.out, Nat.min_eq_left (by omega)]) (HRUa.out.touch_no ((Touch.refl _ _).alloc _).drew) (frs_one _) (by unfold maxLen; omega) (by omega) (by simp) ?_
         intro v6 w6 ho hgr _
         have HO6 := Lib.hid ho
         have HU6 := Lib.hid (show Touch NoS wc w6 from ((Touch.refl _ _).alloc (.cells #[] 44)).drew.grown hgr (fun q hq hl => absurd (own_base (own_empty (Nat.le_refl _) 44 8) hq) (by omega)))
         have hs6 : wc.heap.size ≤ w6.heap.size := HU6.out.size
         clear ho hgr)
      | (refine step_app_row _ rfl (.tmp 70) (.tmp 73) 23 rfl wc.heap.size 44 i _ 8 40 Try.underlying23 hi hz0 hz1 hz2 rfl (by decide) v6 (k + 1) (frs (L.take (k + 1))) (by simp [Act.eval, Act.put]) (by simpa using HO6.out) A6 (n - k) _ (frs (L.drop k)) (by simp [Act.eval, Act.put]; rfl) (by rw [frs_length, List.length_drop, HLN.out]) (HR6a.out.touch_no HU6.out) (frs_one _) (by unfold maxLen; omega) (by omega) (by omega) ?_
         intro v6b w6b ho hgr _
         rw [← frs_append] at ho
         have HO6b := Lib.hid ho
         have HU6b := Lib.hid (HU6.out.grown hgr (fun q hq hl => absurd (own_base HO6.out hq) (by omega)))
         clear ho hgr))
    all_goals
      go_wp2_with fail
      go_meet
      obtain ⟨Ax, cx, rfl, _, _, hrx, _, _⟩ := own_cases HO6b.out
      exact ⟨Ax, cx, rfl, hrx, HU6b.out⟩
  case rest =>
  obtain ⟨A14, c14, rfl, hr14, ht⟩ := hcut
  have HR13b := Lib.hid (HR13.out.touch_no ht)
  have HR14 := Lib.hid hr14
  have HT14 := Lib.hid (HT13.out.trans ht)
  have HV14 := Lib.hid ht
  clear ht hr14
  rename_i wd
  clear hsl6' HR5 HR6 HRT HRU HR6a HRUa HR13 HT4 HT13 HV13
  go_wp2_with fail
  refine (k_join A13 (L.take k ++ L.drop (k + 1)) _ c13 HLL.out _ HR13b.out HZL.out (by omega)).mono ?_
  rintro e w10 ⟨hj, ht⟩
  have HR14b := Lib.hid (HR14.out.touch_no ht)
  have HT15 := Lib.hid (HT14.out.trans ht)
  have hT := dstr_size (L.take k ++ L.drop (k + 1))
  have hU := dstr_size (L.take (k + 1) ++ L.drop k)
  obtain ⟨T, hT'⟩ : ∃ T, T = dstr (L.take k ++ L.drop (k + 1)) := ⟨_, rfl⟩
  obtain ⟨U, hU'⟩ : ∃ U, U = dstr (L.take (k + 1) ++ L.drop k) := ⟨_, rfl⟩
  have HMU := Lib.hid (fun h => (HMS.out h : s.size < _))
  rw [← hT'] at hT hj
  rw [← hU'] at hU
  rw [← hU] at HMU
  have HU := Lib.hid hU'
  clear ht HR14 HT14 HR13b hU hU' HV14 HMS kc4
  rcases hj with ⟨hj, rfl⟩ | ⟨hj, rfl⟩
  · have hlt := HLS.out hj
    rw [← hT] at hlt
    clear hj hT hT' HLS
    go_wp2_with fail
    refine (k_join A14 (L.take (k + 1) ++ L.drop k) _ c14 HLM.out _ HR14b.out HZM.out (by omega)).mono ?_
    rintro e w11 ⟨hj, ht⟩
    have HT16 := Lib.hid (HT15.out.trans ht)
    rw [← HU.out] at hj
    clear ht HT15 HR14b
    rcases hj with ⟨hj, rfl⟩ | ⟨hj, rfl⟩
    · have hlu := HMU.out hj
      clear hj
      go_wp2
      go_ret
      exact ⟨rfl, HT16.out⟩
    · clear hj
      go_wp2
      go_ret
      exact ⟨rfl, HT16.out⟩
  · clear hj hT hT' HLS
    go_wp2_with fail
    refine (k_join A14 (L.take (k + 1) ++ L.drop k) _ c14 HLM.out _ HR14b.out HZM.out (by omega)).mono ?_
    rintro e w11 ⟨hj, ht⟩
    have HT16 := Lib.hid (HT15.out.trans ht)
    rw [← HU.out] at hj
    clear ht HT15 HR14b
    rcases hj with ⟨hj, rfl⟩ | ⟨hj, rfl⟩
    · have hlu := HMU.out hj
      clear hj
      go_wp2
      go_ret
      exact ⟨rfl, HT16.out⟩
    · clear hj
      go_wp2
      go_ret
      exact ⟨rfl, HT16.out⟩
end Go.Proofs.Ytkhppojlabajaaa
