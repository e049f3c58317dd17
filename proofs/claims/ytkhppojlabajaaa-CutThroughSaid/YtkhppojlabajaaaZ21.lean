/- ref08: Apply, digits, Put. -/
import Derived.Test.YtkhppojlabajaaaZ20
/- ref08: Apply, digits, Put. -/
namespace Go.Proofs.Ytkhppojlabajaaa
open Go.RowKit
set_option linter.unusedSimpArgs false
set_option linter.unusedVariables false

theorem nums_append (a b : List Int) : Go.strOfNums (a ++ b) = Go.strOfNums a ++ Go.strOfNums b := by
  apply ByteArray.ext
  apply Array.toList_inj.1
  simp [Go.strOfNums]
theorem take_next (L : List Int) (k : Nat) (hk : k < L.length) : L.take (k + 1) = L.take k ++ [L[k]] := by
  rw [List.take_add_one, List.getElem?_eq_getElem hk]; rfl
theorem conv_one_d (w : World) (b : Int) (t : TypeId) (cap : Nat) :
    (convert 36 9 (.slice (some ⟨w.heap.size, 0, none⟩) 1 cap)).run Try.prog (w.alloc (.cells #[.int .u8 b] t)).drew = .ok (.string (Go.strOfNums [b])) (w.alloc (.cells #[.int .u8 b] t)).drew :=
  conv_str _ _ [b] 1 cap rfl ((Rd.new w (u8s [b]) t (0, 0)).touch_no (Touch.refl _ _).drew)
theorem nums_len (l : List Int) (h : l.length ≤ maxLen) : (Go.strOfNums l).size ≤ maxLen := by rw [numsB_size]; exact h

set_option maxHeartbeats 3200000 in
set_option maxRecDepth 100000 in
theorem r8_apply (k0 k1 k2 k3 : Int) (hK : bytesIn [k0, k1, k2, k3]) (s : ByteArray) (hs : s.size ≤ 281474976710656) (w : World) :
    Calls Try.prog 28 #[.agg #[.int .u8 k0, .int .u8 k1, .int .u8 k2, .int .u8 k3], .int .i64 0, .string s] w fun e w' =>
      e = .returned (.string (Go.strOfNums (turn [k0, k1, k2, k3] 0 (sb s)))) ∧ Touch NoS w w' := by
  have HK := Lib.hid hK
  have hcv := conv_one_d
  clear hK
  obtain ⟨L, hL⟩ : ∃ L, L = turn [k0, k1, k2, k3] 0 (sb s) := ⟨_, rfl⟩
  have hLl : L.length = s.size := by rw [hL, turn_length, sb_length]
  have HL := Lib.hid hL
  have HLL := Lib.hid hLl
  rw [← hL]
  clear hL hLl
  go_enter Try.func28, Try.ntmps28
  go_wp2_with fail
  go_loopw [9, 8] (fun i o wr => ∃ k : Nat, k ≤ s.size ∧ i = .int .i64 k ∧ o = .string (Go.strOfNums (L.take k)) ∧ Blk wr w.heap.size 42 #[.int .u8 k0, .int .u8 k1, .int .u8 k2, .int .u8 k3] ∧ Touch NoS w wr) (fun i _ _ => s.size - (intOf i).toNat)
  case atStart => exact ⟨0, by omega, rfl, rfl, Blk.new _ _ _, (Touch.refl _ _).alloc _⟩
  case round =>
    obtain ⟨k, hk, rfl, rfl, hkb, ht⟩ := hrel
    by_cases hlt : k < s.size
    · obtain ⟨x, hx⟩ : ∃ x, x = (sb s).getD k 0 := ⟨_, rfl⟩
      have hx8 : 0 ≤ x ∧ x ≤ 255 := by rw [hx]; exact getD_in (sb_in s) 0 (by omega) k
      have hxs : ((s[k].toNat : Nat) : Int) = x := by rw [hx, sb_getD s k hlt]
      obtain ⟨j, hj⟩ : ∃ j, j = k % 4 := ⟨_, rfl⟩
      have hj4 : j < 4 := by omega
      obtain ⟨y, hy⟩ : ∃ y, y = ([k0, k1, k2, k3] : List Int).getD j 0 := ⟨_, rfl⟩
      have hy8 : 0 ≤ y ∧ y ≤ 255 := by rw [hy]; exact key_in HK.out j
      have hkc : wr.cell? ⟨w.heap.size, j, none⟩ = some (.int .u8 y) := by
        rw [hkb.cell j, hy]
        rcases j with _ | _ | _ | _ | j
        · rfl
        · rfl
        · rfl
        · rfl
        · omega
      have hxor : bits .xor .u8 x y = bxor x y := u8_xor x y hx8.1 (by omega) hy8.1 (by omega)
      have hLk : L[k]'(by rw [HLL.out]; exact hlt) = bxor x y := by
        have e := HL.out
        subst e
        rw [turn_get _ (sb s) 0 k (by rw [sb_length]; exact hlt), Nat.zero_add, ← hj, ← hy]
        congr 1
        rw [hx, List.getD_eq_getElem?_getD, List.getElem?_eq_getElem (by rw [sb_length]; exact hlt)]
        rfl
      have hnext : Go.strOfNums (L.take (k + 1)) = Go.strOfNums (L.take k) ++ Go.strOfNums [bxor x y] := by
        rw [take_next L k (by rw [HLL.out]; exact hlt), nums_append, hLk]
      have HN := Lib.hid hnext
      obtain ⟨p, hp⟩ : ∃ p, p = Go.strOfNums (L.take k) := ⟨_, rfl⟩
      have hpz : p.size ≤ k := by rw [hp, numsB_size, List.length_take]; omega
      rw [← hp] at HN ⊢
      obtain ⟨v, hv⟩ : ∃ v, v = bxor x y := ⟨_, rfl⟩
      rw [← hv] at hxor HN
      have hvz : (Go.strOfNums [v]).size = 1 := by rw [numsB_size]; rfl
      obtain ⟨u, hu⟩ : ∃ u, u = Go.strOfNums [v] := ⟨_, rfl⟩
      have hw0 : IntKind.i64.wrap (k : Int) = k := IntWalk.i64_in _ (by omega)
      have hmod : (k : Int).tmod 4 = (j : Int) := by rw [Int.tmod_eq_emod_of_nonneg (by omega)]; omega
      have hm0 : 0 ≤ (k : Int) % 4 := by omega
      have hm1 : (k : Int) % 4 < 4 := by omega
      have hm2 : ((k : Int) % 4).toNat = j := by omega
      have hlt' : (k : Int) < s.size := by omega
      have hj4' : (j : Int) < 4 := by omega
      have HKB := Lib.hid hkb
      have HT := Lib.hid ht
      clear hkb ht hx hy hv hLk hnext hp hx8 hy8 hj hu
      go_wp2_with fail
      go_region
      all_goals
        go_wp2_with fail
        go_roundw
        · exact ⟨k + 1, by omega, by go_num, by rw [HN.out], (HKB.out.alloc _).drew, (HT.out.alloc _).drew⟩
        · simp [intOf]; omega
    · have hkl : k = s.size := by omega
      subst hkl
      rw [List.take_of_length_le (by rw [HLL.out]; omega)]
      have HT := Lib.hid ht
      clear ht hkb
      go_wp2
      go_ret
      exact ⟨rfl, HT.out⟩

theorem be_drop (m n k : Nat) (hk : k < m) : (be m n).drop (m - (k + 1)) = ((n / 256 ^ k % 256 : Nat) : Int) :: (be m n).drop (m - k) := by
  rw [List.drop_eq_getElem_cons (by rw [be_length]; omega), show m - (k + 1) + 1 = m - k from by omega]
  congr 1
  simp only [be, List.getElem_map, List.getElem_range]
  rw [show m - 1 - (m - (k + 1)) = k from by omega]
set_option maxHeartbeats 3200000 in
set_option maxRecDepth 100000 in
theorem r8_digits (n : Nat) (hn : n < 18446744073709551616) (m : Nat) (mi : Int) (hmi : (m : Int) = mi) (hm : m ≤ 8) (w : World) :
    Calls Try.prog 72 #[.int .u64 n, .int .i64 mi] w fun e w' => e = .returned (.string (Go.strOfNums (be m n))) ∧ Touch NoS w w' := by
  have hcv := conv_one
  subst hmi
  obtain ⟨L, hL⟩ : ∃ L, L = be m n := ⟨_, rfl⟩
  have HL := Lib.hid hL
  have HN := Lib.hid hn
  rw [← hL]
  clear hL
  go_enter Try.func72, Try.ntmps72
  go_wp2_with fail
  go_loopw [0, 6, 5] (fun a i o wr => ∃ k : Nat, k ≤ m ∧ i = .int .i64 k ∧ a = .int .u64 ((n / 256 ^ k : Nat) : Int) ∧ o = .string (Go.strOfNums (L.drop (m - k))) ∧ Touch NoS w wr) (fun _ i _ _ => m - (intOf i).toNat)
  case atStart =>
    refine ⟨0, by omega, rfl, by rw [Nat.pow_zero, Nat.div_one], ?_, Touch.refl _ _⟩
    rw [HL.out, List.drop_of_length_le (by rw [be_length]; omega)]
    rfl
  case round =>
    obtain ⟨k, hk, rfl, rfl, rfl, ht⟩ := hrel
    have HT := Lib.hid ht
    clear ht
    by_cases hlt : k < m
    · obtain ⟨q, hq⟩ : ∃ q, q = n / 256 ^ k := ⟨_, rfl⟩
      have hq1 : n / 256 ^ (k + 1) = q / 256 := by rw [Nat.pow_succ, ← Nat.div_div_eq_div_mul, hq]
      have hqb : q ≤ n := by rw [hq]; exact Nat.div_le_self _ _
      have hnext : Go.strOfNums (L.drop (m - (k + 1))) = Go.strOfNums [((q % 256 : Nat) : Int)] ++ Go.strOfNums (L.drop (m - k)) := by
        rw [← nums_append, HL.out, be_drop m n k hlt, hq]; rfl
      have HQ := Lib.hid hq1
      obtain ⟨p, hp⟩ : ∃ p, p = Go.strOfNums (L.drop (m - k)) := ⟨_, rfl⟩
      rw [← hp] at hnext
      have HX := Lib.hid hnext
      have hpz : p.size ≤ 8 := by rw [hp, numsB_size, List.length_drop, HL.out, be_length]; omega
      rw [← hq, ← hp]
      have hqn : q < 18446744073709551616 := by have := HN.out; omega
      clear hq hp hq1 hnext hn hqb
      obtain ⟨qi, hqi⟩ : ∃ qi : Int, qi = q := ⟨_, rfl⟩
      have q0 : 0 ≤ qi := by omega
      have q1 : qi < 18446744073709551616 := by omega
      have hmod : ((q % 256 : Nat) : Int) = qi % 256 := by omega
      have hdiv : ((q / 256 : Nat) : Int) = qi / 256 := by omega
      rw [hmod] at HX
      have HD := Lib.hid hdiv
      rw [← hqi]
      have hxz : (Go.strOfNums [qi % 256]).size = 1 := by rw [numsB_size]; rfl
      clear hmod hdiv hqi hqn
      go_wp2_with fail
      go_roundw
      · exact ⟨k + 1, by omega, by go_num, by rw [HQ.out, HD.out], by rw [HX.out], HT.out.alloc _⟩
      · simp [intOf]; omega
    · have hkl : k = m := by omega
      subst hkl
      rw [Nat.sub_self, List.drop_zero]
      go_wp2
      go_ret
      exact ⟨rfl, HT.out⟩
set_option maxHeartbeats 3200000 in
set_option maxRecDepth 100000 in
theorem r8_put (n : Nat) (hn : n < 9223372036854775808) (w : World) :
    Calls Try.prog 59 #[.int .u64 n] w fun e w' => e = .returned (.tuple #[.string (Go.strOfNums (lenB n)), .bool true]) ∧ Touch NoS w w' := by
  have hcv := conv_one
  obtain ⟨x, hx⟩ : ∃ x : Int, x = (n : Int) := ⟨_, rfl⟩
  have x0 : 0 ≤ x := by omega
  have x1 : x ≤ 9223372036854775807 := by omega
  have HX := Lib.hid hx
  have HN := Lib.hid (show n < 18446744073709551616 by omega)
  rw [← hx]
  by_cases h1 : n < 126
  · have hl : Go.strOfNums (lenB n) = Go.strOfNums [x] := by unfold lenB; rw [if_pos h1, hx]
    have HL := Lib.hid hl
    have x2 : x < 126 := by omega
    rw [HL.out]
    clear hl h1 hx hn
    go_enter Try.func59, Try.ntmps59
    go_wp2
    go_ret2
    exact ⟨rfl, (Touch.refl _ _).alloc _⟩
  by_cases h2 : n < 65536
  · have hl : Go.strOfNums (lenB n) = Go.strOfNums [126] ++ Go.strOfNums (be 2 n) := by unfold lenB; rw [if_neg h1, if_pos h2, ← nums_append]; rfl
    have h126 : Go.strOfNums [126] = ⟨#[126]⟩ := by kernel_rfl
    rw [h126] at hl
    have HL := Lib.hid hl
    have x2 : 126 ≤ x := by omega
    have x3 : x ≤ 65535 := by omega
    obtain ⟨u, hu⟩ : ∃ u, u = Go.strOfNums (be 2 n) := ⟨_, rfl⟩
    have hD := fun W => r8_digits n HN.out 2 2 (by decide) (by omega) W
    have hD2 : ∀ W, Calls Try.prog 72 #[.int .u64 x, .int .i64 2] W fun e w' => e = .returned (.string u) ∧ Touch NoS W w' := by
      intro W
      rw [hu, hx]
      exact hD W
    have HD := Lib.hid hD2
    rw [HL.out, ← hu]
    have huz : u.size = 2 := by rw [hu, numsB_size, be_length]
    clear hl h1 h2 hx hn hu hD hD2 h126
    go_enter Try.func59, Try.ntmps59
    go_wp2_with fail
    refine (HD.out _).mono ?_
    rintro e w1 ⟨rfl, ht⟩
    have HT := Lib.hid ht
    clear ht
    go_wp2
    go_ret2
    exact ⟨rfl, HT.out⟩
  · have hl : Go.strOfNums (lenB n) = Go.strOfNums [127] ++ Go.strOfNums (be 8 n) := by unfold lenB; rw [if_neg h1, if_neg h2, ← nums_append]; rfl
    have h126 : Go.strOfNums [127] = ⟨#[127]⟩ := by kernel_rfl
    rw [h126] at hl
    have HL := Lib.hid hl
    have x2 : 65536 ≤ x := by omega
    obtain ⟨u, hu⟩ : ∃ u, u = Go.strOfNums (be 8 n) := ⟨_, rfl⟩
    have hD := fun W => r8_digits n HN.out 8 8 (by decide) (by omega) W
    have hD2 : ∀ W, Calls Try.prog 72 #[.int .u64 x, .int .i64 8] W fun e w' => e = .returned (.string u) ∧ Touch NoS W w' := by
      intro W
      rw [hu, hx]
      exact hD W
    have HD := Lib.hid hD2
    rw [HL.out, ← hu]
    have huz : u.size = 8 := by rw [hu, numsB_size, be_length]
    clear hl h1 h2 hx hn hu hD hD2 h126
    go_enter Try.func59, Try.ntmps59
    go_wp2_with fail
    refine (HD.out _).mono ?_
    rintro e w1 ⟨rfl, ht⟩
    have HT := Lib.hid ht
    clear ht
    go_wp2
    go_ret2
    exact ⟨rfl, HT.out⟩
end Go.Proofs.Ytkhppojlabajaaa
