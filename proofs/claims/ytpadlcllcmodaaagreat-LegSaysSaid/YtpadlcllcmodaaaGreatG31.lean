/- ref08: Apply, digits, Put. | ref09: Control, Form, Check. | ref09: Text. -/
import Derived.Test.YtpadlcllcmodaaaGreatG11
import Derived.Deep.RegionHeld
/- ref08: Apply, digits, Put. -/
namespace Go.Proofs.YtpadlcllcmodaaaGreat
open Go.RowKit
set_option linter.unusedSimpArgs false
set_option linter.unusedVariables false

theorem nums_append (a b : List Int) : Go.strOfNums (a ++ b) = Go.strOfNums a ++ Go.strOfNums b := by
  apply ByteArray.ext
  apply Array.toList_inj.1
  simp [Go.strOfNums]
theorem take_next (L : List Int) (k : Nat) (hk : k < L.length) : L.take (k + 1) = L.take k ++ [L[k]] := by
  rw [List.take_add_one, List.getElem?_eq_getElem hk]; rfl
theorem conv_one_d (w : World) (b : Int) (t : TypeId) (cap : Nat) :
    (convert 49 9 (.slice (some ⟨w.heap.size, 0, none⟩) 1 cap)).run Tryz.prog (w.alloc (.cells #[.int .u8 b] t)).drew = .ok (.string (Go.strOfNums [b])) (w.alloc (.cells #[.int .u8 b] t)).drew :=
  conv_str _ _ [b] 1 cap rfl ((Rd.new w (u8s [b]) t (0, 0)).touch_no (Touch.refl _ _).drew)
theorem nums_len (l : List Int) (h : l.length ≤ maxLen) : (Go.strOfNums l).size ≤ maxLen := by rw [numsB_size]; exact h

set_option maxHeartbeats 3200000 in
set_option maxRecDepth 100000 in
theorem r8_apply (k0 k1 k2 k3 : Int) (hK : bytesIn [k0, k1, k2, k3]) (s : ByteArray) (hs : s.size ≤ 281474976710656) (w : World) :
    Calls Tryz.prog 113 #[.agg #[.int .u8 k0, .int .u8 k1, .int .u8 k2, .int .u8 k3], .int .i64 0, .string s] w fun e w' =>
      e = .returned (.string (Go.strOfNums (turn [k0, k1, k2, k3] 0 (sb s)))) ∧ Touch NoS w w' := by
  have HK := Lib.hid hK
  have hcv := conv_one_d
  clear hK
  obtain ⟨L, hL⟩ : ∃ L, L = turn [k0, k1, k2, k3] 0 (sb s) := ⟨_, rfl⟩
  have hLl : L.length = s.size := by rw [hL, turn_length, sb_length]
  have HL := Lib.hid hL
  have HLL := Lib.hid hLl
  rw [← hL]
  clear hL hLl
  go_enter Tryz.func113, Tryz.ntmps113
  go_wp2_with fail
  go_loopw [9, 8] (fun i o wr => ∃ k : Nat, k ≤ s.size ∧ i = .int .i64 k ∧ o = .string (Go.strOfNums (L.take k)) ∧ Blk wr w.heap.size 59 #[.int .u8 k0, .int .u8 k1, .int .u8 k2, .int .u8 k3] ∧ Touch NoS w wr) (fun i _ _ => s.size - (intOf i).toNat)
  case atStart => exact ⟨0, by omega, rfl, rfl, Blk.new _ _ _, (Touch.refl _ _).alloc _⟩
  case round =>
    obtain ⟨k, hk, rfl, rfl, hkb, ht⟩ := hrel
    by_cases hlt : k < s.size
    · obtain ⟨x, hx⟩ : ∃ x, x = (sb s).getD k 0 := ⟨_, rfl⟩
      have hx8 : 0 ≤ x ∧ x ≤ 255 := by rw [hx]; exact getD_in (sb_in s) 0 (by omega) k
      have hxs : ((s[k].toNat : Nat) : Int) = x := by rw [hx, sb_getD s k hlt]
      obtain ⟨j, hj⟩ : ∃ j, j = k % 4 := ⟨_, rfl⟩
      have hj4 : j < 4 := by omega
      obtain ⟨y, hy⟩ : ∃ y, y = ([k0, k1, k2, k3] : List Int).getD j 0 := ⟨_, rfl⟩
      have hy8 : 0 ≤ y ∧ y ≤ 255 := by rw [hy]; exact key_in HK.out j
      have hkc : wr.cell? ⟨w.heap.size, j, none⟩ = some (.int .u8 y) := by
        rw [hkb.cell j, hy]
        rcases j with _ | _ | _ | _ | j
        · rfl
        · rfl
        · rfl
        · rfl
        · omega
      have hxor : bits .xor .u8 x y = bxor x y := u8_xor x y hx8.1 (by omega) hy8.1 (by omega)
      have hLk : L[k]'(by rw [HLL.out]; exact hlt) = bxor x y := by
        have e := HL.out
        subst e
        rw [turn_get _ (sb s) 0 k (by rw [sb_length]; exact hlt), Nat.zero_add, ← hj, ← hy]
        congr 1
        rw [hx, List.getD_eq_getElem?_getD, List.getElem?_eq_getElem (by rw [sb_length]; exact hlt)]
        rfl
      have hnext : Go.strOfNums (L.take (k + 1)) = Go.strOfNums (L.take k) ++ Go.strOfNums [bxor x y] := by
        rw [take_next L k (by rw [HLL.out]; exact hlt), nums_append, hLk]
      have HN := Lib.hid hnext
      obtain ⟨p, hp⟩ : ∃ p, p = Go.strOfNums (L.take k) := ⟨_, rfl⟩
      have hpz : p.size ≤ k := by rw [hp, numsB_size, List.length_take]; omega
      rw [← hp] at HN ⊢
      obtain ⟨v, hv⟩ : ∃ v, v = bxor x y := ⟨_, rfl⟩
      rw [← hv] at hxor HN
      have hvz : (Go.strOfNums [v]).size = 1 := by rw [numsB_size]; rfl
      obtain ⟨u, hu⟩ : ∃ u, u = Go.strOfNums [v] := ⟨_, rfl⟩
      have hw0 : IntKind.i64.wrap (k : Int) = k := IntWalk.i64_in _ (by omega)
      have hmod : (k : Int).tmod 4 = (j : Int) := by rw [Int.tmod_eq_emod_of_nonneg (by omega)]; omega
      have hm0 : 0 ≤ (k : Int) % 4 := by omega
      have hm1 : (k : Int) % 4 < 4 := by omega
      have hm2 : ((k : Int) % 4).toNat = j := by omega
      have hlt' : (k : Int) < s.size := by omega
      have hj4' : (j : Int) < 4 := by omega
      have HKB := Lib.hid hkb
      have HT := Lib.hid ht
      clear hkb ht hx hy hv hLk hnext hp hx8 hy8 hj hu
      go_wp2_with fail
      go_region
      all_goals
        go_wp2_with fail
        go_roundw
        · exact ⟨k + 1, by omega, by go_num, by rw [HN.out], (HKB.out.alloc _).drew, (HT.out.alloc _).drew⟩
        · simp [intOf]; omega
    · have hkl : k = s.size := by omega
      subst hkl
      rw [List.take_of_length_le (by rw [HLL.out]; omega)]
      have HT := Lib.hid ht
      clear ht hkb
      go_wp2
      go_ret
      exact ⟨rfl, HT.out⟩

theorem be_drop (m n k : Nat) (hk : k < m) : (be m n).drop (m - (k + 1)) = ((n / 256 ^ k % 256 : Nat) : Int) :: (be m n).drop (m - k) := by
  rw [List.drop_eq_getElem_cons (by rw [be_length]; omega), show m - (k + 1) + 1 = m - k from by omega]
  congr 1
  simp only [be, List.getElem_map, List.getElem_range]
  rw [show m - 1 - (m - (k + 1)) = k from by omega]
set_option maxHeartbeats 3200000 in
set_option maxRecDepth 100000 in
theorem r8_digits (n : Nat) (hn : n < 18446744073709551616) (m : Nat) (mi : Int) (hmi : (m : Int) = mi) (hm : m ≤ 8) (w : World) :
    Calls Tryz.prog 136 #[.int .u64 n, .int .i64 mi] w fun e w' => e = .returned (.string (Go.strOfNums (be m n))) ∧ Touch NoS w w' := by
  have hcv := conv_one
  subst hmi
  obtain ⟨L, hL⟩ : ∃ L, L = be m n := ⟨_, rfl⟩
  have HL := Lib.hid hL
  have HN := Lib.hid hn
  rw [← hL]
  clear hL
  go_enter Tryz.func136, Tryz.ntmps136
  go_wp2_with fail
  go_loopw [0, 6, 5] (fun a i o wr => ∃ k : Nat, k ≤ m ∧ i = .int .i64 k ∧ a = .int .u64 ((n / 256 ^ k : Nat) : Int) ∧ o = .string (Go.strOfNums (L.drop (m - k))) ∧ Touch NoS w wr) (fun _ i _ _ => m - (intOf i).toNat)
  case atStart =>
    refine ⟨0, by omega, rfl, by rw [Nat.pow_zero, Nat.div_one], ?_, Touch.refl _ _⟩
    rw [HL.out, List.drop_of_length_le (by rw [be_length]; omega)]
    rfl
  case round =>
    obtain ⟨k, hk, rfl, rfl, rfl, ht⟩ := hrel
    have HT := Lib.hid ht
    clear ht
    by_cases hlt : k < m
    · obtain ⟨q, hq⟩ : ∃ q, q = n / 256 ^ k := ⟨_, rfl⟩
      have hq1 : n / 256 ^ (k + 1) = q / 256 := by rw [Nat.pow_succ, ← Nat.div_div_eq_div_mul, hq]
      have hqb : q ≤ n := by rw [hq]; exact Nat.div_le_self _ _
      have hnext : Go.strOfNums (L.drop (m - (k + 1))) = Go.strOfNums [((q % 256 : Nat) : Int)] ++ Go.strOfNums (L.drop (m - k)) := by
        rw [← nums_append, HL.out, be_drop m n k hlt, hq]; rfl
      have HQ := Lib.hid hq1
      obtain ⟨p, hp⟩ : ∃ p, p = Go.strOfNums (L.drop (m - k)) := ⟨_, rfl⟩
      rw [← hp] at hnext
      have HX := Lib.hid hnext
      have hpz : p.size ≤ 8 := by rw [hp, numsB_size, List.length_drop, HL.out, be_length]; omega
      rw [← hq, ← hp]
      have hqn : q < 18446744073709551616 := by have := HN.out; omega
      clear hq hp hq1 hnext hn hqb
      obtain ⟨qi, hqi⟩ : ∃ qi : Int, qi = q := ⟨_, rfl⟩
      have q0 : 0 ≤ qi := by omega
      have q1 : qi < 18446744073709551616 := by omega
      have hmod : ((q % 256 : Nat) : Int) = qi % 256 := by omega
      have hdiv : ((q / 256 : Nat) : Int) = qi / 256 := by omega
      rw [hmod] at HX
      have HD := Lib.hid hdiv
      rw [← hqi]
      have hxz : (Go.strOfNums [qi % 256]).size = 1 := by rw [numsB_size]; rfl
      clear hmod hdiv hqi hqn
      go_wp2_with fail
      go_roundw
      · exact ⟨k + 1, by omega, by go_num, by rw [HQ.out, HD.out], by rw [HX.out], HT.out.alloc _⟩
      · simp [intOf]; omega
    · have hkl : k = m := by omega
      subst hkl
      rw [Nat.sub_self, List.drop_zero]
      go_wp2
      go_ret
      exact ⟨rfl, HT.out⟩
set_option maxHeartbeats 3200000 in
set_option maxRecDepth 100000 in
theorem r8_put (n : Nat) (hn : n < 9223372036854775808) (w : World) :
    Calls Tryz.prog 118 #[.int .u64 n] w fun e w' => e = .returned (.tuple #[.string (Go.strOfNums (lenB n)), .bool true]) ∧ Touch NoS w w' := by
  have hcv := conv_one
  obtain ⟨x, hx⟩ : ∃ x : Int, x = (n : Int) := ⟨_, rfl⟩
  have x0 : 0 ≤ x := by omega
  have x1 : x ≤ 9223372036854775807 := by omega
  have HX := Lib.hid hx
  have HN := Lib.hid (show n < 18446744073709551616 by omega)
  rw [← hx]
  by_cases h1 : n < 126
  · have hl : Go.strOfNums (lenB n) = Go.strOfNums [x] := by unfold lenB; rw [if_pos h1, hx]
    have HL := Lib.hid hl
    have x2 : x < 126 := by omega
    rw [HL.out]
    clear hl h1 hx hn
    go_enter Tryz.func118, Tryz.ntmps118
    go_wp2
    go_ret2
    exact ⟨rfl, (Touch.refl _ _).alloc _⟩
  by_cases h2 : n < 65536
  · have hl : Go.strOfNums (lenB n) = Go.strOfNums [126] ++ Go.strOfNums (be 2 n) := by unfold lenB; rw [if_neg h1, if_pos h2, ← nums_append]; rfl
    have h126 : Go.strOfNums [126] = ⟨#[126]⟩ := by kernel_rfl
    rw [h126] at hl
    have HL := Lib.hid hl
    have x2 : 126 ≤ x := by omega
    have x3 : x ≤ 65535 := by omega
    obtain ⟨u, hu⟩ : ∃ u, u = Go.strOfNums (be 2 n) := ⟨_, rfl⟩
    have hD := fun W => r8_digits n HN.out 2 2 (by decide) (by omega) W
    have hD2 : ∀ W, Calls Tryz.prog 136 #[.int .u64 x, .int .i64 2] W fun e w' => e = .returned (.string u) ∧ Touch NoS W w' := by
      intro W
      rw [hu, hx]
      exact hD W
    have HD := Lib.hid hD2
    rw [HL.out, ← hu]
    have huz : u.size = 2 := by rw [hu, numsB_size, be_length]
    clear hl h1 h2 hx hn hu hD hD2 h126
    go_enter Tryz.func118, Tryz.ntmps118
    go_wp2_with fail
    refine (HD.out _).mono ?_
    rintro e w1 ⟨rfl, ht⟩
    have HT := Lib.hid ht
    clear ht
    go_wp2
    go_ret2
    exact ⟨rfl, HT.out⟩
  · have hl : Go.strOfNums (lenB n) = Go.strOfNums [127] ++ Go.strOfNums (be 8 n) := by unfold lenB; rw [if_neg h1, if_neg h2, ← nums_append]; rfl
    have h126 : Go.strOfNums [127] = ⟨#[127]⟩ := by kernel_rfl
    rw [h126] at hl
    have HL := Lib.hid hl
    have x2 : 65536 ≤ x := by omega
    obtain ⟨u, hu⟩ : ∃ u, u = Go.strOfNums (be 8 n) := ⟨_, rfl⟩
    have hD := fun W => r8_digits n HN.out 8 8 (by decide) (by omega) W
    have hD2 : ∀ W, Calls Tryz.prog 136 #[.int .u64 x, .int .i64 8] W fun e w' => e = .returned (.string u) ∧ Touch NoS W w' := by
      intro W
      rw [hu, hx]
      exact hD W
    have HD := Lib.hid hD2
    rw [HL.out, ← hu]
    have huz : u.size = 8 := by rw [hu, numsB_size, be_length]
    clear hl h1 h2 hx hn hu hD hD2 h126
    go_enter Tryz.func118, Tryz.ntmps118
    go_wp2_with fail
    refine (HD.out _).mono ?_
    rintro e w1 ⟨rfl, ht⟩
    have HT := Lib.hid ht
    clear ht
    go_wp2
    go_ret2
    exact ⟨rfl, HT.out⟩
end Go.Proofs.YtpadlcllcmodaaaGreat
/- ref09: Control, Form, Check. -/
namespace Go.Proofs.YtpadlcllcmodaaaGreat
open Go.RowKit
set_option linter.unusedSimpArgs false
set_option linter.unusedVariables false

theorem r9_control (op : Int) (w : World) : Calls Tryz.prog 111 #[.int .i64 op] w fun e w' => e = .returned (.bool (control9 op)) ∧ w = w' := by
  unfold control9
  by_cases h : 8 ≤ op
  · by_cases h2 : op ≤ 10
    · rw [decide_eq_true (by omega)]
      go_enter Tryz.func111, Tryz.ntmps111
      go_wp2
      go_ret
      exact ⟨rfl, rfl⟩
    · rw [decide_eq_false (by omega)]
      go_enter Tryz.func111, Tryz.ntmps111
      go_wp2
      go_ret
      exact ⟨rfl, rfl⟩
  · rw [decide_eq_false (by omega)]
    go_enter Tryz.func111, Tryz.ntmps111
    go_wp2
    go_ret
    exact ⟨rfl, rfl⟩

theorem form9_eq (f : Fr) : form9 f = ((decide (0 ≤ f.op ∧ f.op ≤ 2) || (control9 f.op && (f.fin && decide (f.data.size ≤ 125)))) && (f.masked || (f.key == [0, 0, 0, 0]))) := by
  have h1 : known9 f.op = (decide (0 ≤ f.op ∧ f.op ≤ 2) || control9 f.op) := by
    unfold known9 control9
    rw [Bool.eq_iff_iff]
    simp only [Bool.or_eq_true, decide_eq_true_eq]
    omega
  have h2 : (decide (0 ≤ f.op ∧ f.op ≤ 2) && control9 f.op) = false := by
    unfold control9
    rw [Bool.eq_false_iff]
    simp only [ne_eq, Bool.and_eq_true, decide_eq_true_eq]
    omega
  have h3 : decide (125 < f.data.size) = !decide (f.data.size ≤ 125) := by
    by_cases h : f.data.size ≤ 125
    · rw [decide_eq_true h, decide_eq_false (by omega)]; rfl
    · rw [decide_eq_false h, decide_eq_true (by omega)]; rfl
  have h4 : decide (f.key ≠ [0, 0, 0, 0]) = !(f.key == [0, 0, 0, 0]) := by
    by_cases h : f.key = [0, 0, 0, 0]
    · rw [h]; rfl
    · rw [decide_eq_true h, beq_eq_false_iff_ne.2 h]; rfl
  unfold form9
  rw [h1, h3, h4]
  revert h2
  generalize decide (0 ≤ f.op ∧ f.op ≤ 2) = a
  generalize control9 f.op = c
  generalize decide (f.data.size ≤ 125) = q
  generalize (f.key == [0, 0, 0, 0]) = z
  generalize f.fin = x
  generalize f.masked = m
  revert a c q z x m
  decide

set_option maxHeartbeats 3200000 in
set_option maxRecDepth 100000 in
theorem r9_form (f : Fr) (hz : f.data.size ≤ maxLen) (w : World) : Calls Tryz.prog 87 #[.agg f.cs] w fun e w' => e = .returned (.bool (form9 f)) ∧ Touch NoS w w' := by
  rw [form9_eq]
  unfold maxLen at hz
  obtain ⟨fin, op, masked, k0, k1, k2, k3, d⟩ := f
  simp only [Fr.cs, Fr.key] at *
  obtain ⟨z, hzz⟩ : ∃ z, z = ([k0, k1, k2, k3] == [0, 0, 0, 0]) := ⟨_, rfl⟩
  have heqk : ∀ w, (binOp .eql 59 (.agg #[.int .u8 k0, .int .u8 k1, .int .u8 k2, .int .u8 k3]) (.agg #[.int .u8 0, .int .u8 0, .int .u8 0, .int .u8 0])).run Tryz.prog w = .ok (.bool z) w := fun w => by rw [eql_key, hzz]
  rw [← hzz]
  clear hzz
  have HC := Lib.hid (r9_control op)
  have hand : ∀ (a : Bool) (R : Bool), R = (a && (masked || z)) → Hid (R = (a && (masked || z))) := fun _ _ h => h
  clear hand
  by_cases ha : 0 ≤ op ∧ op ≤ 2
  · rw [decide_eq_true ha, Bool.true_or, Bool.true_and]
    obtain ⟨a0, a1⟩ := ha
    cases masked
    all_goals
      go_enter Tryz.func87, Tryz.ntmps87
      go_wp2
      go_ret
      exact ⟨by simp, (Touch.refl _ _).alloc _⟩
  rw [decide_eq_false ha, Bool.false_or]
  obtain ⟨cn, hcn⟩ : ∃ cn, cn = control9 op := ⟨_, rfl⟩
  rw [← hcn] at HC ⊢
  have HA : Hid (¬ (0 ≤ op ∧ op ≤ 2)) := ha
  clear hcn ha
  have hcase : (op < 0) ∨ (0 ≤ op ∧ 2 < op) := by have := HA.out; omega
  cases cn with
  | false =>
    rw [Bool.false_and, Bool.false_and]
    rcases hcase with h | ⟨h, h'⟩
    all_goals
      go_enter Tryz.func87, Tryz.ntmps87
      go_wp2_with fail
      refine (HC.out _).mono ?_
      rintro e w1 ⟨rfl, rfl⟩
      go_wp2
      go_ret
      exact ⟨rfl, (Touch.refl _ _).alloc _⟩
  | true =>
    rw [Bool.true_and]
    cases fin with
    | false =>
      rw [Bool.false_and, Bool.false_and]
      rcases hcase with h | ⟨h, h'⟩
      all_goals
        go_enter Tryz.func87, Tryz.ntmps87
        go_wp2_with fail
        refine (HC.out _).mono ?_
        rintro e w1 ⟨rfl, rfl⟩
        go_wp2
        go_ret
        exact ⟨rfl, (Touch.refl _ _).alloc _⟩
    | true =>
      rw [Bool.true_and]
      by_cases hs : d.size ≤ 125
      · rw [decide_eq_true hs, Bool.true_and]
        cases masked
        all_goals
          rcases hcase with h | ⟨h, h'⟩
          all_goals
            go_enter Tryz.func87, Tryz.ntmps87
            go_wp2_with fail
            refine (HC.out _).mono ?_
            rintro e w1 ⟨rfl, rfl⟩
            go_wp2
            go_ret
            exact ⟨by first | (simp; done) | (simp; omega) | (simp; intro _; omega), (Touch.refl _ _).alloc _⟩
      · rw [decide_eq_false hs, Bool.false_and]
        rcases hcase with h | ⟨h, h'⟩
        all_goals
          go_enter Tryz.func87, Tryz.ntmps87
          go_wp2_with fail
          refine (HC.out _).mono ?_
          rintro e w1 ⟨rfl, rfl⟩
          go_wp2
          go_ret
          exact ⟨rfl, (Touch.refl _ _).alloc _⟩

end Go.Proofs.YtpadlcllcmodaaaGreat
/- ref09: Text. -/
namespace Go.Proofs.YtpadlcllcmodaaaGreat
open Go.RowKit
set_option linter.unusedSimpArgs false
set_option linter.unusedVariables false

theorem form_op {f : Fr} (h : form9 f = true) : (8 ≤ f.op ∧ f.op ≤ 10) ∨ (0 ≤ f.op ∧ f.op ≤ 2) := by
  unfold form9 at h
  simp only [Bool.and_eq_true, Bool.not_eq_true'] at h
  have := h.1.1
  unfold known9 at this
  exact of_decide_eq_true this
theorem Touch.rule {w w' : World} (h : Touch NoS w w') : ∀ b o, b < w.heap.size → w'.cell? ⟨b, o, none⟩ = w.cell? ⟨b, o, none⟩ := fun b o hb => World.cell?_of_block (h.block b hb (fun h => h))
theorem conv_cells2 (W : World) (g : Nat) (a b : Int) (c0 : W.cell? ⟨g, 0, none⟩ = some (.int .u8 a)) (c1 : W.cell? ⟨g, 1, none⟩ = some (.int .u8 b)) :
    (convert 49 9 (.slice (some ⟨g, 0, none⟩) 2 2)).run Tryz.prog W = .ok (.string (Go.strOfNums [a, b])) W :=
  Go.run_convert_bytes_arg (P := Tryz.prog) _ 49 5 Tryz.underlying49 Tryz.underlying5 g 0 2 2 [a, b] rfl (fun i hi => by
    rcases i with _ | _ | i
    · exact c0
    · exact c1
    · omega) 9 Tryz.underlying9
theorem conv_cells4 (W : World) (g : Nat) (a b c d : Int) (c0 : W.cell? ⟨g, 3, none⟩ = some (.int .u8 a)) (c1 : W.cell? ⟨g, 4, none⟩ = some (.int .u8 b)) (c2 : W.cell? ⟨g, 5, none⟩ = some (.int .u8 c)) (c3 : W.cell? ⟨g, 6, none⟩ = some (.int .u8 d)) :
    (convert 49 9 (.slice (some ⟨g, 3, none⟩) 4 4)).run Tryz.prog W = .ok (.string (Go.strOfNums [a, b, c, d])) W :=
  Go.run_convert_bytes_arg (P := Tryz.prog) _ 49 5 Tryz.underlying49 Tryz.underlying5 g 3 4 4 [a, b, c, d] rfl (fun i hi => by
    rcases i with _ | _ | _ | _ | i
    · exact c0
    · exact c1
    · exact c2
    · exact c3
    · omega) 9 Tryz.underlying9

set_option maxHeartbeats 3200000 in
set_option maxRecDepth 100000 in
theorem r9_text_plain (f : Fr) (hf : f.good) (hfm : form9 f = true) (hz : f.data.size ≤ 1000000) (hm : f.masked = false) (w : World) : Calls Tryz.prog 92 #[.agg f.cs] w fun e w' => e = .returned (.string (Go.strOfNums (fput f))) ∧ Touch NoS w w' := by
  have hop := form_op hfm
  have hk := conv_one
  obtain ⟨R, hR⟩ : ∃ R, R = Go.strOfNums (fput f) := ⟨_, rfl⟩
  rw [← hR]
  have hfp : fput f = [first9 f] ++ (lenB f.data.size ++ sb f.data) := by unfold fput long9; rw [hm]; simp
  rw [hfp, nums_append, nums_append, nums_sb] at hR
  obtain ⟨fin, op, masked, k0, k1, k2, k3, d⟩ := f
  simp only [Fr.cs, first9] at *
  subst hm
  obtain ⟨n, hn⟩ : ∃ n, n = d.size := ⟨_, rfl⟩
  have HPUT := Lib.hid (fun W => r8_put d.size (by omega) W)
  obtain ⟨u, hu⟩ : ∃ u, u = Go.strOfNums (lenB d.size) := ⟨_, rfl⟩
  rw [← hu] at HPUT hR
  have huz : u.size ≤ 9 := by rw [hu, numsB_size]; exact lenB_le _
  have op0 : 0 ≤ op := by omega
  have op1 : op ≤ 10 := by omega
  clear hf hfm hfp hn hu hop
  cases fin
  · simp only [Bool.false_eq_true, if_false, Int.add_zero] at hR
    have h1 : (Go.strOfNums [op]).size = 1 := by rw [numsB_size]; rfl
    have HR := Lib.hid hR
    clear hR
    go_enter Tryz.func92, Tryz.ntmps92
    go_wp2_with fail
    refine (HPUT.out _).mono ?_
    rintro e w1 ⟨rfl, ht⟩
    have hb := ((Blk.new w 61 #[.bool false, .int .i64 op, .bool false, .int .u8 k0, .int .u8 k1, .int .u8 k2, .int .u8 k3, .string d])).touch ht (fun h => h)
    have HT := Lib.hid (((Touch.refl NoS w).alloc (.cells #[.bool false, .int .i64 op, .bool false, .int .u8 k0, .int .u8 k1, .int .u8 k2, .int .u8 k3, .string d] 61)).trans ht)
    have b2 := hb.cell 2
    have b7 := hb.cell 7
    have hlt := hb.lt
    simp at b2 b7
    clear ht hb
    go_wp2
    go_ret
    exact ⟨by rw [HR.out]; rfl, HT.out.alloc _⟩
  · simp only [if_true] at hR
    have h1 : (Go.strOfNums [op + 128]).size = 1 := by rw [numsB_size]; rfl
    have HR := Lib.hid hR
    clear hR
    go_enter Tryz.func92, Tryz.ntmps92
    go_wp2_with fail
    refine (HPUT.out _).mono ?_
    rintro e w1 ⟨rfl, ht⟩
    have hb := ((Blk.new w 61 #[.bool true, .int .i64 op, .bool false, .int .u8 k0, .int .u8 k1, .int .u8 k2, .int .u8 k3, .string d])).touch ht (fun h => h)
    have HT := Lib.hid (((Touch.refl NoS w).alloc (.cells #[.bool true, .int .i64 op, .bool false, .int .u8 k0, .int .u8 k1, .int .u8 k2, .int .u8 k3, .string d] 61)).trans ht)
    have b2 := hb.cell 2
    have b7 := hb.cell 7
    have hlt := hb.lt
    simp at b2 b7
    clear ht hb
    go_wp2
    go_ret
    exact ⟨by rw [HR.out]; rfl, HT.out.alloc _⟩

set_option maxHeartbeats 6400000 in
set_option maxRecDepth 100000 in
theorem r9_text_mask (f : Fr) (hf : f.good) (hfm : form9 f = true) (hz : f.data.size ≤ 1000000) (hm : f.masked = true) (w : World) : Calls Tryz.prog 92 #[.agg f.cs] w fun e w' => e = .returned (.string (Go.strOfNums (fput f))) ∧ Touch NoS w w' := by
  have hop := form_op hfm
  have hK := hf.2.1
  obtain ⟨R, hR⟩ : ∃ R, R = Go.strOfNums (fput f) := ⟨_, rfl⟩
  rw [← hR]
  obtain ⟨x0, t0, hB, hx0, hx1⟩ := lenB_head f.data.size
  have hfp : fput f = [first9 f, x0 + 128] ++ (t0 ++ (f.key ++ turn f.key 0 (sb f.data))) := by unfold fput long9; rw [hm, hB]; simp
  rw [hfp, nums_append, nums_append, nums_append] at hR
  obtain ⟨fin, op, masked, k0, k1, k2, k3, d⟩ := f
  simp only [Fr.cs, first9, Fr.key] at *
  subst hm
  have HPUT := Lib.hid (fun W => r8_put d.size (by omega) W)
  rw [hB] at HPUT
  obtain ⟨u, hu⟩ : ∃ u, u = Go.strOfNums (x0 :: t0) := ⟨_, rfl⟩
  rw [← hu] at HPUT
  have hul : (x0 :: t0).length ≤ 9 := by rw [← hB]; exact lenB_le _
  have huz : u.size ≤ 9 := by rw [hu, numsB_size]; exact hul
  have hu0 : 0 < u.size := by rw [hu, numsB_size]; simp
  have hbin : bytesIn (x0 :: t0) := by rw [← hB]; exact lenB_in _
  have hsu : sb u = x0 :: t0 := by rw [hu]; exact sb_nums _ hbin
  have hux : ((u[0].toNat : Nat) : Int) = x0 := by rw [← sb_getD u 0 hu0, hsu]; rfl
  have hue : u.extract 1 u.size = Go.strOfNums t0 := by
    apply sb_inj
    rw [sb_extract, hsu, sb_nums t0 (fun x hx => hbin x (by simp [hx])), List.take_of_length_le (by rw [hu, numsB_size]; exact Nat.le_refl _)]
    rfl
  have HAP := Lib.hid (fun W => r8_apply k0 k1 k2 k3 hK d (by omega) W)
  obtain ⟨D, hD⟩ : ∃ D, D = Go.strOfNums (turn [k0, k1, k2, k3] 0 (sb d)) := ⟨_, rfl⟩
  have hDz : D.size ≤ 1000000 := by rw [hD, numsB_size, turn_length, sb_length]; exact hz
  rw [← hD] at HAP hR
  obtain ⟨Q, hQ⟩ : ∃ Q, Q = Go.strOfNums [k0, k1, k2, k3] := ⟨_, rfl⟩
  have hQz : Q.size = 4 := by rw [hQ, numsB_size]; rfl
  obtain ⟨t, htt⟩ : ∃ t, t = Go.strOfNums t0 := ⟨_, rfl⟩
  have htz : t.size ≤ 9 := by rw [htt, numsB_size]; simp at hul; omega
  rw [← hQ, ← htt] at hR
  rw [← htt] at hue
  have op0 : 0 ≤ op := by omega
  have op1 : op ≤ 10 := by omega
  have hcv4 := fun W g c0 c1 c2 c3 => conv_cells4 W g k0 k1 k2 k3 c0 c1 c2 c3
  rw [← hQ] at hcv4
  obtain ⟨X, hX⟩ : ∃ X, X = op + (if fin = true then 128 else 0) := ⟨_, rfl⟩
  rw [← hX] at hR
  have hcv2 := fun W g c0 c1 => conv_cells2 W g X (x0 + 128) c0 c1
  obtain ⟨P, hP⟩ : ∃ P, P = Go.strOfNums [X, x0 + 128] := ⟨_, rfl⟩
  have hPz : P.size = 2 := by rw [hP, numsB_size]; rfl
  rw [← hP] at hR hcv2
  have HR := Lib.hid hR
  have HUE := Lib.hid hue
  have hXb : 0 ≤ X ∧ X ≤ 138 := by rw [hX]; split <;> omega
  have hw1 : IntKind.u8.wrap X = X := IntWalk.u8_in _ (by omega)
  have hw2 : IntKind.u8.wrap (x0 + 128) = x0 + 128 := IntWalk.u8_in _ (by omega)
  have hu1' : (1 : Int) ≤ u.size := by omega
  clear hf hfm hfp hK hB hu hsu hbin hul hD hQ htt hop hR hP
  go_enter Tryz.func92, Tryz.ntmps92
  cases fin
  · simp only [Bool.false_eq_true, if_false, Int.add_zero] at hX
    subst hX
    go_wp2_with fail
    refine (HPUT.out _).mono ?_
    rintro e w1 ⟨rfl, ht⟩
    have hb := ((Blk.new w 61 #[.bool false, .int .i64 X, .bool true, .int .u8 k0, .int .u8 k1, .int .u8 k2, .int .u8 k3, .string d])).touch ht (fun h => h)
    have HT := Lib.hid (((Touch.refl NoS w).alloc (.cells #[.bool false, .int .i64 X, .bool true, .int .u8 k0, .int .u8 k1, .int .u8 k2, .int .u8 k3, .string d] 61)).trans ht)
    have b2 := hb.cell 2
    have b3 := hb.cell 3
    have b4 := hb.cell 4
    have b5 := hb.cell 5
    have b6 := hb.cell 6
    have b7 := hb.cell 7
    have hlt := hb.lt
    simp at b2 b3 b4 b5 b6 b7
    have hlt2 : w.heap.size < w1.heap.size + 1 := by omega
    clear ht hb
    go_wp2_with fail
    have htd : Touch NoS w1 w1.drew := (Touch.refl _ _).drew
    have hcd : ∀ b o, b < w1.heap.size → w1.drew.cell? ⟨b, o, none⟩ = w1.cell? ⟨b, o, none⟩ := fun b o _ => rfl
    have hcl : ∀ W, Touch NoS w1 W → (Touch NoS w1 W ∧ ∀ b o, b < w1.heap.size → W.cell? ⟨b, o, none⟩ = w1.cell? ⟨b, o, none⟩) := fun W h => ⟨h, fun b o hb => World.cell?_of_block (h.block b hb (fun h => h))⟩
    have HCL := Lib.hid hcl
    clear hcl
    go_region_held (fun w' => Touch NoS w1 w' ∧ ∀ b o, b < w1.heap.size → w'.cell? ⟨b, o, none⟩ = w1.cell? ⟨b, o, none⟩)
      ((first | exact ⟨htd, hcd⟩ | (refine HCL.out _ ?_; repeat (with_reducible first | assumption | exact Touch.refl _ _ | refine Touch.drew ?_ | refine Touch.alloc ?_ _))))
      ((go_at_call 113; refine (HAP.out _).mono ?_; rintro e w5 ⟨rfl, ht⟩; have ht7 : Touch NoS w1 w5 := (by refine Touch.trans ?_ ht; repeat (with_reducible first | assumption | exact Touch.refl _ _ | refine Touch.drew ?_ | refine Touch.alloc ?_ _)); have hr5 := ht.rule))
    all_goals
      go_wp2
      go_ret
      exact ⟨by rw [HR.out, ← ByteArray.append_assoc, ← ByteArray.append_assoc]; rfl, HT.out.trans (by repeat (with_reducible first | assumption | exact Touch.refl _ _ | refine Touch.drew ?_ | refine Touch.alloc ?_ _))⟩
  · simp only [if_true] at hX
    subst hX
    go_wp2_with fail
    refine (HPUT.out _).mono ?_
    rintro e w1 ⟨rfl, ht⟩
    have hb := ((Blk.new w 61 #[.bool true, .int .i64 op, .bool true, .int .u8 k0, .int .u8 k1, .int .u8 k2, .int .u8 k3, .string d])).touch ht (fun h => h)
    have HT := Lib.hid (((Touch.refl NoS w).alloc (.cells #[.bool true, .int .i64 op, .bool true, .int .u8 k0, .int .u8 k1, .int .u8 k2, .int .u8 k3, .string d] 61)).trans ht)
    have b2 := hb.cell 2
    have b3 := hb.cell 3
    have b4 := hb.cell 4
    have b5 := hb.cell 5
    have b6 := hb.cell 6
    have b7 := hb.cell 7
    have hlt := hb.lt
    simp at b2 b3 b4 b5 b6 b7
    have hlt2 : w.heap.size < w1.heap.size + 1 := by omega
    clear ht hb
    go_wp2_with fail
    have htd : Touch NoS w1 w1.drew := (Touch.refl _ _).drew
    have hcd : ∀ b o, b < w1.heap.size → w1.drew.cell? ⟨b, o, none⟩ = w1.cell? ⟨b, o, none⟩ := fun b o _ => rfl
    have hcl : ∀ W, Touch NoS w1 W → (Touch NoS w1 W ∧ ∀ b o, b < w1.heap.size → W.cell? ⟨b, o, none⟩ = w1.cell? ⟨b, o, none⟩) := fun W h => ⟨h, fun b o hb => World.cell?_of_block (h.block b hb (fun h => h))⟩
    have HCL := Lib.hid hcl
    clear hcl
    go_region_held (fun w' => Touch NoS w1 w' ∧ ∀ b o, b < w1.heap.size → w'.cell? ⟨b, o, none⟩ = w1.cell? ⟨b, o, none⟩)
      ((first | exact ⟨htd, hcd⟩ | (refine HCL.out _ ?_; repeat (with_reducible first | assumption | exact Touch.refl _ _ | refine Touch.drew ?_ | refine Touch.alloc ?_ _))))
      ((go_at_call 113; refine (HAP.out _).mono ?_; rintro e w5 ⟨rfl, ht⟩; have ht7 : Touch NoS w1 w5 := (by refine Touch.trans ?_ ht; repeat (with_reducible first | assumption | exact Touch.refl _ _ | refine Touch.drew ?_ | refine Touch.alloc ?_ _)); have hr5 := ht.rule))
    all_goals
      go_wp2
      go_ret
      exact ⟨by rw [HR.out, ← ByteArray.append_assoc, ← ByteArray.append_assoc]; rfl, HT.out.trans (by repeat (with_reducible first | assumption | exact Touch.refl _ _ | refine Touch.drew ?_ | refine Touch.alloc ?_ _))⟩
theorem r9_text (f : Fr) (hf : f.good) (hfm : form9 f = true) (hz : f.data.size ≤ 1000000) (w : World) : Calls Tryz.prog 92 #[.agg f.cs] w fun e w' => e = .returned (.string (Go.strOfNums (fput f))) ∧ Touch NoS w w' := by
  cases hm : f.masked
  · exact r9_text_plain f hf hfm hz hm w
  · exact r9_text_mask f hf hfm hz hm w
end Go.Proofs.YtpadlcllcmodaaaGreat
