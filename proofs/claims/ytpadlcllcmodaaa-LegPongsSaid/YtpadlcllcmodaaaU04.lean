/- ref08: Apply, digits, Put. | ref09: Control, Form, Check. | ref09: Text. | ref08: Get. -/
import Derived.Test.YtpadlcllcmodaaaY18
import Derived.Deep.RegionHeld
/- ref08: Apply, digits, Put. -/
namespace Go.Proofs.Ytpadlcllcmodaaa
open Go.RowKit
set_option linter.unusedSimpArgs false
set_option linter.unusedVariables false

theorem nums_append (a b : List Int) : Go.strOfNums (a ++ b) = Go.strOfNums a ++ Go.strOfNums b := by
  apply ByteArray.ext
  apply Array.toList_inj.1
  simp [Go.strOfNums]
theorem take_next (L : List Int) (k : Nat) (hk : k < L.length) : L.take (k + 1) = L.take k ++ [L[k]] := by
  rw [List.take_add_one, List.getElem?_eq_getElem hk]; rfl
theorem conv_one_d (w : World) (b : Int) (t : TypeId) (cap : Nat) :
    (convert 36 9 (.slice (some ⟨w.heap.size, 0, none⟩) 1 cap)).run Try.prog (w.alloc (.cells #[.int .u8 b] t)).drew = .ok (.string (Go.strOfNums [b])) (w.alloc (.cells #[.int .u8 b] t)).drew :=
  conv_str _ _ [b] 1 cap rfl ((Rd.new w (u8s [b]) t (0, 0)).touch_no (Touch.refl _ _).drew)
theorem nums_len (l : List Int) (h : l.length ≤ maxLen) : (Go.strOfNums l).size ≤ maxLen := by rw [numsB_size]; exact h

set_option maxHeartbeats 3200000 in
set_option maxRecDepth 100000 in
theorem r8_apply (k0 k1 k2 k3 : Int) (hK : bytesIn [k0, k1, k2, k3]) (s : ByteArray) (hs : s.size ≤ 281474976710656) (w : World) :
    Calls Try.prog 83 #[.agg #[.int .u8 k0, .int .u8 k1, .int .u8 k2, .int .u8 k3], .int .i64 0, .string s] w fun e w' =>
      e = .returned (.string (Go.strOfNums (turn [k0, k1, k2, k3] 0 (sb s)))) ∧ Touch NoS w w' := by
  have HK := Lib.hid hK
  have hcv := conv_one_d
  clear hK
  obtain ⟨L, hL⟩ : ∃ L, L = turn [k0, k1, k2, k3] 0 (sb s) := ⟨_, rfl⟩
  have hLl : L.length = s.size := by rw [hL, turn_length, sb_length]
  have HL := Lib.hid hL
  have HLL := Lib.hid hLl
  rw [← hL]
  clear hL hLl
  go_enter Try.func83, Try.ntmps83
  go_wp2_with fail
  go_loopw [9, 8] (fun i o wr => ∃ k : Nat, k ≤ s.size ∧ i = .int .i64 k ∧ o = .string (Go.strOfNums (L.take k)) ∧ Blk wr w.heap.size 57 #[.int .u8 k0, .int .u8 k1, .int .u8 k2, .int .u8 k3] ∧ Touch NoS w wr) (fun i _ _ => s.size - (intOf i).toNat)
  case atStart => exact ⟨0, by omega, rfl, rfl, Blk.new _ _ _, (Touch.refl _ _).alloc _⟩
  case round =>
    obtain ⟨k, hk, rfl, rfl, hkb, ht⟩ := hrel
    by_cases hlt : k < s.size
    · obtain ⟨x, hx⟩ : ∃ x, x = (sb s).getD k 0 := ⟨_, rfl⟩
      have hx8 : 0 ≤ x ∧ x ≤ 255 := by rw [hx]; exact getD_in (sb_in s) 0 (by omega) k
      have hxs : ((s[k].toNat : Nat) : Int) = x := by rw [hx, sb_getD s k hlt]
      obtain ⟨j, hj⟩ : ∃ j, j = k % 4 := ⟨_, rfl⟩
      have hj4 : j < 4 := by omega
      obtain ⟨y, hy⟩ : ∃ y, y = ([k0, k1, k2, k3] : List Int).getD j 0 := ⟨_, rfl⟩
      have hy8 : 0 ≤ y ∧ y ≤ 255 := by rw [hy]; exact key_in HK.out j
      have hkc : wr.cell? ⟨w.heap.size, j, none⟩ = some (.int .u8 y) := by
        rw [hkb.cell j, hy]
        rcases j with _ | _ | _ | _ | j
        · rfl
        · rfl
        · rfl
        · rfl
        · omega
      have hxor : bits .xor .u8 x y = bxor x y := u8_xor x y hx8.1 (by omega) hy8.1 (by omega)
      have hLk : L[k]'(by rw [HLL.out]; exact hlt) = bxor x y := by
        have e := HL.out
        subst e
        rw [turn_get _ (sb s) 0 k (by rw [sb_length]; exact hlt), Nat.zero_add, ← hj, ← hy]
        congr 1
        rw [hx, List.getD_eq_getElem?_getD, List.getElem?_eq_getElem (by rw [sb_length]; exact hlt)]
        rfl
      have hnext : Go.strOfNums (L.take (k + 1)) = Go.strOfNums (L.take k) ++ Go.strOfNums [bxor x y] := by
        rw [take_next L k (by rw [HLL.out]; exact hlt), nums_append, hLk]
      have HN := Lib.hid hnext
      obtain ⟨p, hp⟩ : ∃ p, p = Go.strOfNums (L.take k) := ⟨_, rfl⟩
      have hpz : p.size ≤ k := by rw [hp, numsB_size, List.length_take]; omega
      rw [← hp] at HN ⊢
      obtain ⟨v, hv⟩ : ∃ v, v = bxor x y := ⟨_, rfl⟩
      rw [← hv] at hxor HN
      have hvz : (Go.strOfNums [v]).size = 1 := by rw [numsB_size]; rfl
      obtain ⟨u, hu⟩ : ∃ u, u = Go.strOfNums [v] := ⟨_, rfl⟩
      have hw0 : IntKind.i64.wrap (k : Int) = k := IntWalk.i64_in _ (by omega)
      have hmod : (k : Int).tmod 4 = (j : Int) := by rw [Int.tmod_eq_emod_of_nonneg (by omega)]; omega
      have hm0 : 0 ≤ (k : Int) % 4 := by omega
      have hm1 : (k : Int) % 4 < 4 := by omega
      have hm2 : ((k : Int) % 4).toNat = j := by omega
      have hlt' : (k : Int) < s.size := by omega
      have hj4' : (j : Int) < 4 := by omega
      have HKB := Lib.hid hkb
      have HT := Lib.hid ht
      clear hkb ht hx hy hv hLk hnext hp hx8 hy8 hj hu
      go_wp2_with fail
      go_region
      all_goals
        go_wp2_with fail
        go_roundw
        · exact ⟨k + 1, by omega, by go_num, by rw [HN.out], (HKB.out.alloc _).drew, (HT.out.alloc _).drew⟩
        · simp [intOf]; omega
    · have hkl : k = s.size := by omega
      subst hkl
      rw [List.take_of_length_le (by rw [HLL.out]; omega)]
      have HT := Lib.hid ht
      clear ht hkb
      go_wp2
      go_ret
      exact ⟨rfl, HT.out⟩

theorem be_drop (m n k : Nat) (hk : k < m) : (be m n).drop (m - (k + 1)) = ((n / 256 ^ k % 256 : Nat) : Int) :: (be m n).drop (m - k) := by
  rw [List.drop_eq_getElem_cons (by rw [be_length]; omega), show m - (k + 1) + 1 = m - k from by omega]
  congr 1
  simp only [be, List.getElem_map, List.getElem_range]
  rw [show m - 1 - (m - (k + 1)) = k from by omega]
end Go.Proofs.Ytpadlcllcmodaaa
/- ref09: Control, Form, Check. -/
namespace Go.Proofs.Ytpadlcllcmodaaa
open Go.RowKit
set_option linter.unusedSimpArgs false
set_option linter.unusedVariables false

theorem r9_control (op : Int) (w : World) : Calls Try.prog 81 #[.int .i64 op] w fun e w' => e = .returned (.bool (control9 op)) ∧ w = w' := by
  unfold control9
  by_cases h : 8 ≤ op
  · by_cases h2 : op ≤ 10
    · rw [decide_eq_true (by omega)]
      go_enter Try.func81, Try.ntmps81
      go_wp2
      go_ret
      exact ⟨rfl, rfl⟩
    · rw [decide_eq_false (by omega)]
      go_enter Try.func81, Try.ntmps81
      go_wp2
      go_ret
      exact ⟨rfl, rfl⟩
  · rw [decide_eq_false (by omega)]
    go_enter Try.func81, Try.ntmps81
    go_wp2
    go_ret
    exact ⟨rfl, rfl⟩

theorem form9_eq (f : Fr) : form9 f = ((decide (0 ≤ f.op ∧ f.op ≤ 2) || (control9 f.op && (f.fin && decide (f.data.size ≤ 125)))) && (f.masked || (f.key == [0, 0, 0, 0]))) := by
  have h1 : known9 f.op = (decide (0 ≤ f.op ∧ f.op ≤ 2) || control9 f.op) := by
    unfold known9 control9
    rw [Bool.eq_iff_iff]
    simp only [Bool.or_eq_true, decide_eq_true_eq]
    omega
  have h2 : (decide (0 ≤ f.op ∧ f.op ≤ 2) && control9 f.op) = false := by
    unfold control9
    rw [Bool.eq_false_iff]
    simp only [ne_eq, Bool.and_eq_true, decide_eq_true_eq]
    omega
  have h3 : decide (125 < f.data.size) = !decide (f.data.size ≤ 125) := by
    by_cases h : f.data.size ≤ 125
    · rw [decide_eq_true h, decide_eq_false (by omega)]; rfl
    · rw [decide_eq_false h, decide_eq_true (by omega)]; rfl
  have h4 : decide (f.key ≠ [0, 0, 0, 0]) = !(f.key == [0, 0, 0, 0]) := by
    by_cases h : f.key = [0, 0, 0, 0]
    · rw [h]; rfl
    · rw [decide_eq_true h, beq_eq_false_iff_ne.2 h]; rfl
  unfold form9
  rw [h1, h3, h4]
  revert h2
  generalize decide (0 ≤ f.op ∧ f.op ≤ 2) = a
  generalize control9 f.op = c
  generalize decide (f.data.size ≤ 125) = q
  generalize (f.key == [0, 0, 0, 0]) = z
  generalize f.fin = x
  generalize f.masked = m
  revert a c q z x m
  decide

end Go.Proofs.Ytpadlcllcmodaaa
/- ref09: Text. -/
namespace Go.Proofs.Ytpadlcllcmodaaa
open Go.RowKit
set_option linter.unusedSimpArgs false
set_option linter.unusedVariables false

theorem form_op {f : Fr} (h : form9 f = true) : (8 ≤ f.op ∧ f.op ≤ 10) ∨ (0 ≤ f.op ∧ f.op ≤ 2) := by
  unfold form9 at h
  simp only [Bool.and_eq_true, Bool.not_eq_true'] at h
  have := h.1.1
  unfold known9 at this
  exact of_decide_eq_true this
theorem Touch.rule {w w' : World} (h : Touch NoS w w') : ∀ b o, b < w.heap.size → w'.cell? ⟨b, o, none⟩ = w.cell? ⟨b, o, none⟩ := fun b o hb => World.cell?_of_block (h.block b hb (fun h => h))
theorem conv_cells2 (W : World) (g : Nat) (a b : Int) (c0 : W.cell? ⟨g, 0, none⟩ = some (.int .u8 a)) (c1 : W.cell? ⟨g, 1, none⟩ = some (.int .u8 b)) :
    (convert 36 9 (.slice (some ⟨g, 0, none⟩) 2 2)).run Try.prog W = .ok (.string (Go.strOfNums [a, b])) W :=
  Go.run_convert_bytes_arg (P := Try.prog) _ 36 5 Try.underlying36 Try.underlying5 g 0 2 2 [a, b] rfl (fun i hi => by
    rcases i with _ | _ | i
    · exact c0
    · exact c1
    · omega) 9 Try.underlying9
theorem conv_cells4 (W : World) (g : Nat) (a b c d : Int) (c0 : W.cell? ⟨g, 3, none⟩ = some (.int .u8 a)) (c1 : W.cell? ⟨g, 4, none⟩ = some (.int .u8 b)) (c2 : W.cell? ⟨g, 5, none⟩ = some (.int .u8 c)) (c3 : W.cell? ⟨g, 6, none⟩ = some (.int .u8 d)) :
    (convert 36 9 (.slice (some ⟨g, 3, none⟩) 4 4)).run Try.prog W = .ok (.string (Go.strOfNums [a, b, c, d])) W :=
  Go.run_convert_bytes_arg (P := Try.prog) _ 36 5 Try.underlying36 Try.underlying5 g 3 4 4 [a, b, c, d] rfl (fun i hi => by
    rcases i with _ | _ | _ | _ | i
    · exact c0
    · exact c1
    · exact c2
    · exact c3
    · omega) 9 Try.underlying9

end Go.Proofs.Ytpadlcllcmodaaa
/- ref08: Get. -/
namespace Go.Proofs.Ytpadlcllcmodaaa
open Go.RowKit
set_option linter.unusedSimpArgs false
set_option linter.unusedVariables false

theorem numB_take (d : Int) (t : List Int) (m : Nat) : ∀ k, k ≤ m → numB d (t.take m) k = numB d t k := by
  intro k
  induction k with
  | zero => intro _; rfl
  | succ k ih =>
    intro hk
    simp only [numB]
    rw [ih (by omega), List.getD_eq_getElem?_getD, List.getD_eq_getElem?_getD, List.getElem?_take, if_pos (by omega)]
theorem getD_either (t : List Int) (i : Nat) : (i < t.length ∧ t.getD i 255 = t.getD i 0) ∨ (t.length ≤ i ∧ t.getD i 0 = 0 ∧ t.getD i 255 = 255) := by
  by_cases h : i < t.length
  · left
    refine ⟨h, ?_⟩
    rw [List.getD_eq_getElem?_getD, List.getD_eq_getElem?_getD, List.getElem?_eq_getElem h]
    rfl
  · right
    refine ⟨by omega, ?_, ?_⟩ <;> rw [List.getD_eq_getElem?_getD, List.getElem?_eq_none (by omega)] <;> rfl
theorem getSize_cons (x : Int) (t : List Int) (size : Nat) (lo hi : Int) : getSize (x :: t) size lo hi =
    if numB 255 t size < lo ∨ hi < numB 0 t size then (0, 0, 81) else if t.length < size then (0, 0, 80) else (numB 0 t size, 1 + size, 0) := by
  unfold getSize
  rw [take_drop_one _ size x t rfl, numB_take _ _ _ _ (Nat.le_refl _), numB_take _ _ _ _ (Nat.le_refl _)]
  have : ((x :: t).length < 1 + size) = (t.length < size) := by simp; omega
  simp only [this]
/-- What the loop over eight bytes knows so far. -/
def far8 (t : List Int) (k : Nat) : Prop := (1 ≤ k → t.getD 0 0 < 128) ∧ (6 ≤ k → numB 0 t 6 ≠ 0)
theorem get8_more {t : List Int} (ht : bytesIn t) (x : Int) (k : Nat) (hk : k < 8) (hl : t.length = k) (hf : far8 t k) : getSize (x :: t) 8 65536 9223372036854775807 = (0, 0, 80) := by
  rw [getSize_cons]
  have g0 := getD_in ht 0 (by omega) 0
  have g1 := getD_in ht 0 (by omega) 1
  have g2 := getD_in ht 0 (by omega) 2
  have g3 := getD_in ht 0 (by omega) 3
  have g4 := getD_in ht 0 (by omega) 4
  have g5 := getD_in ht 0 (by omega) 5
  have g6 := getD_in ht 0 (by omega) 6
  have g7 := getD_in ht 0 (by omega) 7
  have e0 := getD_either t 0
  have e1 := getD_either t 1
  have e2 := getD_either t 2
  have e3 := getD_either t 3
  have e4 := getD_either t 4
  have e5 := getD_either t 5
  have e6 := getD_either t 6
  have e7 := getD_either t 7
  obtain ⟨f1, f2⟩ := hf
  have hc : ¬ (numB 255 t 8 < 65536 ∨ 9223372036854775807 < numB 0 t 8) := by
    simp only [numB] at f2 ⊢
    rcases k with _ | _ | _ | _ | _ | _ | _ | _ | k
    all_goals omega
  rw [if_neg hc, if_pos (by omega)]
theorem get8_high {t : List Int} (ht : bytesIn t) (x : Int) (hl : 0 < t.length) (h : 128 ≤ t.getD 0 0) : getSize (x :: t) 8 65536 9223372036854775807 = (0, 0, 81) := by
  rw [getSize_cons]
  refine if_pos (.inr ?_)
  have g1 := getD_in ht 0 (by omega) 1
  have g2 := getD_in ht 0 (by omega) 2
  have g3 := getD_in ht 0 (by omega) 3
  have g4 := getD_in ht 0 (by omega) 4
  have g5 := getD_in ht 0 (by omega) 5
  have g6 := getD_in ht 0 (by omega) 6
  have g7 := getD_in ht 0 (by omega) 7
  simp only [numB]
  omega
theorem get8_low {t : List Int} (ht : bytesIn t) (x : Int) (hl : 6 ≤ t.length) (h : numB 0 t 6 = 0) : getSize (x :: t) 8 65536 9223372036854775807 = (0, 0, 81) := by
  rw [getSize_cons]
  refine if_pos (.inl ?_)
  have e0 := getD_either t 0
  have e1 := getD_either t 1
  have e2 := getD_either t 2
  have e3 := getD_either t 3
  have e4 := getD_either t 4
  have e5 := getD_either t 5
  have e6 := getD_in ht 255 (by omega) 6
  have e7 := getD_in ht 255 (by omega) 7
  simp only [numB] at h ⊢
  omega
theorem get8_ok {t : List Int} (ht : bytesIn t) (x : Int) (hl : 8 ≤ t.length) (hf : far8 t 8) : getSize (x :: t) 8 65536 9223372036854775807 = (numB 0 t 8, 9, 0) := by
  rw [getSize_cons]
  have g0 := getD_in ht 0 (by omega) 0
  have g1 := getD_in ht 0 (by omega) 1
  have g2 := getD_in ht 0 (by omega) 2
  have g3 := getD_in ht 0 (by omega) 3
  have g4 := getD_in ht 0 (by omega) 4
  have g5 := getD_in ht 0 (by omega) 5
  have g6 := getD_in ht 0 (by omega) 6
  have g7 := getD_in ht 0 (by omega) 7
  have e0 := getD_either t 0
  have e1 := getD_either t 1
  have e2 := getD_either t 2
  have e3 := getD_either t 3
  have e4 := getD_either t 4
  have e5 := getD_either t 5
  have e6 := getD_either t 6
  have e7 := getD_either t 7
  obtain ⟨f1, f2⟩ := hf
  have f3 := f1 (by omega)
  have f4 := f2 (by omega)
  have hc : ¬ (numB 255 t 8 < 65536 ∨ 9223372036854775807 < numB 0 t 8) := by
    simp only [numB] at f4 ⊢
    omega
  rw [if_neg hc, if_neg (by omega)]
theorem get2_more {t : List Int} (ht : bytesIn t) (x : Int) (k : Nat) (hk : k < 2) (hl : t.length = k) : getSize (x :: t) 2 126 65535 = (0, 0, 80) := by
  rw [getSize_cons]
  have g0 := getD_in ht 0 (by omega) 0
  have g1 := getD_in ht 0 (by omega) 1
  have e0 := getD_either t 0
  have e1 := getD_either t 1
  have hc : ¬ (numB 255 t 2 < 126 ∨ 65535 < numB 0 t 2) := by
    simp only [numB]
    omega
  rw [if_neg hc, if_pos (by omega)]
theorem get2_low {t : List Int} (ht : bytesIn t) (x : Int) (hl : 2 ≤ t.length) (h : numB 0 t 2 < 126) : getSize (x :: t) 2 126 65535 = (0, 0, 81) := by
  rw [getSize_cons]
  refine if_pos (.inl ?_)
  have e0 := getD_either t 0
  have e1 := getD_either t 1
  simp only [numB] at h ⊢
  omega
theorem get2_ok {t : List Int} (ht : bytesIn t) (x : Int) (hl : 2 ≤ t.length) (h : 126 ≤ numB 0 t 2) : getSize (x :: t) 2 126 65535 = (numB 0 t 2, 3, 0) := by
  rw [getSize_cons]
  have g0 := getD_in ht 0 (by omega) 0
  have g1 := getD_in ht 0 (by omega) 1
  have e0 := getD_either t 0
  have e1 := getD_either t 1
  have hc : ¬ (numB 255 t 2 < 126 ∨ 65535 < numB 0 t 2) := by
    simp only [numB] at h ⊢
    omega
  rw [if_neg hc, if_neg (by omega)]
end Go.Proofs.Ytpadlcllcmodaaa
