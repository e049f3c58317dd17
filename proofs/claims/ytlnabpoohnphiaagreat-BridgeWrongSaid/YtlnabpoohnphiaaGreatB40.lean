/- ref09: Text. | ref08: Get. | ref08: Get: the walk. -/
import Derived.Test.YtlnabpoohnphiaaGreatB39
import Derived.Deep.RegionHeld
/- ref09: Text. -/
namespace Go.Proofs.YtlnabpoohnphiaaGreat
open Go.RowKit
set_option linter.unusedSimpArgs false
set_option linter.unusedVariables false

theorem form_op {f : Fr} (h : form9 f = true) : (8 ≤ f.op ∧ f.op ≤ 10) ∨ (0 ≤ f.op ∧ f.op ≤ 2) := by
  unfold form9 at h
  simp only [Bool.and_eq_true, Bool.not_eq_true'] at h
  have := h.1.1
  unfold known9 at this
  exact of_decide_eq_true this
theorem Touch.rule {w w' : World} (h : Touch NoS w w') : ∀ b o, b < w.heap.size → w'.cell? ⟨b, o, none⟩ = w.cell? ⟨b, o, none⟩ := fun b o hb => World.cell?_of_block (h.block b hb (fun h => h))
theorem conv_cells2 (W : World) (g : Nat) (a b : Int) (c0 : W.cell? ⟨g, 0, none⟩ = some (.int .u8 a)) (c1 : W.cell? ⟨g, 1, none⟩ = some (.int .u8 b)) :
    (convert 43 9 (.slice (some ⟨g, 0, none⟩) 2 2)).run Tryz.prog W = .ok (.string (Go.strOfNums [a, b])) W :=
  Go.run_convert_bytes_arg (P := Tryz.prog) _ 43 5 Tryz.underlying43 Tryz.underlying5 g 0 2 2 [a, b] rfl (fun i hi => by
    rcases i with _ | _ | i
    · exact c0
    · exact c1
    · omega) 9 Tryz.underlying9
theorem conv_cells4 (W : World) (g : Nat) (a b c d : Int) (c0 : W.cell? ⟨g, 3, none⟩ = some (.int .u8 a)) (c1 : W.cell? ⟨g, 4, none⟩ = some (.int .u8 b)) (c2 : W.cell? ⟨g, 5, none⟩ = some (.int .u8 c)) (c3 : W.cell? ⟨g, 6, none⟩ = some (.int .u8 d)) :
    (convert 43 9 (.slice (some ⟨g, 3, none⟩) 4 4)).run Tryz.prog W = .ok (.string (Go.strOfNums [a, b, c, d])) W :=
  Go.run_convert_bytes_arg (P := Tryz.prog) _ 43 5 Tryz.underlying43 Tryz.underlying5 g 3 4 4 [a, b, c, d] rfl (fun i hi => by
    rcases i with _ | _ | _ | _ | i
    · exact c0
    · exact c1
    · exact c2
    · exact c3
    · omega) 9 Tryz.underlying9

set_option maxHeartbeats 3200000 in
set_option maxRecDepth 100000 in
theorem r9_text_plain (f : Fr) (hf : f.good) (hfm : form9 f = true) (hz : f.data.size ≤ 1000000) (hm : f.masked = false) (w : World) : Calls Tryz.prog 15 #[.agg f.cs] w fun e w' => e = .returned (.string (Go.strOfNums (fput f))) ∧ Touch NoS w w' := by
  have hop := form_op hfm
  have hk := conv_one
  obtain ⟨R, hR⟩ : ∃ R, R = Go.strOfNums (fput f) := ⟨_, rfl⟩
  rw [← hR]
  have hfp : fput f = [first9 f] ++ (lenB f.data.size ++ sb f.data) := by unfold fput long9; rw [hm]; simp
  rw [hfp, nums_append, nums_append, nums_sb] at hR
  obtain ⟨fin, op, masked, k0, k1, k2, k3, d⟩ := f
  simp only [Fr.cs, first9] at *
  subst hm
  obtain ⟨n, hn⟩ : ∃ n, n = d.size := ⟨_, rfl⟩
  have HPUT := Lib.hid (fun W => r8_put d.size (by omega) W)
  obtain ⟨u, hu⟩ : ∃ u, u = Go.strOfNums (lenB d.size) := ⟨_, rfl⟩
  rw [← hu] at HPUT hR
  have huz : u.size ≤ 9 := by rw [hu, numsB_size]; exact lenB_le _
  have op0 : 0 ≤ op := by omega
  have op1 : op ≤ 10 := by omega
  clear hf hfm hfp hn hu hop
  cases fin
  · simp only [Bool.false_eq_true, if_false, Int.add_zero] at hR
    have h1 : (Go.strOfNums [op]).size = 1 := by rw [numsB_size]; rfl
    have HR := Lib.hid hR
    clear hR
    go_enter Tryz.func15, Tryz.ntmps15
    go_wp2_with fail
    refine (HPUT.out _).mono ?_
    rintro e w1 ⟨rfl, ht⟩
    have hb := ((Blk.new w 42 #[.bool false, .int .i64 op, .bool false, .int .u8 k0, .int .u8 k1, .int .u8 k2, .int .u8 k3, .string d])).touch ht (fun h => h)
    have HT := Lib.hid (((Touch.refl NoS w).alloc (.cells #[.bool false, .int .i64 op, .bool false, .int .u8 k0, .int .u8 k1, .int .u8 k2, .int .u8 k3, .string d] 42)).trans ht)
    have b2 := hb.cell 2
    have b7 := hb.cell 7
    have hlt := hb.lt
    simp at b2 b7
    clear ht hb
    go_wp2
    go_ret
    exact ⟨by rw [HR.out]; rfl, HT.out.alloc _⟩
  · simp only [if_true] at hR
    have h1 : (Go.strOfNums [op + 128]).size = 1 := by rw [numsB_size]; rfl
    have HR := Lib.hid hR
    clear hR
    go_enter Tryz.func15, Tryz.ntmps15
    go_wp2_with fail
    refine (HPUT.out _).mono ?_
    rintro e w1 ⟨rfl, ht⟩
    have hb := ((Blk.new w 42 #[.bool true, .int .i64 op, .bool false, .int .u8 k0, .int .u8 k1, .int .u8 k2, .int .u8 k3, .string d])).touch ht (fun h => h)
    have HT := Lib.hid (((Touch.refl NoS w).alloc (.cells #[.bool true, .int .i64 op, .bool false, .int .u8 k0, .int .u8 k1, .int .u8 k2, .int .u8 k3, .string d] 42)).trans ht)
    have b2 := hb.cell 2
    have b7 := hb.cell 7
    have hlt := hb.lt
    simp at b2 b7
    clear ht hb
    go_wp2
    go_ret
    exact ⟨by rw [HR.out]; rfl, HT.out.alloc _⟩

set_option maxHeartbeats 6400000 in
set_option maxRecDepth 100000 in
theorem r9_text_mask (f : Fr) (hf : f.good) (hfm : form9 f = true) (hz : f.data.size ≤ 1000000) (hm : f.masked = true) (w : World) : Calls Tryz.prog 15 #[.agg f.cs] w fun e w' => e = .returned (.string (Go.strOfNums (fput f))) ∧ Touch NoS w w' := by
  have hop := form_op hfm
  have hK := hf.2.1
  obtain ⟨R, hR⟩ : ∃ R, R = Go.strOfNums (fput f) := ⟨_, rfl⟩
  rw [← hR]
  obtain ⟨x0, t0, hB, hx0, hx1⟩ := lenB_head f.data.size
  have hfp : fput f = [first9 f, x0 + 128] ++ (t0 ++ (f.key ++ turn f.key 0 (sb f.data))) := by unfold fput long9; rw [hm, hB]; simp
  rw [hfp, nums_append, nums_append, nums_append] at hR
  obtain ⟨fin, op, masked, k0, k1, k2, k3, d⟩ := f
  simp only [Fr.cs, first9, Fr.key] at *
  subst hm
  have HPUT := Lib.hid (fun W => r8_put d.size (by omega) W)
  rw [hB] at HPUT
  obtain ⟨u, hu⟩ : ∃ u, u = Go.strOfNums (x0 :: t0) := ⟨_, rfl⟩
  rw [← hu] at HPUT
  have hul : (x0 :: t0).length ≤ 9 := by rw [← hB]; exact lenB_le _
  have huz : u.size ≤ 9 := by rw [hu, numsB_size]; exact hul
  have hu0 : 0 < u.size := by rw [hu, numsB_size]; simp
  have hbin : bytesIn (x0 :: t0) := by rw [← hB]; exact lenB_in _
  have hsu : sb u = x0 :: t0 := by rw [hu]; exact sb_nums _ hbin
  have hux : ((u[0].toNat : Nat) : Int) = x0 := by rw [← sb_getD u 0 hu0, hsu]; rfl
  have hue : u.extract 1 u.size = Go.strOfNums t0 := by
    apply sb_inj
    rw [sb_extract, hsu, sb_nums t0 (fun x hx => hbin x (by simp [hx])), List.take_of_length_le (by rw [hu, numsB_size]; exact Nat.le_refl _)]
    rfl
  have HAP := Lib.hid (fun W => r8_apply k0 k1 k2 k3 hK d (by omega) W)
  obtain ⟨D, hD⟩ : ∃ D, D = Go.strOfNums (turn [k0, k1, k2, k3] 0 (sb d)) := ⟨_, rfl⟩
  have hDz : D.size ≤ 1000000 := by rw [hD, numsB_size, turn_length, sb_length]; exact hz
  rw [← hD] at HAP hR
  obtain ⟨Q, hQ⟩ : ∃ Q, Q = Go.strOfNums [k0, k1, k2, k3] := ⟨_, rfl⟩
  have hQz : Q.size = 4 := by rw [hQ, numsB_size]; rfl
  obtain ⟨t, htt⟩ : ∃ t, t = Go.strOfNums t0 := ⟨_, rfl⟩
  have htz : t.size ≤ 9 := by rw [htt, numsB_size]; simp at hul; omega
  rw [← hQ, ← htt] at hR
  rw [← htt] at hue
  have op0 : 0 ≤ op := by omega
  have op1 : op ≤ 10 := by omega
  have hcv4 := fun W g c0 c1 c2 c3 => conv_cells4 W g k0 k1 k2 k3 c0 c1 c2 c3
  rw [← hQ] at hcv4
  obtain ⟨X, hX⟩ : ∃ X, X = op + (if fin = true then 128 else 0) := ⟨_, rfl⟩
  rw [← hX] at hR
  have hcv2 := fun W g c0 c1 => conv_cells2 W g X (x0 + 128) c0 c1
  obtain ⟨P, hP⟩ : ∃ P, P = Go.strOfNums [X, x0 + 128] := ⟨_, rfl⟩
  have hPz : P.size = 2 := by rw [hP, numsB_size]; rfl
  rw [← hP] at hR hcv2
  have HR := Lib.hid hR
  have HUE := Lib.hid hue
  have hXb : 0 ≤ X ∧ X ≤ 138 := by rw [hX]; split <;> omega
  have hw1 : IntKind.u8.wrap X = X := IntWalk.u8_in _ (by omega)
  have hw2 : IntKind.u8.wrap (x0 + 128) = x0 + 128 := IntWalk.u8_in _ (by omega)
  have hu1' : (1 : Int) ≤ u.size := by omega
  clear hf hfm hfp hK hB hu hsu hbin hul hD hQ htt hop hR hP
  go_enter Tryz.func15, Tryz.ntmps15
  cases fin
  · simp only [Bool.false_eq_true, if_false, Int.add_zero] at hX
    subst hX
    go_wp2_with fail
    refine (HPUT.out _).mono ?_
    rintro e w1 ⟨rfl, ht⟩
    have hb := ((Blk.new w 42 #[.bool false, .int .i64 X, .bool true, .int .u8 k0, .int .u8 k1, .int .u8 k2, .int .u8 k3, .string d])).touch ht (fun h => h)
    have HT := Lib.hid (((Touch.refl NoS w).alloc (.cells #[.bool false, .int .i64 X, .bool true, .int .u8 k0, .int .u8 k1, .int .u8 k2, .int .u8 k3, .string d] 42)).trans ht)
    have b2 := hb.cell 2
    have b3 := hb.cell 3
    have b4 := hb.cell 4
    have b5 := hb.cell 5
    have b6 := hb.cell 6
    have b7 := hb.cell 7
    have hlt := hb.lt
    simp at b2 b3 b4 b5 b6 b7
    have hlt2 : w.heap.size < w1.heap.size + 1 := by omega
    clear ht hb
    go_wp2_with fail
    have htd : Touch NoS w1 w1.drew := (Touch.refl _ _).drew
    have hcd : ∀ b o, b < w1.heap.size → w1.drew.cell? ⟨b, o, none⟩ = w1.cell? ⟨b, o, none⟩ := fun b o _ => rfl
    have hcl : ∀ W, Touch NoS w1 W → (Touch NoS w1 W ∧ ∀ b o, b < w1.heap.size → W.cell? ⟨b, o, none⟩ = w1.cell? ⟨b, o, none⟩) := fun W h => ⟨h, fun b o hb => World.cell?_of_block (h.block b hb (fun h => h))⟩
    have HCL := Lib.hid hcl
    clear hcl
    go_region_held (fun w' => Touch NoS w1 w' ∧ ∀ b o, b < w1.heap.size → w'.cell? ⟨b, o, none⟩ = w1.cell? ⟨b, o, none⟩)
      ((first | exact ⟨htd, hcd⟩ | (refine HCL.out _ ?_; repeat (with_reducible first | assumption | exact Touch.refl _ _ | refine Touch.drew ?_ | refine Touch.alloc ?_ _))))
      ((go_at_call 35; refine (HAP.out _).mono ?_; rintro e w5 ⟨rfl, ht⟩; have ht7 : Touch NoS w1 w5 := (by refine Touch.trans ?_ ht; repeat (with_reducible first | assumption | exact Touch.refl _ _ | refine Touch.drew ?_ | refine Touch.alloc ?_ _)); have hr5 := ht.rule))
    all_goals
      go_wp2
      go_ret
      exact ⟨by rw [HR.out, ← ByteArray.append_assoc, ← ByteArray.append_assoc]; rfl, HT.out.trans (by repeat (with_reducible first | assumption | exact Touch.refl _ _ | refine Touch.drew ?_ | refine Touch.alloc ?_ _))⟩
  · simp only [if_true] at hX
    subst hX
    go_wp2_with fail
    refine (HPUT.out _).mono ?_
    rintro e w1 ⟨rfl, ht⟩
    have hb := ((Blk.new w 42 #[.bool true, .int .i64 op, .bool true, .int .u8 k0, .int .u8 k1, .int .u8 k2, .int .u8 k3, .string d])).touch ht (fun h => h)
    have HT := Lib.hid (((Touch.refl NoS w).alloc (.cells #[.bool true, .int .i64 op, .bool true, .int .u8 k0, .int .u8 k1, .int .u8 k2, .int .u8 k3, .string d] 42)).trans ht)
    have b2 := hb.cell 2
    have b3 := hb.cell 3
    have b4 := hb.cell 4
    have b5 := hb.cell 5
    have b6 := hb.cell 6
    have b7 := hb.cell 7
    have hlt := hb.lt
    simp at b2 b3 b4 b5 b6 b7
    have hlt2 : w.heap.size < w1.heap.size + 1 := by omega
    clear ht hb
    go_wp2_with fail
    have htd : Touch NoS w1 w1.drew := (Touch.refl _ _).drew
    have hcd : ∀ b o, b < w1.heap.size → w1.drew.cell? ⟨b, o, none⟩ = w1.cell? ⟨b, o, none⟩ := fun b o _ => rfl
    have hcl : ∀ W, Touch NoS w1 W → (Touch NoS w1 W ∧ ∀ b o, b < w1.heap.size → W.cell? ⟨b, o, none⟩ = w1.cell? ⟨b, o, none⟩) := fun W h => ⟨h, fun b o hb => World.cell?_of_block (h.block b hb (fun h => h))⟩
    have HCL := Lib.hid hcl
    clear hcl
    go_region_held (fun w' => Touch NoS w1 w' ∧ ∀ b o, b < w1.heap.size → w'.cell? ⟨b, o, none⟩ = w1.cell? ⟨b, o, none⟩)
      ((first | exact ⟨htd, hcd⟩ | (refine HCL.out _ ?_; repeat (with_reducible first | assumption | exact Touch.refl _ _ | refine Touch.drew ?_ | refine Touch.alloc ?_ _))))
      ((go_at_call 35; refine (HAP.out _).mono ?_; rintro e w5 ⟨rfl, ht⟩; have ht7 : Touch NoS w1 w5 := (by refine Touch.trans ?_ ht; repeat (with_reducible first | assumption | exact Touch.refl _ _ | refine Touch.drew ?_ | refine Touch.alloc ?_ _)); have hr5 := ht.rule))
    all_goals
      go_wp2
      go_ret
      exact ⟨by rw [HR.out, ← ByteArray.append_assoc, ← ByteArray.append_assoc]; rfl, HT.out.trans (by repeat (with_reducible first | assumption | exact Touch.refl _ _ | refine Touch.drew ?_ | refine Touch.alloc ?_ _))⟩
theorem r9_text (f : Fr) (hf : f.good) (hfm : form9 f = true) (hz : f.data.size ≤ 1000000) (w : World) : Calls Tryz.prog 15 #[.agg f.cs] w fun e w' => e = .returned (.string (Go.strOfNums (fput f))) ∧ Touch NoS w w' := by
  cases hm : f.masked
  · exact r9_text_plain f hf hfm hz hm w
  · exact r9_text_mask f hf hfm hz hm w
end Go.Proofs.YtlnabpoohnphiaaGreat
/- ref08: Get. -/
namespace Go.Proofs.YtlnabpoohnphiaaGreat
open Go.RowKit
set_option linter.unusedSimpArgs false
set_option linter.unusedVariables false

theorem numB_take (d : Int) (t : List Int) (m : Nat) : ∀ k, k ≤ m → numB d (t.take m) k = numB d t k := by
  intro k
  induction k with
  | zero => intro _; rfl
  | succ k ih =>
    intro hk
    simp only [numB]
    rw [ih (by omega), List.getD_eq_getElem?_getD, List.getD_eq_getElem?_getD, List.getElem?_take, if_pos (by omega)]
theorem getD_either (t : List Int) (i : Nat) : (i < t.length ∧ t.getD i 255 = t.getD i 0) ∨ (t.length ≤ i ∧ t.getD i 0 = 0 ∧ t.getD i 255 = 255) := by
  by_cases h : i < t.length
  · left
    refine ⟨h, ?_⟩
    rw [List.getD_eq_getElem?_getD, List.getD_eq_getElem?_getD, List.getElem?_eq_getElem h]
    rfl
  · right
    refine ⟨by omega, ?_, ?_⟩ <;> rw [List.getD_eq_getElem?_getD, List.getElem?_eq_none (by omega)] <;> rfl
theorem getSize_cons (x : Int) (t : List Int) (size : Nat) (lo hi : Int) : getSize (x :: t) size lo hi =
    if numB 255 t size < lo ∨ hi < numB 0 t size then (0, 0, 81) else if t.length < size then (0, 0, 80) else (numB 0 t size, 1 + size, 0) := by
  unfold getSize
  rw [take_drop_one _ size x t rfl, numB_take _ _ _ _ (Nat.le_refl _), numB_take _ _ _ _ (Nat.le_refl _)]
  have : ((x :: t).length < 1 + size) = (t.length < size) := by simp; omega
  simp only [this]
/-- What the loop over eight bytes knows so far. -/
def far8 (t : List Int) (k : Nat) : Prop := (1 ≤ k → t.getD 0 0 < 128) ∧ (6 ≤ k → numB 0 t 6 ≠ 0)
theorem get8_more {t : List Int} (ht : bytesIn t) (x : Int) (k : Nat) (hk : k < 8) (hl : t.length = k) (hf : far8 t k) : getSize (x :: t) 8 65536 9223372036854775807 = (0, 0, 80) := by
  rw [getSize_cons]
  have g0 := getD_in ht 0 (by omega) 0
  have g1 := getD_in ht 0 (by omega) 1
  have g2 := getD_in ht 0 (by omega) 2
  have g3 := getD_in ht 0 (by omega) 3
  have g4 := getD_in ht 0 (by omega) 4
  have g5 := getD_in ht 0 (by omega) 5
  have g6 := getD_in ht 0 (by omega) 6
  have g7 := getD_in ht 0 (by omega) 7
  have e0 := getD_either t 0
  have e1 := getD_either t 1
  have e2 := getD_either t 2
  have e3 := getD_either t 3
  have e4 := getD_either t 4
  have e5 := getD_either t 5
  have e6 := getD_either t 6
  have e7 := getD_either t 7
  obtain ⟨f1, f2⟩ := hf
  have hc : ¬ (numB 255 t 8 < 65536 ∨ 9223372036854775807 < numB 0 t 8) := by
    simp only [numB] at f2 ⊢
    rcases k with _ | _ | _ | _ | _ | _ | _ | _ | k
    all_goals omega
  rw [if_neg hc, if_pos (by omega)]
theorem get8_high {t : List Int} (ht : bytesIn t) (x : Int) (hl : 0 < t.length) (h : 128 ≤ t.getD 0 0) : getSize (x :: t) 8 65536 9223372036854775807 = (0, 0, 81) := by
  rw [getSize_cons]
  refine if_pos (.inr ?_)
  have g1 := getD_in ht 0 (by omega) 1
  have g2 := getD_in ht 0 (by omega) 2
  have g3 := getD_in ht 0 (by omega) 3
  have g4 := getD_in ht 0 (by omega) 4
  have g5 := getD_in ht 0 (by omega) 5
  have g6 := getD_in ht 0 (by omega) 6
  have g7 := getD_in ht 0 (by omega) 7
  simp only [numB]
  omega
theorem get8_low {t : List Int} (ht : bytesIn t) (x : Int) (hl : 6 ≤ t.length) (h : numB 0 t 6 = 0) : getSize (x :: t) 8 65536 9223372036854775807 = (0, 0, 81) := by
  rw [getSize_cons]
  refine if_pos (.inl ?_)
  have e0 := getD_either t 0
  have e1 := getD_either t 1
  have e2 := getD_either t 2
  have e3 := getD_either t 3
  have e4 := getD_either t 4
  have e5 := getD_either t 5
  have e6 := getD_in ht 255 (by omega) 6
  have e7 := getD_in ht 255 (by omega) 7
  simp only [numB] at h ⊢
  omega
theorem get8_ok {t : List Int} (ht : bytesIn t) (x : Int) (hl : 8 ≤ t.length) (hf : far8 t 8) : getSize (x :: t) 8 65536 9223372036854775807 = (numB 0 t 8, 9, 0) := by
  rw [getSize_cons]
  have g0 := getD_in ht 0 (by omega) 0
  have g1 := getD_in ht 0 (by omega) 1
  have g2 := getD_in ht 0 (by omega) 2
  have g3 := getD_in ht 0 (by omega) 3
  have g4 := getD_in ht 0 (by omega) 4
  have g5 := getD_in ht 0 (by omega) 5
  have g6 := getD_in ht 0 (by omega) 6
  have g7 := getD_in ht 0 (by omega) 7
  have e0 := getD_either t 0
  have e1 := getD_either t 1
  have e2 := getD_either t 2
  have e3 := getD_either t 3
  have e4 := getD_either t 4
  have e5 := getD_either t 5
  have e6 := getD_either t 6
  have e7 := getD_either t 7
  obtain ⟨f1, f2⟩ := hf
  have f3 := f1 (by omega)
  have f4 := f2 (by omega)
  have hc : ¬ (numB 255 t 8 < 65536 ∨ 9223372036854775807 < numB 0 t 8) := by
    simp only [numB] at f4 ⊢
    omega
  rw [if_neg hc, if_neg (by omega)]
theorem get2_more {t : List Int} (ht : bytesIn t) (x : Int) (k : Nat) (hk : k < 2) (hl : t.length = k) : getSize (x :: t) 2 126 65535 = (0, 0, 80) := by
  rw [getSize_cons]
  have g0 := getD_in ht 0 (by omega) 0
  have g1 := getD_in ht 0 (by omega) 1
  have e0 := getD_either t 0
  have e1 := getD_either t 1
  have hc : ¬ (numB 255 t 2 < 126 ∨ 65535 < numB 0 t 2) := by
    simp only [numB]
    omega
  rw [if_neg hc, if_pos (by omega)]
theorem get2_low {t : List Int} (ht : bytesIn t) (x : Int) (hl : 2 ≤ t.length) (h : numB 0 t 2 < 126) : getSize (x :: t) 2 126 65535 = (0, 0, 81) := by
  rw [getSize_cons]
  refine if_pos (.inl ?_)
  have e0 := getD_either t 0
  have e1 := getD_either t 1
  simp only [numB] at h ⊢
  omega
theorem get2_ok {t : List Int} (ht : bytesIn t) (x : Int) (hl : 2 ≤ t.length) (h : 126 ≤ numB 0 t 2) : getSize (x :: t) 2 126 65535 = (numB 0 t 2, 3, 0) := by
  rw [getSize_cons]
  have g0 := getD_in ht 0 (by omega) 0
  have g1 := getD_in ht 0 (by omega) 1
  have e0 := getD_either t 0
  have e1 := getD_either t 1
  have hc : ¬ (numB 255 t 2 < 126 ∨ 65535 < numB 0 t 2) := by
    simp only [numB] at h ⊢
    omega
  rw [if_neg hc, if_neg (by omega)]
end Go.Proofs.YtlnabpoohnphiaaGreat
/- ref08: Get: the walk. -/
namespace Go.Proofs.YtlnabpoohnphiaaGreat
open Go.RowKit
set_option linter.unusedSimpArgs false
set_option linter.unusedVariables false

theorem far8_next {t : List Int} {k : Nat} (hf : far8 t k) (h0 : k = 0 → t.getD 0 0 < 128) (h5 : k = 5 → numB 0 t 6 ≠ 0) : far8 t (k + 1) := by
  refine ⟨fun h => ?_, fun h => ?_⟩
  · by_cases hk : k = 0
    · exact h0 hk
    · exact hf.1 (by omega)
  · by_cases hk : k = 5
    · exact h5 hk
    · exact hf.2 (by omega)
theorem numB_small {t : List Int} (ht : bytesIn t) (k : Nat) (hk : k < 8) : 0 ≤ numB 0 t k ∧ numB 0 t k < 72057594037927936 := by
  have b1 := numB_bound ht 0 (by omega) k
  have hp : (256 : Int) ^ k ≤ 72057594037927936 := by
    have : (256 : Nat) ^ k ≤ 256 ^ 7 := Nat.pow_le_pow_right (by omega) (by omega)
    have h2 : ((256 ^ k : Nat) : Int) ≤ ((256 ^ 7 : Nat) : Int) := by exact_mod_cast this
    simpa using h2
  omega

set_option maxHeartbeats 6400000 in
set_option maxRecDepth 100000 in
theorem r8_get (s : ByteArray) (hs : s.size ≤ 4611686018427387904) (w : World) :
    Calls Tryz.prog 93 #[.string s] w fun e w' => e = .returned (.tuple #[.int .u64 (getLen (sb s)).1, .int .i64 (getLen (sb s)).2.1, .int .i64 (getLen (sb s)).2.2]) ∧ w = w' := by
  by_cases h0 : s.size = 0
  · have hsb : sb s = [] := List.eq_nil_of_length_eq_zero (by rw [sb_length]; exact h0)
    rw [hsb]
    have hg : getLen [] = (0, 0, 80) := rfl
    rw [hg]
    clear hg hsb
    go_enter Tryz.func93, Tryz.ntmps93
    go_wp2
    go_ret3
    exact ⟨rfl, rfl⟩
  have hpos : 0 < s.size := by omega
  obtain ⟨x, hx⟩ : ∃ x, x = (sb s).getD 0 0 := ⟨_, rfl⟩
  have hx8 : 0 ≤ x ∧ x ≤ 255 := by rw [hx]; exact getD_in (sb_in s) 0 (by omega) 0
  have hxs : ((s[0].toNat : Nat) : Int) = x := by rw [hx, sb_getD s 0 hpos]
  obtain ⟨t, ht⟩ : ∃ t, t = (sb s).drop 1 := ⟨_, rfl⟩
  have htl : t.length = s.size - 1 := by rw [ht, List.length_drop, sb_length]
  have htb : bytesIn t := by rw [ht]; exact (sb_in s).drop 1
  have hcons : sb s = x :: t := by
    rw [ht, hx]
    rcases hl : sb s with _ | ⟨a, l⟩
    · have := sb_length s; rw [hl] at this; simp at this; omega
    · rfl
  have htg : ∀ k (h : k + 1 < s.size), ((s[k + 1].toNat : Nat) : Int) = t.getD k 0 := by
    intro k h
    rw [← sb_getD s (k + 1) h, hcons]
    rfl
  rw [hcons]
  have HTB := Lib.hid htb
  have HTG := Lib.hid htg
  have HTL := Lib.hid htl
  have hpos' : (0 : Int) < s.size := by omega
  have hne : ((s.size : Int) == 0) = false := by rw [beq_eq_false_iff_ne]; omega
  obtain ⟨y, hy⟩ : ∃ y, y = x % 128 := ⟨_, rfl⟩
  have y0 : 0 ≤ y := by omega
  have y1 : y ≤ 127 := by omega
  have hxd : (x :: t).getD 0 0 = x := rfl
  have hyy : x % 128 = y := hy.symm
  obtain ⟨R, hR⟩ : ∃ R, R = getLen (x :: t) := ⟨_, rfl⟩
  rw [← hR]
  unfold getLen at hR
  rw [if_neg (by simp), hxd, ← hy] at hR
  have hx0 := hx8.1
  clear hx ht htl htb hcons htg hy hxd hx8 h0
  by_cases h126 : y = 126
  · rw [if_pos h126] at hR
    have HR := Lib.hid hR
    subst h126
    clear hR
    go_enter Tryz.func93, Tryz.ntmps93
    go_wp2_with fail
    go_loop [9, 7, 8, 10] (fun i n z c => ∃ k : Nat, ∃ b : Bool, k ≤ 2 ∧ i = .int .i64 k ∧ n = .int .u64 (numB 0 t k) ∧ z = .bool b ∧ k ≤ t.length ∧ (2 ≤ k → 126 ≤ numB 0 t 2)) (fun i _ _ _ => 2 - (intOf i).toNat)
    case atStart => exact ⟨0, true, by omega, rfl, rfl, rfl, Nat.zero_le _, by omega⟩
    case round =>
      obtain ⟨k, b, hk, rfl, rfl, rfl, hkt, hfar⟩ := hrel
      by_cases hlt : k < 2
      · obtain ⟨u0, u1⟩ := numB_small HTB.out k (by omega)
        by_cases hmore : t.length = k
        · have hg := get2_more HTB.out x k hlt hmore
          have HG := Lib.hid hg
          have hm : s.size = k + 1 := by have := HTL.out; omega
          have hm' : (s.size : Int) ≤ k + 1 := by omega
          clear hg hmore hm hfar
          go_wp2
          go_ret3
          exact ⟨by rw [HR.out, HG.out]; rfl, rfl⟩
        · have hks : k + 1 < s.size := by have := HTL.out; omega
          have hxk := HTG.out k hks
          obtain ⟨c, hc⟩ : ∃ c, c = t.getD k 0 := ⟨_, rfl⟩
          have hc8 : 0 ≤ c ∧ c ≤ 255 := by rw [hc]; exact getD_in HTB.out 0 (by omega) k
          obtain ⟨c0, c1⟩ := hc8
          rw [← hc] at hxk
          have hnext : numB 0 t (k + 1) = numB 0 t k * 256 + c := by rw [hc]; rfl
          obtain ⟨u, hu⟩ : ∃ u, u = numB 0 t k := ⟨_, rfl⟩
          rw [← hu] at hnext u0 u1 ⊢
          have HNX := Lib.hid hnext
          have hks' : (k : Int) + 1 < s.size := by omega
          have htk : k + 1 ≤ t.length := by have := HTL.out; omega
          clear hc hu hnext hmore hfar
          rcases Nat.eq_zero_or_pos k with hk0 | hk0
          · subst hk0
            cases b with
            | false =>
              go_wp2_with fail
              go_round
              case rel => exact ⟨1, _, by omega, by go_num, by rw [HNX.out]; go_num, rfl, htk, by omega⟩
              case measure => simp [intOf]
            | true =>
              by_cases hcz : c = 0
              · subst hcz
                go_wp2_with fail
                go_round
                case rel => exact ⟨1, _, by omega, by go_num, by rw [HNX.out]; go_num, rfl, htk, by omega⟩
                case measure => simp [intOf]
              · have hcz1 : (c == 0) = false := by rw [beq_eq_false_iff_ne]; exact hcz
                clear hcz
                go_wp2_with fail
                go_round
                case rel => exact ⟨1, _, by omega, by go_num, by rw [HNX.out]; go_num, rfl, htk, by omega⟩
                case measure => simp [intOf]
          · obtain rfl : k = 1 := by omega
            by_cases hlow : 256 * u + c < 126
            · have hg := get2_low HTB.out x htk (by rw [HNX.out]; omega)
              have HG := Lib.hid hg
              clear hg
              cases b with
              | false =>
                go_wp2
                go_ret3
                exact ⟨by rw [HR.out, HG.out]; rfl, rfl⟩
              | true =>
                by_cases hcz : c = 0
                · subst hcz
                  go_wp2
                  go_ret3
                  exact ⟨by rw [HR.out, HG.out]; rfl, rfl⟩
                · have hcz1 : (c == 0) = false := by rw [beq_eq_false_iff_ne]; exact hcz
                  clear hcz
                  go_wp2
                  go_ret3
                  exact ⟨by rw [HR.out, HG.out]; rfl, rfl⟩
            · cases b with
              | false =>
                go_wp2_with fail
                go_round
                case rel => exact ⟨2, _, by omega, by go_num, by rw [HNX.out]; go_num, rfl, htk, fun _ => by rw [HNX.out]; omega⟩
                case measure => simp [intOf]
              | true =>
                by_cases hcz : c = 0
                · subst hcz
                  go_wp2_with fail
                  go_round
                  case rel => exact ⟨2, _, by omega, by go_num, by rw [HNX.out]; go_num, rfl, htk, fun _ => by rw [HNX.out]; omega⟩
                  case measure => simp [intOf]
                · have hcz1 : (c == 0) = false := by rw [beq_eq_false_iff_ne]; exact hcz
                  clear hcz
                  go_wp2_with fail
                  go_round
                  case rel => exact ⟨2, _, by omega, by go_num, by rw [HNX.out]; go_num, rfl, htk, fun _ => by rw [HNX.out]; omega⟩
                  case measure => simp [intOf]
      · obtain rfl : k = 2 := by omega
        have hg := get2_ok HTB.out x hkt (hfar (by omega))
        have HG := Lib.hid hg
        clear hg hfar
        go_wp2
        go_ret3
        exact ⟨by rw [HR.out, HG.out]; rfl, rfl⟩
  by_cases h127 : y = 127
  · rw [if_neg h126, if_pos h127] at hR
    have HR := Lib.hid hR
    subst h127
    clear hR h126
    go_enter Tryz.func93, Tryz.ntmps93
    go_wp2_with fail
    go_loop [9, 7, 8, 10] (fun i n z c => ∃ k : Nat, k ≤ 8 ∧ i = .int .i64 k ∧ n = .int .u64 (numB 0 t k) ∧ z = .bool (numB 0 t k == 0) ∧ k ≤ t.length ∧ far8 t k) (fun i _ _ _ => 8 - (intOf i).toNat)
    case atStart => exact ⟨0, by omega, rfl, rfl, rfl, Nat.zero_le _, ⟨by omega, by omega⟩⟩
    case round =>
      obtain ⟨k, hk, rfl, rfl, rfl, hkt, hfar⟩ := hrel
      have HFAR := Lib.hid hfar
      clear hfar
      by_cases hlt : k < 8
      · obtain ⟨u0, u1⟩ := numB_small HTB.out k (by omega)
        by_cases hmore : t.length = k
        · have hg := get8_more HTB.out x k hlt hmore HFAR.out
          have HG := Lib.hid hg
          have hm : s.size = k + 1 := by have := HTL.out; omega
          have hm' : (s.size : Int) ≤ k + 1 := by omega
          clear hg hmore hm
          go_wp2
          go_ret3
          exact ⟨by rw [HR.out, HG.out]; rfl, rfl⟩
        · have hks : k + 1 < s.size := by have := HTL.out; omega
          have hxk := HTG.out k hks
          obtain ⟨c, hc⟩ : ∃ c, c = t.getD k 0 := ⟨_, rfl⟩
          have HC := Lib.hid hc
          have hc8 : 0 ≤ c ∧ c ≤ 255 := by rw [hc]; exact getD_in HTB.out 0 (by omega) k
          obtain ⟨c0, c1⟩ := hc8
          rw [← hc] at hxk
          have hnext : numB 0 t (k + 1) = numB 0 t k * 256 + c := by rw [hc]; rfl
          obtain ⟨u, hu⟩ : ∃ u, u = numB 0 t k := ⟨_, rfl⟩
          rw [← hu] at hnext u0 u1 ⊢
          have HNX := Lib.hid hnext
          have hks' : (k : Int) + 1 < s.size := by omega
          have htk : k + 1 ≤ t.length := by have := HTL.out; omega
          have hk8 : k + 1 ≤ 8 := by omega
          obtain ⟨z, hz⟩ : ∃ z, z = (u == 0) := ⟨_, rfl⟩
          obtain ⟨z2, hz2⟩ : ∃ z2, z2 = (numB 0 t (k + 1) == 0) := ⟨_, rfl⟩
          have hzz : z2 = (z && (c == 0)) := by
            rw [hz2, hz, hnext, Bool.eq_iff_iff]
            simp
            omega
          have HZ2 := Lib.hid hz2
          have hzu : z2 = false → numB 0 t (k + 1) ≠ 0 := by rw [hz2]; simp
          have hzt : z2 = true → numB 0 t (k + 1) = 0 := by rw [hz2]; simp
          have HZU := Lib.hid hzu
          have HZT := Lib.hid hzt
          rw [← hz]
          clear hc hu hnext hmore hz hz2 hzu hzt
          by_cases hhigh : k = 0 ∧ 128 ≤ c
          · obtain ⟨rfl, hc128⟩ := hhigh
            have hg := get8_high HTB.out x (by omega) (by rw [← HC.out]; exact hc128)
            have HG := Lib.hid hg
            clear hg hzz
            go_wp2
            go_ret3
            exact ⟨by rw [HR.out, HG.out]; rfl, rfl⟩
          have hno : k = 0 → c < 128 := fun h => by omega
          have HNO := Lib.hid hno
          clear hno hhigh
          have hstep : ∀ (zz : Bool), zz = z2 → (k = 5 → zz = false) → far8 t (k + 1) := by
            intro zz h1 h2
            refine far8_next HFAR.out (fun h => ?_) (fun h => ?_)
            · have := HNO.out h
              rw [HC.out, h] at this
              exact this
            · have := HZU.out (by rw [← h1]; exact h2 h)
              rw [h] at this
              exact this
          have HST := Lib.hid hstep
          clear hstep
          by_cases hk0 : k = 0
          · subst hk0
            have hc127 := HNO.out rfl
            cases z with
            | false =>
              simp only [Bool.false_and] at hzz
              have HZZ := Lib.hid hzz
              clear hzz
              go_wp2_with fail
              go_round
              case rel => exact ⟨1, by omega, by go_num, by rw [HNX.out]; go_num, by rw [← HZ2.out, HZZ.out], htk, HST.out false HZZ.out.symm (by omega)⟩
              case measure => simp [intOf]
            | true =>
              by_cases hcz : c = 0
              · subst hcz
                have HZZ : Hid (z2 = true) := by rw [hzz]; rfl
                clear hzz
                go_wp2_with fail
                go_round
                case rel => exact ⟨1, by omega, by go_num, by rw [HNX.out]; go_num, by rw [← HZ2.out, HZZ.out], htk, HST.out true HZZ.out.symm (by omega)⟩
                case measure => simp [intOf]
              · have hcz1 : (c == 0) = false := by rw [beq_eq_false_iff_ne]; exact hcz
                have HZZ : Hid (z2 = false) := by rw [hzz, hcz1]; rfl
                clear hcz hzz
                go_wp2_with fail
                go_round
                case rel => exact ⟨1, by omega, by go_num, by rw [HNX.out]; go_num, by rw [← HZ2.out, HZZ.out], htk, HST.out false HZZ.out.symm (by omega)⟩
                case measure => simp [intOf]
          have hk01 : ((k : Int) == 0) = false := by rw [beq_eq_false_iff_ne]; omega
          clear hk0
          by_cases hk5 : k = 5
          · subst hk5
            clear hk01
            cases z with
            | false =>
              simp only [Bool.false_and] at hzz
              have HZZ := Lib.hid hzz
              clear hzz
              go_wp2_with fail
              go_round
              case rel => exact ⟨6, by omega, by go_num, by rw [HNX.out]; go_num, by rw [← HZ2.out, HZZ.out], htk, HST.out false HZZ.out.symm (fun _ => rfl)⟩
              case measure => simp [intOf]
            | true =>
              by_cases hcz : c = 0
              · subst hcz
                have HZZ : Hid (z2 = true) := by rw [hzz]; rfl
                have hg := get8_low HTB.out x htk (HZT.out HZZ.out)
                have HG := Lib.hid hg
                clear hzz hg
                go_wp2
                go_ret3
                exact ⟨by rw [HR.out, HG.out]; rfl, rfl⟩
              · have hcz1 : (c == 0) = false := by rw [beq_eq_false_iff_ne]; exact hcz
                have HZZ : Hid (z2 = false) := by rw [hzz, hcz1]; rfl
                clear hcz hzz
                go_wp2_with fail
                go_round
                case rel => exact ⟨6, by omega, by go_num, by rw [HNX.out]; go_num, by rw [← HZ2.out, HZZ.out], htk, HST.out false HZZ.out.symm (fun _ => rfl)⟩
                case measure => simp [intOf]
          have hk51 : ((k : Int) == 5) = false := by rw [beq_eq_false_iff_ne]; omega
          have HK5 := Lib.hid hk5
          clear hk5
          cases z with
          | false =>
            simp only [Bool.false_and] at hzz
            have HZZ := Lib.hid hzz
            clear hzz
            go_wp2_with fail
            go_round
            case rel => exact ⟨k + 1, hk8, by go_num, by rw [HNX.out]; go_num, by rw [← HZ2.out, HZZ.out], htk, HST.out false HZZ.out.symm (fun _ => rfl)⟩
            case measure => simp [intOf]; omega
          | true =>
            by_cases hcz : c = 0
            · subst hcz
              have HZZ : Hid (z2 = true) := by rw [hzz]; rfl
              clear hzz
              go_wp2_with fail
              go_round
              case rel => exact ⟨k + 1, hk8, by go_num, by rw [HNX.out]; go_num, by rw [← HZ2.out, HZZ.out], htk, HST.out true HZZ.out.symm (fun h => absurd h HK5.out)⟩
              case measure => simp [intOf]; omega
            · have hcz1 : (c == 0) = false := by rw [beq_eq_false_iff_ne]; exact hcz
              have HZZ : Hid (z2 = false) := by rw [hzz, hcz1]; rfl
              clear hcz hzz
              go_wp2_with fail
              go_round
              case rel => exact ⟨k + 1, hk8, by go_num, by rw [HNX.out]; go_num, by rw [← HZ2.out, HZZ.out], htk, HST.out false HZZ.out.symm (fun _ => rfl)⟩
              case measure => simp [intOf]; omega
      · obtain rfl : k = 8 := by omega
        have hg := get8_ok HTB.out x hkt HFAR.out
        have HG := Lib.hid hg
        clear hg
        go_wp2
        go_ret3
        exact ⟨by rw [HR.out, HG.out]; rfl, rfl⟩
  · rw [if_neg h126, if_neg h127] at hR
    have HR := Lib.hid hR
    have y2 : y < 126 := by omega
    clear hR h126 h127
    go_enter Tryz.func93, Tryz.ntmps93
    go_wp2
    go_ret3
    exact ⟨by rw [HR.out]; rfl, rfl⟩
end Go.Proofs.YtlnabpoohnphiaaGreat
