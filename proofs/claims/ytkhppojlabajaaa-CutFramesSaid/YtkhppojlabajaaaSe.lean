/- ref09: Text. -/
import Derived.Test.YtkhppojlabajaaaSd
import Derived.Deep.RegionHeld
namespace Go.Proofs.Ytkhppojlabajaaa
open Go.RowKit
set_option linter.unusedSimpArgs false
set_option linter.unusedVariables false

theorem form_op {f : Fr} (h : form9 f = true) : (8 ≤ f.op ∧ f.op ≤ 10) ∨ (0 ≤ f.op ∧ f.op ≤ 2) := by
  unfold form9 at h
  simp only [Bool.and_eq_true, Bool.not_eq_true'] at h
  have := h.1.1
  unfold known9 at this
  exact of_decide_eq_true this
theorem Touch.rule {w w' : World} (h : Touch NoS w w') : ∀ b o, b < w.heap.size → w'.cell? ⟨b, o, none⟩ = w.cell? ⟨b, o, none⟩ := fun b o hb => World.cell?_of_block (h.block b hb (fun h => h))
theorem conv_cells2 (W : World) (g : Nat) (a b : Int) (c0 : W.cell? ⟨g, 0, none⟩ = some (.int .u8 a)) (c1 : W.cell? ⟨g, 1, none⟩ = some (.int .u8 b)) :
    (convert 36 9 (.slice (some ⟨g, 0, none⟩) 2 2)).run Try.prog W = .ok (.string (Go.strOfNums [a, b])) W :=
  Go.run_convert_bytes_arg (P := Try.prog) _ 36 5 Try.underlying36 Try.underlying5 g 0 2 2 [a, b] rfl (fun i hi => by
    rcases i with _ | _ | i
    · exact c0
    · exact c1
    · omega) 9 Try.underlying9
theorem conv_cells4 (W : World) (g : Nat) (a b c d : Int) (c0 : W.cell? ⟨g, 3, none⟩ = some (.int .u8 a)) (c1 : W.cell? ⟨g, 4, none⟩ = some (.int .u8 b)) (c2 : W.cell? ⟨g, 5, none⟩ = some (.int .u8 c)) (c3 : W.cell? ⟨g, 6, none⟩ = some (.int .u8 d)) :
    (convert 36 9 (.slice (some ⟨g, 3, none⟩) 4 4)).run Try.prog W = .ok (.string (Go.strOfNums [a, b, c, d])) W :=
  Go.run_convert_bytes_arg (P := Try.prog) _ 36 5 Try.underlying36 Try.underlying5 g 3 4 4 [a, b, c, d] rfl (fun i hi => by
    rcases i with _ | _ | _ | _ | i
    · exact c0
    · exact c1
    · exact c2
    · exact c3
    · omega) 9 Try.underlying9

set_option maxHeartbeats 3200000 in
set_option maxRecDepth 100000 in
theorem r9_text_plain (f : Fr) (hf : f.good) (hfm : form9 f = true) (hz : f.data.size ≤ 1000000) (hm : f.masked = false) (w : World) : Calls Try.prog 44 #[.agg f.cs] w fun e w' => e = .returned (.string (Go.strOfNums (fput f))) ∧ Touch NoS w w' := by
  have hop := form_op hfm
  have hk := conv_one
  obtain ⟨R, hR⟩ : ∃ R, R = Go.strOfNums (fput f) := ⟨_, rfl⟩
  rw [← hR]
  have hfp : fput f = [first9 f] ++ (lenB f.data.size ++ sb f.data) := by unfold fput long9; rw [hm]; simp
  rw [hfp, nums_append, nums_append, nums_sb] at hR
  obtain ⟨fin, op, masked, k0, k1, k2, k3, d⟩ := f
  simp only [Fr.cs, first9] at *
  subst hm
  obtain ⟨n, hn⟩ : ∃ n, n = d.size := ⟨_, rfl⟩
  have HPUT := Lib.hid (fun W => r8_put d.size (by omega) W)
  obtain ⟨u, hu⟩ : ∃ u, u = Go.strOfNums (lenB d.size) := ⟨_, rfl⟩
  rw [← hu] at HPUT hR
  have huz : u.size ≤ 9 := by rw [hu, numsB_size]; exact lenB_le _
  have op0 : 0 ≤ op := by omega
  have op1 : op ≤ 10 := by omega
  clear hf hfm hfp hn hu hop
  cases fin
  · simp only [Bool.false_eq_true, if_false, Int.add_zero] at hR
    have h1 : (Go.strOfNums [op]).size = 1 := by rw [numsB_size]; rfl
    have HR := Lib.hid hR
    clear hR
    go_enter Try.func44, Try.ntmps44
    go_wp2_with fail
    refine (HPUT.out _).mono ?_
    rintro e w1 ⟨rfl, ht⟩
    have hb := ((Blk.new w 44 #[.bool false, .int .i64 op, .bool false, .int .u8 k0, .int .u8 k1, .int .u8 k2, .int .u8 k3, .string d])).touch ht (fun h => h)
    have HT := Lib.hid (((Touch.refl NoS w).alloc (.cells #[.bool false, .int .i64 op, .bool false, .int .u8 k0, .int .u8 k1, .int .u8 k2, .int .u8 k3, .string d] 44)).trans ht)
    have b2 := hb.cell 2
    have b7 := hb.cell 7
    have hlt := hb.lt
    simp at b2 b7
    clear ht hb
    go_wp2
    go_ret
    exact ⟨by rw [HR.out]; rfl, HT.out.alloc _⟩
  · simp only [if_true] at hR
    have h1 : (Go.strOfNums [op + 128]).size = 1 := by rw [numsB_size]; rfl
    have HR := Lib.hid hR
    clear hR
    go_enter Try.func44, Try.ntmps44
    go_wp2_with fail
    refine (HPUT.out _).mono ?_
    rintro e w1 ⟨rfl, ht⟩
    have hb := ((Blk.new w 44 #[.bool true, .int .i64 op, .bool false, .int .u8 k0, .int .u8 k1, .int .u8 k2, .int .u8 k3, .string d])).touch ht (fun h => h)
    have HT := Lib.hid (((Touch.refl NoS w).alloc (.cells #[.bool true, .int .i64 op, .bool false, .int .u8 k0, .int .u8 k1, .int .u8 k2, .int .u8 k3, .string d] 44)).trans ht)
    have b2 := hb.cell 2
    have b7 := hb.cell 7
    have hlt := hb.lt
    simp at b2 b7
    clear ht hb
    go_wp2
    go_ret
    exact ⟨by rw [HR.out]; rfl, HT.out.alloc _⟩

set_option maxHeartbeats 6400000 in
set_option maxRecDepth 100000 in
theorem r9_text_mask (f : Fr) (hf : f.good) (hfm : form9 f = true) (hz : f.data.size ≤ 1000000) (hm : f.masked = true) (w : World) : Calls Try.prog 44 #[.agg f.cs] w fun e w' => e = .returned (.string (Go.strOfNums (fput f))) ∧ Touch NoS w w' := by
  have hop := form_op hfm
  have hK := hf.2.1
  obtain ⟨R, hR⟩ : ∃ R, R = Go.strOfNums (fput f) := ⟨_, rfl⟩
  rw [← hR]
  obtain ⟨x0, t0, hB, hx0, hx1⟩ := lenB_head f.data.size
  have hfp : fput f = [first9 f, x0 + 128] ++ (t0 ++ (f.key ++ turn f.key 0 (sb f.data))) := by unfold fput long9; rw [hm, hB]; simp
  rw [hfp, nums_append, nums_append, nums_append] at hR
  obtain ⟨fin, op, masked, k0, k1, k2, k3, d⟩ := f
  simp only [Fr.cs, first9, Fr.key] at *
  subst hm
  have HPUT := Lib.hid (fun W => r8_put d.size (by omega) W)
  rw [hB] at HPUT
  obtain ⟨u, hu⟩ : ∃ u, u = Go.strOfNums (x0 :: t0) := ⟨_, rfl⟩
  rw [← hu] at HPUT
  have hul : (x0 :: t0).length ≤ 9 := by rw [← hB]; exact lenB_le _
  have huz : u.size ≤ 9 := by rw [hu, numsB_size]; exact hul
  have hu0 : 0 < u.size := by rw [hu, numsB_size]; simp
  have hbin : bytesIn (x0 :: t0) := by rw [← hB]; exact lenB_in _
  have hsu : sb u = x0 :: t0 := by rw [hu]; exact sb_nums _ hbin
  have hux : ((u[0].toNat : Nat) : Int) = x0 := by rw [← sb_getD u 0 hu0, hsu]; rfl
  have hue : u.extract 1 u.size = Go.strOfNums t0 := by
    apply sb_inj
    rw [sb_extract, hsu, sb_nums t0 (fun x hx => hbin x (by simp [hx])), List.take_of_length_le (by rw [hu, numsB_size]; exact Nat.le_refl _)]
    rfl
  have HAP := Lib.hid (fun W => r8_apply k0 k1 k2 k3 hK d (by omega) W)
  obtain ⟨D, hD⟩ : ∃ D, D = Go.strOfNums (turn [k0, k1, k2, k3] 0 (sb d)) := ⟨_, rfl⟩
  have hDz : D.size ≤ 1000000 := by rw [hD, numsB_size, turn_length, sb_length]; exact hz
  rw [← hD] at HAP hR
  obtain ⟨Q, hQ⟩ : ∃ Q, Q = Go.strOfNums [k0, k1, k2, k3] := ⟨_, rfl⟩
  have hQz : Q.size = 4 := by rw [hQ, numsB_size]; rfl
  obtain ⟨t, htt⟩ : ∃ t, t = Go.strOfNums t0 := ⟨_, rfl⟩
  have htz : t.size ≤ 9 := by rw [htt, numsB_size]; simp at hul; omega
  rw [← hQ, ← htt] at hR
  rw [← htt] at hue
  have op0 : 0 ≤ op := by omega
  have op1 : op ≤ 10 := by omega
  have hcv4 := fun W g c0 c1 c2 c3 => conv_cells4 W g k0 k1 k2 k3 c0 c1 c2 c3
  rw [← hQ] at hcv4
  obtain ⟨X, hX⟩ : ∃ X, X = op + (if fin = true then 128 else 0) := ⟨_, rfl⟩
  rw [← hX] at hR
  have hcv2 := fun W g c0 c1 => conv_cells2 W g X (x0 + 128) c0 c1
  obtain ⟨P, hP⟩ : ∃ P, P = Go.strOfNums [X, x0 + 128] := ⟨_, rfl⟩
  have hPz : P.size = 2 := by rw [hP, numsB_size]; rfl
  rw [← hP] at hR hcv2
  have HR := Lib.hid hR
  have HUE := Lib.hid hue
  have hXb : 0 ≤ X ∧ X ≤ 138 := by rw [hX]; split <;> omega
  have hw1 : IntKind.u8.wrap X = X := IntWalk.u8_in _ (by omega)
  have hw2 : IntKind.u8.wrap (x0 + 128) = x0 + 128 := IntWalk.u8_in _ (by omega)
  have hu1' : (1 : Int) ≤ u.size := by omega
  clear hf hfm hfp hK hB hu hsu hbin hul hD hQ htt hop hR hP
  go_enter Try.func44, Try.ntmps44
  cases fin
  · simp only [Bool.false_eq_true, if_false, Int.add_zero] at hX
    subst hX
    go_wp2_with fail
    refine (HPUT.out _).mono ?_
    rintro e w1 ⟨rfl, ht⟩
    have hb := ((Blk.new w 44 #[.bool false, .int .i64 X, .bool true, .int .u8 k0, .int .u8 k1, .int .u8 k2, .int .u8 k3, .string d])).touch ht (fun h => h)
    have HT := Lib.hid (((Touch.refl NoS w).alloc (.cells #[.bool false, .int .i64 X, .bool true, .int .u8 k0, .int .u8 k1, .int .u8 k2, .int .u8 k3, .string d] 44)).trans ht)
    have b2 := hb.cell 2
    have b3 := hb.cell 3
    have b4 := hb.cell 4
    have b5 := hb.cell 5
    have b6 := hb.cell 6
    have b7 := hb.cell 7
    have hlt := hb.lt
    simp at b2 b3 b4 b5 b6 b7
    have hlt2 : w.heap.size < w1.heap.size + 1 := by omega
    clear ht hb
    go_wp2_with fail
    have htd : Touch NoS w1 w1.drew := (Touch.refl _ _).drew
    have hcd : ∀ b o, b < w1.heap.size → w1.drew.cell? ⟨b, o, none⟩ = w1.cell? ⟨b, o, none⟩ := fun b o _ => rfl
    have hcl : ∀ W, Touch NoS w1 W → (Touch NoS w1 W ∧ ∀ b o, b < w1.heap.size → W.cell? ⟨b, o, none⟩ = w1.cell? ⟨b, o, none⟩) := fun W h => ⟨h, fun b o hb => World.cell?_of_block (h.block b hb (fun h => h))⟩
    have HCL := Lib.hid hcl
    clear hcl
    go_region_held (fun w' => Touch NoS w1 w' ∧ ∀ b o, b < w1.heap.size → w'.cell? ⟨b, o, none⟩ = w1.cell? ⟨b, o, none⟩)
      ((first | exact ⟨htd, hcd⟩ | (refine HCL.out _ ?_; repeat (with_reducible first | assumption | exact Touch.refl _ _ | refine Touch.drew ?_ | refine Touch.alloc ?_ _))))
      ((go_at_call 28; refine (HAP.out _).mono ?_; rintro e w5 ⟨rfl, ht⟩; have ht7 : Touch NoS w1 w5 := (by refine Touch.trans ?_ ht; repeat (with_reducible first | assumption | exact Touch.refl _ _ | refine Touch.drew ?_ | refine Touch.alloc ?_ _)); have hr5 := ht.rule))
    all_goals
      go_wp2
      go_ret
      exact ⟨by rw [HR.out, ← ByteArray.append_assoc, ← ByteArray.append_assoc]; rfl, HT.out.trans (by repeat (with_reducible first | assumption | exact Touch.refl _ _ | refine Touch.drew ?_ | refine Touch.alloc ?_ _))⟩
  · simp only [if_true] at hX
    subst hX
    go_wp2_with fail
    refine (HPUT.out _).mono ?_
    rintro e w1 ⟨rfl, ht⟩
    have hb := ((Blk.new w 44 #[.bool true, .int .i64 op, .bool true, .int .u8 k0, .int .u8 k1, .int .u8 k2, .int .u8 k3, .string d])).touch ht (fun h => h)
    have HT := Lib.hid (((Touch.refl NoS w).alloc (.cells #[.bool true, .int .i64 op, .bool true, .int .u8 k0, .int .u8 k1, .int .u8 k2, .int .u8 k3, .string d] 44)).trans ht)
    have b2 := hb.cell 2
    have b3 := hb.cell 3
    have b4 := hb.cell 4
    have b5 := hb.cell 5
    have b6 := hb.cell 6
    have b7 := hb.cell 7
    have hlt := hb.lt
    simp at b2 b3 b4 b5 b6 b7
    have hlt2 : w.heap.size < w1.heap.size + 1 := by omega
    clear ht hb
    go_wp2_with fail
    have htd : Touch NoS w1 w1.drew := (Touch.refl _ _).drew
    have hcd : ∀ b o, b < w1.heap.size → w1.drew.cell? ⟨b, o, none⟩ = w1.cell? ⟨b, o, none⟩ := fun b o _ => rfl
    have hcl : ∀ W, Touch NoS w1 W → (Touch NoS w1 W ∧ ∀ b o, b < w1.heap.size → W.cell? ⟨b, o, none⟩ = w1.cell? ⟨b, o, none⟩) := fun W h => ⟨h, fun b o hb => World.cell?_of_block (h.block b hb (fun h => h))⟩
    have HCL := Lib.hid hcl
    clear hcl
    go_region_held (fun w' => Touch NoS w1 w' ∧ ∀ b o, b < w1.heap.size → w'.cell? ⟨b, o, none⟩ = w1.cell? ⟨b, o, none⟩)
      ((first | exact ⟨htd, hcd⟩ | (refine HCL.out _ ?_; repeat (with_reducible first | assumption | exact Touch.refl _ _ | refine Touch.drew ?_ | refine Touch.alloc ?_ _))))
      ((go_at_call 28; refine (HAP.out _).mono ?_; rintro e w5 ⟨rfl, ht⟩; have ht7 : Touch NoS w1 w5 := (by refine Touch.trans ?_ ht; repeat (with_reducible first | assumption | exact Touch.refl _ _ | refine Touch.drew ?_ | refine Touch.alloc ?_ _)); have hr5 := ht.rule))
    all_goals
      go_wp2
      go_ret
      exact ⟨by rw [HR.out, ← ByteArray.append_assoc, ← ByteArray.append_assoc]; rfl, HT.out.trans (by repeat (with_reducible first | assumption | exact Touch.refl _ _ | refine Touch.drew ?_ | refine Touch.alloc ?_ _))⟩
theorem r9_text (f : Fr) (hf : f.good) (hfm : form9 f = true) (hz : f.data.size ≤ 1000000) (w : World) : Calls Try.prog 44 #[.agg f.cs] w fun e w' => e = .returned (.string (Go.strOfNums (fput f))) ∧ Touch NoS w w' := by
  cases hm : f.masked
  · exact r9_text_plain f hf hfm hz hm w
  · exact r9_text_mask f hf hfm hz hm w
end Go.Proofs.Ytkhppojlabajaaa
