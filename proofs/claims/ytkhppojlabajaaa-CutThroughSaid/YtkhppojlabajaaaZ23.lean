/- ref09: Text. | frame: plain laws on bytes of frames and their beginnings. -/
import Derived.Test.YtkhppojlabajaaaZ22
import Derived.Test.YtkhppojlabajaaaZ13
import Derived.Test.YtkhppojlabajaaaZ18
import Derived.Test.YtkhppojlabajaaaZ19
import Derived.Test.YtkhppojlabajaaaZ20
import Derived.Deep.RegionHeld
/- ref09: Text. -/
namespace Go.Proofs.Ytkhppojlabajaaa
open Go.RowKit
set_option linter.unusedSimpArgs false
set_option linter.unusedVariables false

theorem form_op {f : Fr} (h : form9 f = true) : (8 ≤ f.op ∧ f.op ≤ 10) ∨ (0 ≤ f.op ∧ f.op ≤ 2) := by
  unfold form9 at h
  simp only [Bool.and_eq_true, Bool.not_eq_true'] at h
  have := h.1.1
  unfold known9 at this
  exact of_decide_eq_true this
theorem Touch.rule {w w' : World} (h : Touch NoS w w') : ∀ b o, b < w.heap.size → w'.cell? ⟨b, o, none⟩ = w.cell? ⟨b, o, none⟩ := fun b o hb => World.cell?_of_block (h.block b hb (fun h => h))
theorem conv_cells2 (W : World) (g : Nat) (a b : Int) (c0 : W.cell? ⟨g, 0, none⟩ = some (.int .u8 a)) (c1 : W.cell? ⟨g, 1, none⟩ = some (.int .u8 b)) :
    (convert 36 9 (.slice (some ⟨g, 0, none⟩) 2 2)).run Try.prog W = .ok (.string (Go.strOfNums [a, b])) W :=
  Go.run_convert_bytes_arg (P := Try.prog) _ 36 5 Try.underlying36 Try.underlying5 g 0 2 2 [a, b] rfl (fun i hi => by
    rcases i with _ | _ | i
    · exact c0
    · exact c1
    · omega) 9 Try.underlying9
theorem conv_cells4 (W : World) (g : Nat) (a b c d : Int) (c0 : W.cell? ⟨g, 3, none⟩ = some (.int .u8 a)) (c1 : W.cell? ⟨g, 4, none⟩ = some (.int .u8 b)) (c2 : W.cell? ⟨g, 5, none⟩ = some (.int .u8 c)) (c3 : W.cell? ⟨g, 6, none⟩ = some (.int .u8 d)) :
    (convert 36 9 (.slice (some ⟨g, 3, none⟩) 4 4)).run Try.prog W = .ok (.string (Go.strOfNums [a, b, c, d])) W :=
  Go.run_convert_bytes_arg (P := Try.prog) _ 36 5 Try.underlying36 Try.underlying5 g 3 4 4 [a, b, c, d] rfl (fun i hi => by
    rcases i with _ | _ | _ | _ | i
    · exact c0
    · exact c1
    · exact c2
    · exact c3
    · omega) 9 Try.underlying9

set_option maxHeartbeats 3200000 in
set_option maxRecDepth 100000 in
theorem r9_text_plain (f : Fr) (hf : f.good) (hfm : form9 f = true) (hz : f.data.size ≤ 1000000) (hm : f.masked = false) (w : World) : Calls Try.prog 44 #[.agg f.cs] w fun e w' => e = .returned (.string (Go.strOfNums (fput f))) ∧ Touch NoS w w' := by
  have hop := form_op hfm
  have hk := conv_one
  obtain ⟨R, hR⟩ : ∃ R, R = Go.strOfNums (fput f) := ⟨_, rfl⟩
  rw [← hR]
  have hfp : fput f = [first9 f] ++ (lenB f.data.size ++ sb f.data) := by unfold fput long9; rw [hm]; simp
  rw [hfp, nums_append, nums_append, nums_sb] at hR
  obtain ⟨fin, op, masked, k0, k1, k2, k3, d⟩ := f
  simp only [Fr.cs, first9] at *
  subst hm
  obtain ⟨n, hn⟩ : ∃ n, n = d.size := ⟨_, rfl⟩
  have HPUT := Lib.hid (fun W => r8_put d.size (by omega) W)
  obtain ⟨u, hu⟩ : ∃ u, u = Go.strOfNums (lenB d.size) := ⟨_, rfl⟩
  rw [← hu] at HPUT hR
  have huz : u.size ≤ 9 := by rw [hu, numsB_size]; exact lenB_le _
  have op0 : 0 ≤ op := by omega
  have op1 : op ≤ 10 := by omega
  clear hf hfm hfp hn hu hop
  cases fin
  · simp only [Bool.false_eq_true, if_false, Int.add_zero] at hR
    have h1 : (Go.strOfNums [op]).size = 1 := by rw [numsB_size]; rfl
    have HR := Lib.hid hR
    clear hR
    go_enter Try.func44, Try.ntmps44
    go_wp2_with fail
    refine (HPUT.out _).mono ?_
    rintro e w1 ⟨rfl, ht⟩
    have hb := ((Blk.new w 44 #[.bool false, .int .i64 op, .bool false, .int .u8 k0, .int .u8 k1, .int .u8 k2, .int .u8 k3, .string d])).touch ht (fun h => h)
    have HT := Lib.hid (((Touch.refl NoS w).alloc (.cells #[.bool false, .int .i64 op, .bool false, .int .u8 k0, .int .u8 k1, .int .u8 k2, .int .u8 k3, .string d] 44)).trans ht)
    have b2 := hb.cell 2
    have b7 := hb.cell 7
    have hlt := hb.lt
    simp at b2 b7
    clear ht hb
    go_wp2
    go_ret
    exact ⟨by rw [HR.out]; rfl, HT.out.alloc _⟩
  · simp only [if_true] at hR
    have h1 : (Go.strOfNums [op + 128]).size = 1 := by rw [numsB_size]; rfl
    have HR := Lib.hid hR
    clear hR
    go_enter Try.func44, Try.ntmps44
    go_wp2_with fail
    refine (HPUT.out _).mono ?_
    rintro e w1 ⟨rfl, ht⟩
    have hb := ((Blk.new w 44 #[.bool true, .int .i64 op, .bool false, .int .u8 k0, .int .u8 k1, .int .u8 k2, .int .u8 k3, .string d])).touch ht (fun h => h)
    have HT := Lib.hid (((Touch.refl NoS w).alloc (.cells #[.bool true, .int .i64 op, .bool false, .int .u8 k0, .int .u8 k1, .int .u8 k2, .int .u8 k3, .string d] 44)).trans ht)
    have b2 := hb.cell 2
    have b7 := hb.cell 7
    have hlt := hb.lt
    simp at b2 b7
    clear ht hb
    go_wp2
    go_ret
    exact ⟨by rw [HR.out]; rfl, HT.out.alloc _⟩

set_option maxHeartbeats 6400000 in
set_option maxRecDepth 100000 in
theorem r9_text_mask (f : Fr) (hf : f.good) (hfm : form9 f = true) (hz : f.data.size ≤ 1000000) (hm : f.masked = true) (w : World) : Calls Try.prog 44 #[.agg f.cs] w fun e w' => e = .returned (.string (Go.strOfNums (fput f))) ∧ Touch NoS w w' := by
  have hop := form_op hfm
  have hK := hf.2.1
  obtain ⟨R, hR⟩ : ∃ R, R = Go.strOfNums (fput f) := ⟨_, rfl⟩
  rw [← hR]
  obtain ⟨x0, t0, hB, hx0, hx1⟩ := lenB_head f.data.size
  have hfp : fput f = [first9 f, x0 + 128] ++ (t0 ++ (f.key ++ turn f.key 0 (sb f.data))) := by unfold fput long9; rw [hm, hB]; simp
  rw [hfp, nums_append, nums_append, nums_append] at hR
  obtain ⟨fin, op, masked, k0, k1, k2, k3, d⟩ := f
  simp only [Fr.cs, first9, Fr.key] at *
  subst hm
  have HPUT := Lib.hid (fun W => r8_put d.size (by omega) W)
  rw [hB] at HPUT
  obtain ⟨u, hu⟩ : ∃ u, u = Go.strOfNums (x0 :: t0) := ⟨_, rfl⟩
  rw [← hu] at HPUT
  have hul : (x0 :: t0).length ≤ 9 := by rw [← hB]; exact lenB_le _
  have huz : u.size ≤ 9 := by rw [hu, numsB_size]; exact hul
  have hu0 : 0 < u.size := by rw [hu, numsB_size]; simp
  have hbin : bytesIn (x0 :: t0) := by rw [← hB]; exact lenB_in _
  have hsu : sb u = x0 :: t0 := by rw [hu]; exact sb_nums _ hbin
  have hux : ((u[0].toNat : Nat) : Int) = x0 := by rw [← sb_getD u 0 hu0, hsu]; rfl
  have hue : u.extract 1 u.size = Go.strOfNums t0 := by
    apply sb_inj
    rw [sb_extract, hsu, sb_nums t0 (fun x hx => hbin x (by simp [hx])), List.take_of_length_le (by rw [hu, numsB_size]; exact Nat.le_refl _)]
    rfl
  have HAP := Lib.hid (fun W => r8_apply k0 k1 k2 k3 hK d (by omega) W)
  obtain ⟨D, hD⟩ : ∃ D, D = Go.strOfNums (turn [k0, k1, k2, k3] 0 (sb d)) := ⟨_, rfl⟩
  have hDz : D.size ≤ 1000000 := by rw [hD, numsB_size, turn_length, sb_length]; exact hz
  rw [← hD] at HAP hR
  obtain ⟨Q, hQ⟩ : ∃ Q, Q = Go.strOfNums [k0, k1, k2, k3] := ⟨_, rfl⟩
  have hQz : Q.size = 4 := by rw [hQ, numsB_size]; rfl
  obtain ⟨t, htt⟩ : ∃ t, t = Go.strOfNums t0 := ⟨_, rfl⟩
  have htz : t.size ≤ 9 := by rw [htt, numsB_size]; simp at hul; omega
  rw [← hQ, ← htt] at hR
  rw [← htt] at hue
  have op0 : 0 ≤ op := by omega
  have op1 : op ≤ 10 := by omega
  have hcv4 := fun W g c0 c1 c2 c3 => conv_cells4 W g k0 k1 k2 k3 c0 c1 c2 c3
  rw [← hQ] at hcv4
  obtain ⟨X, hX⟩ : ∃ X, X = op + (if fin = true then 128 else 0) := ⟨_, rfl⟩
  rw [← hX] at hR
  have hcv2 := fun W g c0 c1 => conv_cells2 W g X (x0 + 128) c0 c1
  obtain ⟨P, hP⟩ : ∃ P, P = Go.strOfNums [X, x0 + 128] := ⟨_, rfl⟩
  have hPz : P.size = 2 := by rw [hP, numsB_size]; rfl
  rw [← hP] at hR hcv2
  have HR := Lib.hid hR
  have HUE := Lib.hid hue
  have hXb : 0 ≤ X ∧ X ≤ 138 := by rw [hX]; split <;> omega
  have hw1 : IntKind.u8.wrap X = X := IntWalk.u8_in _ (by omega)
  have hw2 : IntKind.u8.wrap (x0 + 128) = x0 + 128 := IntWalk.u8_in _ (by omega)
  have hu1' : (1 : Int) ≤ u.size := by omega
  clear hf hfm hfp hK hB hu hsu hbin hul hD hQ htt hop hR hP
  go_enter Try.func44, Try.ntmps44
  cases fin
  · simp only [Bool.false_eq_true, if_false, Int.add_zero] at hX
    subst hX
    go_wp2_with fail
    refine (HPUT.out _).mono ?_
    rintro e w1 ⟨rfl, ht⟩
    have hb := ((Blk.new w 44 #[.bool false, .int .i64 X, .bool true, .int .u8 k0, .int .u8 k1, .int .u8 k2, .int .u8 k3, .string d])).touch ht (fun h => h)
    have HT := Lib.hid (((Touch.refl NoS w).alloc (.cells #[.bool false, .int .i64 X, .bool true, .int .u8 k0, .int .u8 k1, .int .u8 k2, .int .u8 k3, .string d] 44)).trans ht)
    have b2 := hb.cell 2
    have b3 := hb.cell 3
    have b4 := hb.cell 4
    have b5 := hb.cell 5
    have b6 := hb.cell 6
    have b7 := hb.cell 7
    have hlt := hb.lt
    simp at b2 b3 b4 b5 b6 b7
    have hlt2 : w.heap.size < w1.heap.size + 1 := by omega
    clear ht hb
    go_wp2_with fail
    have htd : Touch NoS w1 w1.drew := (Touch.refl _ _).drew
    have hcd : ∀ b o, b < w1.heap.size → w1.drew.cell? ⟨b, o, none⟩ = w1.cell? ⟨b, o, none⟩ := fun b o _ => rfl
    have hcl : ∀ W, Touch NoS w1 W → (Touch NoS w1 W ∧ ∀ b o, b < w1.heap.size → W.cell? ⟨b, o, none⟩ = w1.cell? ⟨b, o, none⟩) := fun W h => ⟨h, fun b o hb => World.cell?_of_block (h.block b hb (fun h => h))⟩
    have HCL := Lib.hid hcl
    clear hcl
    go_region_held (fun w' => Touch NoS w1 w' ∧ ∀ b o, b < w1.heap.size → w'.cell? ⟨b, o, none⟩ = w1.cell? ⟨b, o, none⟩)
      ((first | exact ⟨htd, hcd⟩ | (refine HCL.out _ ?_; repeat (with_reducible first | assumption | exact Touch.refl _ _ | refine Touch.drew ?_ | refine Touch.alloc ?_ _))))
      ((go_at_call 28; refine (HAP.out _).mono ?_; rintro e w5 ⟨rfl, ht⟩; have ht7 : Touch NoS w1 w5 := (by refine Touch.trans ?_ ht; repeat (with_reducible first | assumption | exact Touch.refl _ _ | refine Touch.drew ?_ | refine Touch.alloc ?_ _)); have hr5 := ht.rule))
    all_goals
      go_wp2
      go_ret
      exact ⟨by rw [HR.out, ← ByteArray.append_assoc, ← ByteArray.append_assoc]; rfl, HT.out.trans (by repeat (with_reducible first | assumption | exact Touch.refl _ _ | refine Touch.drew ?_ | refine Touch.alloc ?_ _))⟩
  · simp only [if_true] at hX
    subst hX
    go_wp2_with fail
    refine (HPUT.out _).mono ?_
    rintro e w1 ⟨rfl, ht⟩
    have hb := ((Blk.new w 44 #[.bool true, .int .i64 op, .bool true, .int .u8 k0, .int .u8 k1, .int .u8 k2, .int .u8 k3, .string d])).touch ht (fun h => h)
    have HT := Lib.hid (((Touch.refl NoS w).alloc (.cells #[.bool true, .int .i64 op, .bool true, .int .u8 k0, .int .u8 k1, .int .u8 k2, .int .u8 k3, .string d] 44)).trans ht)
    have b2 := hb.cell 2
    have b3 := hb.cell 3
    have b4 := hb.cell 4
    have b5 := hb.cell 5
    have b6 := hb.cell 6
    have b7 := hb.cell 7
    have hlt := hb.lt
    simp at b2 b3 b4 b5 b6 b7
    have hlt2 : w.heap.size < w1.heap.size + 1 := by omega
    clear ht hb
    go_wp2_with fail
    have htd : Touch NoS w1 w1.drew := (Touch.refl _ _).drew
    have hcd : ∀ b o, b < w1.heap.size → w1.drew.cell? ⟨b, o, none⟩ = w1.cell? ⟨b, o, none⟩ := fun b o _ => rfl
    have hcl : ∀ W, Touch NoS w1 W → (Touch NoS w1 W ∧ ∀ b o, b < w1.heap.size → W.cell? ⟨b, o, none⟩ = w1.cell? ⟨b, o, none⟩) := fun W h => ⟨h, fun b o hb => World.cell?_of_block (h.block b hb (fun h => h))⟩
    have HCL := Lib.hid hcl
    clear hcl
    go_region_held (fun w' => Touch NoS w1 w' ∧ ∀ b o, b < w1.heap.size → w'.cell? ⟨b, o, none⟩ = w1.cell? ⟨b, o, none⟩)
      ((first | exact ⟨htd, hcd⟩ | (refine HCL.out _ ?_; repeat (with_reducible first | assumption | exact Touch.refl _ _ | refine Touch.drew ?_ | refine Touch.alloc ?_ _))))
      ((go_at_call 28; refine (HAP.out _).mono ?_; rintro e w5 ⟨rfl, ht⟩; have ht7 : Touch NoS w1 w5 := (by refine Touch.trans ?_ ht; repeat (with_reducible first | assumption | exact Touch.refl _ _ | refine Touch.drew ?_ | refine Touch.alloc ?_ _)); have hr5 := ht.rule))
    all_goals
      go_wp2
      go_ret
      exact ⟨by rw [HR.out, ← ByteArray.append_assoc, ← ByteArray.append_assoc]; rfl, HT.out.trans (by repeat (with_reducible first | assumption | exact Touch.refl _ _ | refine Touch.drew ?_ | refine Touch.alloc ?_ _))⟩
theorem r9_text (f : Fr) (hf : f.good) (hfm : form9 f = true) (hz : f.data.size ≤ 1000000) (w : World) : Calls Try.prog 44 #[.agg f.cs] w fun e w' => e = .returned (.string (Go.strOfNums (fput f))) ∧ Touch NoS w w' := by
  cases hm : f.masked
  · exact r9_text_plain f hf hfm hz hm w
  · exact r9_text_mask f hf hfm hz hm w
end Go.Proofs.Ytkhppojlabajaaa
/- frame: plain laws on bytes of frames and their beginnings. -/
namespace Go.Proofs.Ytkhppojlabajaaa
open Go.RowKit
set_option linter.unusedSimpArgs false
set_option linter.unusedVariables false

theorem check_form {f : Fr} (h : check9 f = 0) : form9 f = true ∧ f.data.size ≤ 65536 := ⟨(check_ok h).2.2, (check_ok h).2.1⟩
theorem size9_le (f : Fr) : size9 f ≤ f.data.size + 14 := by
  have h1 : (if 65536 ≤ f.data.size then 8 else if 125 < f.data.size then 2 else 0) ≤ 8 := by split; omega; split <;> omega
  have h2 : (if f.masked = true then 4 else 0) ≤ 4 := by split <;> omega
  unfold size9
  omega
theorem size9_ge (f : Fr) : 2 ≤ size9 f := by unfold size9; omega
/-- The beginning of a frame's bytes that holds its length: too long is told. -/
theorem fget_long {f : Fr} (hf : f.good) (hc : form9 f = true) (most : Int) (hm : most < f.data.size) (n : Nat) (hn : 1 + (lenB f.data.size).length ≤ n) : fget ((fput f).take n) most = (Fr.zero, 0, 92) := by
  have hz : f.data.size ≤ 9223372036854775807 := hf.2.2
  have hk : known9 f.op = true ∧ (control9 f.op = true → f.fin = true ∧ f.data.size ≤ 125) := by
    have h := hc
    unfold form9 at h
    simp only [Bool.and_eq_true, Bool.not_eq_true'] at h
    refine ⟨h.1.1, fun hcn => ?_⟩
    have h2 := h.1.2
    rw [hcn] at h2
    simp at h2
    exact h2
  have hop : 0 ≤ f.op ∧ f.op ≤ 10 := by
    have := hk.1
    unfold known9 at this
    have := of_decide_eq_true this
    omega
  obtain ⟨x, t, hx, hx1, hx2⟩ := long9_head f
  have hl := long9_length f
  obtain ⟨T, hT⟩ : ∃ T, (fput f).take n = first9 f :: (long9 f ++ T) := by
    refine ⟨(((if f.masked = true then f.key else []) ++ (if f.masked = true then turn f.key 0 (sb f.data) else sb f.data))).take (n - 1 - (long9 f).length), ?_⟩
    unfold fput
    rw [show n = (n - 1) + 1 from by omega, List.take_succ_cons, List.take_append, List.take_of_length_le (by omega), show n - 1 + 1 - 1 = n - 1 from by omega]
  rw [hT]
  have hG : getLen (long9 f ++ T) = ((f.data.size : Int), (lenB f.data.size).length, 0) := getLen_lenB f.data.size (by omega) f.masked T
  have hf0 : first9 f % 16 = f.op := by unfold first9; split <;> omega
  have hf1 : first9 f / 16 % 8 = 0 := by unfold first9; split <;> omega
  have hf2 : decide (128 ≤ first9 f) = f.fin := by
    unfold first9
    cases hfin : f.fin
    · simp; omega
    · simp; omega
  have h1 : (first9 f :: (long9 f ++ T)).getD 1 0 = x := by rw [hx]; rfl
  have hbad : ¬ ((first9 f :: (long9 f ++ T)).getD 0 0 / 16 % 8 ≠ 0 ∨ known9 ((first9 f :: (long9 f ++ T)).getD 0 0 % 16) = false ∨ (control9 ((first9 f :: (long9 f ++ T)).getD 0 0 % 16) = true ∧ ((first9 f :: (long9 f ++ T)).getD 0 0 < 128 ∨ (1 < (first9 f :: (long9 f ++ T)).length ∧ 125 < (first9 f :: (long9 f ++ T)).getD 1 0 % 128)))) := by
    rw [h1, List.getD_cons_zero, hf0, hf1, hk.1, hx1]
    rintro (h | h | ⟨h, h2⟩)
    · exact h rfl
    · cases h
    · obtain ⟨h3, h4⟩ := hk.2 h
      rw [h3] at hf2
      have := of_decide_eq_true hf2
      rcases h2 with h2 | ⟨_, h2⟩
      · omega
      · have := (lenB_small f.data.size).2 h4
        omega
  unfold fget
  rw [if_neg (by simp), if_neg hbad]
  unfold flen
  simp only [List.drop_succ_cons, List.drop_zero, hG]
  rw [if_neg (by omega), if_neg (by omega), if_pos (.inr hm)]
theorem fget_full {f : Fr} (hf : f.good) (hc : form9 f = true) (most : Int) : fget (fput f) most = if most < f.data.size then (Fr.zero, 0, 92) else (f, (fput f).length, 0) := by
  have := fget_fput f hf hc [] most
  rwa [List.append_nil] at this
theorem fput_bytes {f : Fr} (hf : f.good) (hc : form9 f = true) : bytesIn (fput f) := by
  refine fput_in f hf ?_
  have h := hc
  unfold form9 at h
  simp only [Bool.and_eq_true, Bool.not_eq_true'] at h
  have := h.1.1
  unfold known9 at this
  have := of_decide_eq_true this
  omega
/-- A beginning of a frame's bytes that isn't too long is none yet, or all of them. -/
theorem fget_begin {f : Fr} (hf : f.good) (hc : form9 f = true) (most : Int) (hm : ¬ most < f.data.size) (n : Nat) (hn : n ≤ (fput f).length) (hl : (fput f).length ≤ maxLen) : (fget ((fput f).take n) most).2.2 = 90 ∨ n = (fput f).length := by
  by_cases he : (fget ((fput f).take n) most).2.2 = 90
  · exact .inl he
  · right
    have hb := fput_bytes hf hc
    have e : fput f = (fput f).take n ++ (fput f).drop n := (List.take_append_drop n _).symm
    have hb2 := hb
    rw [e] at hb2
    have hmono := fget_mono hb2 most he
    rw [← e, fget_full hf hc, if_neg hm] at hmono
    have hn2 := congrArg (fun q => q.2.1) hmono
    simp only at hn2
    by_cases h0 : (fget ((fput f).take n) most).2.2 = 0
    · -- the bytes that it takes are in the beginning
      have h4 : (fget ((fput f).take n) most).2.1 ≤ ((fput f).take n).length := by
        exact (fget_ok (hb.take n) (by rw [List.length_take]; omega) (most := most) (f := (fget ((fput f).take n) most).1) (n := (fget ((fput f).take n) most).2.1) (by rw [← h0])).2.2.2.1
      rw [← hn2, List.length_take] at h4
      omega
    · have := congrArg (fun q => q.2.2) hmono
      simp only at this
      exact absurd this.symm h0

theorem zero_good (fin : Bool) (op : Int) (h : 0 ≤ op ∧ op ≤ 15) (d : ByteArray) (hd : d.size ≤ maxLen) : (Fr.mk fin op false 0 0 0 0 d).good :=
  ⟨wf_i64 (by show -9223372036854775808 ≤ op; omega) (by show op ≤ 9223372036854775807; omega), by intro x hx; simp [Fr.key] at hx; omega, hd⟩
end Go.Proofs.Ytkhppojlabajaaa
