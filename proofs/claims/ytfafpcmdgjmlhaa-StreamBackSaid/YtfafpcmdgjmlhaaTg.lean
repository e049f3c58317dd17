/- ref10: All. -/
import Derived.Test.YtfafpcmdgjmlhaaTe
import Derived.Test.YtfafpcmdgjmlhaaTf
namespace Go.Proofs.Ytfafpcmdgjmlhaa
open Go.RowKit
set_option linter.unusedSimpArgs false
set_option linter.unusedVariables false

set_option maxHeartbeats 6400000 in
set_option maxRecDepth 100000 in
theorem r10_all (s : ByteArray) (hs : s.size ≤ 1000000) (mk : Bool) (most : Int) (hm : (Lit.int .i64 most).wf = true) (w : World) :
    Calls Try.prog 26 #[.string s, .bool mk, .int .i64 most] w fun e w' => ∃ v, e = .returned (.tuple #[v, .int .i64 (scan mk most (sb s)).2.2, .int .i64 (scan mk most (sb s)).2.1.length]) ∧
      w'.ownsRow w.heap.size 43 8 v (scan mk most (sb s)).1.length (frs (scan mk most (sb s)).1) ∧ Touch NoS w w' := by
  have HM := Lib.hid hm
  obtain ⟨i, hi, hz0, hz1, hz2⟩ := info_parts info_fr
  obtain ⟨R, hR⟩ : ∃ R, R = scan mk most (sb s) := ⟨_, rfl⟩
  rw [← hR]
  have HRR := Lib.hid hR
  clear hm hR
  go_enter Try.func26, Try.ntmps26
  go_wp2_with fail
  go_loopw [0, 9] (fun sv ov wr => ∃ (l : List Fr) (t : ByteArray), sv = .string t ∧ t.size ≤ 1000000 ∧ l.length + t.size ≤ 1000000 ∧ wr.ownsRow w.heap.size 43 8 ov l.length (frs l) ∧ Hid (R = (l ++ (scan mk most (sb t)).1, (scan mk most (sb t)).2)) ∧ Touch NoS w wr)
    (fun sv _ _ => match sv with | .string t => t.size | _ => 0)
  case atStart =>
    refine ⟨[], s, rfl, hs, by simp; omega, ⟨rfl, .inr ⟨w.heap.size, 0, #[], rfl, Nat.le_refl _, Blk.new _ _ _, Nat.le_refl _, by simp [maxLen], rfl, rfl⟩⟩, HRR.out, (Touch.refl _ _).alloc _⟩
  case round =>
    obtain ⟨l, t, rfl, htz, hlz, ho, hsc, ht⟩ := hrel
    have hin := sb_in t
    have hlen := sb_length t
    have hse := scan_eq mk most (sb t) hin (by rw [hlen]; unfold maxLen; omega)
    have HON := Lib.hid (r10_one t (by omega) mk most HM.out wr)
    have h2 := fun h => slook_two (mk := mk) (most := most) hin (by rw [hlen]; unfold maxLen; omega) h
    obtain ⟨f, k, e, hS⟩ : ∃ f k e, slook mk most (sb t) = (f, k, e) := ⟨_, _, _, rfl⟩
    rw [hS] at hse HON h2
    simp only at hse HON h2
    rw [hlen] at h2
    obtain ⟨Av, cv, rfl, hlc, hcm, _, _, _⟩ := own_cases ho
    have HO := Lib.hid ho
    have HSC := Lib.hid hsc
    have HSE := Lib.hid hse
    have HT := Lib.hid ht
    have H2 := Lib.hid h2
    have hsz : w.heap.size ≤ wr.heap.size := ht.size
    clear hin hlen hse hS ho hsc ht h2 hlc hcm
    obtain ⟨fin, op, masked, k0, k1, k2, k3, d⟩ := f
    simp only [Fr.cs] at HON
    by_cases he9 : e = 90
    · subst he9
      have hR : R = (l, sb t, 0) := by
        have h := HSC.out.out
        rw [HSE.out, if_neg (by omega), if_pos rfl] at h
        rw [h, List.append_nil]
      have HR2 := Lib.hid hR
      clear HSC HSE H2 HRR
      go_wp2_with fail
      refine HON.out.mono ?_
      rintro e' w1 ⟨rfl, ht⟩
      have HO1 := Lib.hid (own_no HO.out (ht.alloc (.cells #[.bool fin, .int .i64 op, .bool masked, .int .u8 k0, .int .u8 k1, .int .u8 k2, .int .u8 k3, .string d] 43)))
      have HT1 := Lib.hid ((HT.out.trans ht).alloc (.cells #[.bool fin, .int .i64 op, .bool masked, .int .u8 k0, .int .u8 k1, .int .u8 k2, .int .u8 k3, .string d] 43))
      clear ht
      go_wp2
      refine bodyPost_ret (v := .tuple #[.slice Av l.length cv, .int .i64 0, .int .i64 t.size]) (by simp [results, Try.results26, go_sem]) rfl ?_
      have h := HR2.out
      subst h
      exact ⟨_, by rw [sb_length], HO1.out, HT1.out⟩
    by_cases he0 : e = 0
    · subst he0
      have hR : R = (l ++ [⟨fin, op, masked, k0, k1, k2, k3, d⟩] ++ (scan mk most ((sb t).drop k)).1, (scan mk most ((sb t).drop k)).2) := by
        have h := HSC.out.out
        rw [HSE.out, if_pos rfl] at h
        rw [h]
        simp
      have HR2 := Lib.hid hR
      have h2 := H2.out rfl
      have hk2 : 2 ≤ k := h2.1
      have hkt : k ≤ t.size := h2.2
      have hki : (k : Int) ≤ t.size := by omega
      have HFO : Hid (∀ u ∈ (Fr.mk fin op masked k0 k1 k2 k3 d).cl, u.oneCell' = true) := by have := frs_one [⟨fin, op, masked, k0, k1, k2, k3, d⟩]; rw [frs_single] at this; exact this
      have HFC : Hid ((Fr.mk fin op masked k0 k1 k2 k3 d).cl.length = 1 * 8) := rfl
      clear HSC HSE H2 HRR h2 hR he9
      go_wp2_with fail
      refine HON.out.mono ?_
      rintro e' w1 ⟨rfl, ht⟩
      have hs1 : w.heap.size ≤ w1.heap.size := Nat.le_trans hsz ht.size
      have HO1 := Lib.hid (own_no HO.out ht)
      have HT1 := Lib.hid (HT.out.trans ht)
      clear ht HO HT hsz
      go_wp2_with fail
      obtain ⟨w2, hw2⟩ : ∃ w2, w2 = w1.alloc (.cells #[.bool fin, .int .i64 op, .bool masked, .int .u8 k0, .int .u8 k1, .int .u8 k2, .int .u8 k3, .string d] 43) := ⟨_, rfl⟩
      rw [← hw2]
      have hb2 : Blk w2 w1.heap.size 43 #[.bool fin, .int .i64 op, .bool masked, .int .u8 k0, .int .u8 k1, .int .u8 k2, .int .u8 k3, .string d] := by rw [hw2]; exact Blk.new _ _ _
      have HO2 : Hid (w2.ownsRow w.heap.size 43 8 (.slice Av l.length cv) l.length (frs l)) := by rw [hw2]; exact own_no HO1.out ((Touch.refl _ _).alloc _)
      have HT2 : Hid (Touch NoS w w2) := by rw [hw2]; exact HT1.out.alloc _
      have hs2 : w.heap.size ≤ w2.heap.size := HT2.out.size
      have c0 := hb2.cell 0
      have c1 := hb2.cell 1
      have c2 := hb2.cell 2
      have c3 := hb2.cell 3
      have c4 := hb2.cell 4
      have c5 := hb2.cell 5
      have c6 := hb2.cell 6
      have c7 := hb2.cell 7
      have blt := hb2.lt
      simp at c0 c1 c2 c3 c4 c5 c6 c7
      have HRN : Hid (Rd (w2.alloc (.cells (Fr.mk fin op masked k0 k1 k2 k3 d).cl.toArray 43)).drew (some ⟨w2.heap.size, 0, none⟩) (Fr.mk fin op masked k0 k1 k2 k3 d).cl) := (Rd.new w2 (Fr.mk fin op masked k0 k1 k2 k3 d).cl 43 (0, 0)).touch_no (Touch.refl _ _).drew
      clear hw2 hb2 HO1 HT1
      go_region_law (first
        | (refine step_app_row _ rfl (.tmp 31) (.tmp 33) 29 rfl w.heap.size 43 i _ 8 40 Try.underlying29 hi hz0 hz1 hz2 rfl (by decide) (.slice Av l.length cv) l.length (frs l) (by simp [Act.eval, Act.put]) (own_no HO2.out ((Touch.refl _ _).alloc _).drew) (some ⟨w2.heap.size, 0, none⟩) 1 1 (Fr.mk fin op masked k0 k1 k2 k3 d).cl (by simp [Act.eval, Act.put]) HFC.out HRN.out HFO.out (by unfold maxLen; omega) (by omega) (by simp; omega) ?_
           intro v' w4 ho hgr _
           have HO4 := Lib.hid ho
           have HT4 := Lib.hid (((HT2.out.alloc _).drew).grown hgr (fun q hq hl => absurd (own_base HO2.out hq) (by omega)))
           clear ho hgr))
      all_goals
        simp [Act.put]
        go_wp2_with fail
        go_roundw
        · refine ⟨l ++ [(Fr.mk fin op masked k0 k1 k2 k3 d)], t.extract k t.size, rfl, by simp; omega, by simp; omega, ?_, ?_, HT4.out⟩
          · rw [List.length_append, frs_append, frs_single]
            exact HO4.out
          · show R = _
            rw [HR2.out, sb_extract, List.take_of_length_le (by rw [sb_length]; exact Nat.le_refl _)]
        · show (t.extract k t.size).size < t.size
          simp
          omega
    · have hR : R = (l, [], e) := by
        have h := HSC.out.out
        rw [HSE.out, if_neg he0, if_neg he9] at h
        rw [h, List.append_nil]
      have HR2 := Lib.hid hR
      have q0 : (e != 0) = true := by rw [bne_iff_ne]; exact he0
      have q9 : (e == 90) = false := by rw [beq_eq_false_iff_ne]; exact he9
      clear HSC HSE H2 HRR hR
      go_wp2_with fail
      refine HON.out.mono ?_
      rintro e' w1 ⟨rfl, ht⟩
      have HO1 := Lib.hid (own_no HO.out (ht.alloc (.cells #[.bool fin, .int .i64 op, .bool masked, .int .u8 k0, .int .u8 k1, .int .u8 k2, .int .u8 k3, .string d] 43)))
      have HT1 := Lib.hid ((HT.out.trans ht).alloc (.cells #[.bool fin, .int .i64 op, .bool masked, .int .u8 k0, .int .u8 k1, .int .u8 k2, .int .u8 k3, .string d] 43))
      clear ht
      go_wp2
      refine bodyPost_ret (v := .tuple #[.slice Av l.length cv, .int .i64 e, .int .i64 0]) (by simp [results, Try.results26, go_sem]) rfl ?_
      have h := HR2.out
      subst h
      exact ⟨_, rfl, HO1.out, HT1.out⟩
end Go.Proofs.Ytfafpcmdgjmlhaa
