/- law16: LegReads: the walk. | Events as arguments. -/
import Derived.Test.YtpadlcllcmodaaaV03
import Derived.Test.YtpadlcllcmodaaaY43
import Derived.Test.YtpadlcllcmodaaaV05
import Derived.Test.YtpadlcllcmodaaaY01
import Derived.Test.YtpadlcllcmodaaaY22
/- law16: LegReads: the walk. -/
namespace Go.Proofs.Ytpadlcllcmodaaa
open Go.RowKit
set_option linter.unusedSimpArgs false
set_option linter.unusedVariables false

def sbs (l : List ByteArray) : List (List Int) := l.map sb
theorem sbs_take (l : List ByteArray) (i : Nat) : (sbs l).take i = sbs (l.take i) := by unfold sbs; rw [List.map_take]
theorem strs_one_ (l : List ByteArray) : ∀ u ∈ (l.flatMap fun x => [Value.string x]), u.oneCell' = true := by
  intro u hu
  obtain ⟨x, _, hx⟩ := List.mem_flatMap.1 hu
  simp at hx
  rw [hx]
  rfl
theorem strs_len_ (l : List ByteArray) : (l.flatMap fun x => [Value.string x]).length = l.length := by induction l <;> simp_all
theorem info_str_ : (Try.prog.info? 9).map (fun i => (i.zero, i.size, i.bytes)) = some (some (.string ⟨#[]⟩), 1, 16) := by kernel_rfl
theorem LgTwo.grown {w0 w w' : World} {g1 g2 : Nat} {k1 k2 : Lk} {L1 L2 : Lg} (h : LgTwo w0 w g1 k1 L1 g2 k2 L2) {base : Nat} {e : TypeId} {size n : Nat} {v : Value} {xs : List Value} (ho : w.ownsRow base e size v n xs) (he : Outer e) (hb : w0.heap.size ≤ base) (hg : w.grownBy w' v.ownBlock) : LgTwo w0 w' g1 k1 L1 g2 k2 L2 :=
  h.touch (S := fun b => v.ownBlock = some b) ((Touch.refl _ _).grown hg (fun q hq _ => hq)) (fun b hb => by
    obtain ⟨cs, hc⟩ := own_type ho hb
    exact ⟨e, cs, hc, he⟩) (fun b hv => by have := own_base ho hv; omega)
set_option maxHeartbeats 12800000 in
set_option maxRecDepth 100000 in
theorem reads16_row (w : World) (mk : Bool) (A : Option Addr) (la : List ByteArray) (c : Nat) (hr : Rd w A (la.flatMap fun x => [.string x])) (hg : ∀ x ∈ la, x.size ≤ maxLen) (hlc : la.length ≤ c) (hcc : c ≤ maxLen)
    (B : Option Addr) (lb : List ByteArray) (c' : Nat) (hr' : Rd w B (lb.flatMap fun x => [.string x])) (hg' : ∀ x ∈ lb, x.size ≤ maxLen) (hlc' : lb.length ≤ c') (hcc' : c' ≤ maxLen) :
    Calls Try.prog 3 #[.bool mk, .slice A la.length c, .slice B lb.length c'] w fun e w' => e = .returned (.bool true) ∧ Touch NoS w w' := by
  have HR := Lib.hid hr
  have HG := Lib.hid hg
  have HR' := Lib.hid hr'
  have HG' := Lib.hid hg'
  obtain ⟨na, hna⟩ : ∃ n, n = la.length := ⟨_, rfl⟩
  obtain ⟨nb, hnb⟩ : ∃ n, n = lb.length := ⟨_, rfl⟩
  rw [← hna] at hlc ⊢
  rw [← hnb] at hlc' ⊢
  have HN := Lib.hid hna.symm
  have HN' := Lib.hid hnb.symm
  have hnam : na ≤ maxLen := by omega
  have hnbm : nb ≤ maxLen := by omega
  have HNM := Lib.hid hnam
  have HNM' := Lib.hid hnbm
  unfold maxLen at hnam hnbm
  clear hr hg hna hcc hr' hg' hnb hcc'
  go_enter Try.func3, Try.ntmps3
  go_wp2_with fail
  refine (l_cfg 250 50 250 (by omega) (by omega) (by omega) _).mono ?_
  rintro e w1 ⟨b, rfl, hb, hbr, ht⟩
  have HT1 := Lib.hid ht
  have HBR := Lib.hid hbr
  clear ht hbr
  unfold cfgV
  obtain ⟨M, hM⟩ : ∃ M, M = 1 + 250 := ⟨_, rfl⟩
  obtain ⟨F, hF⟩ : ∃ F, F = 1 + 50 := ⟨_, rfl⟩
  rw [← hM, ← hF]
  have hM1 : 1 ≤ M ∧ M ≤ 256 := by omega
  have hF1 : 1 ≤ F ∧ F ≤ 256 := by omega
  clear hM hF
  go_wp2_with fail
  obtain ⟨w2, hw2⟩ : ∃ w2, w2 = w1.alloc (.cells (cfgV b M F M) 25) := ⟨_, rfl⟩
  obtain ⟨gc, hgc⟩ : ∃ g, g = w1.heap.size := ⟨_, rfl⟩
  have hbc : Blk w2 gc 25 (cfgV b M F M) := by rw [hw2, hgc]; exact Blk.new _ _ _
  have HT2 : Hid (Touch NoS w w2) := by rw [hw2]; exact HT1.out.alloc _
  have HBR2 : Hid (Blk w2 b 63 #[.string ⟨#[47]⟩, .string ⟨#[]⟩, .string ⟨#[120]⟩]) := by rw [hw2]; exact HBR.out.alloc _
  have HBC := Lib.hid hbc
  have HNEW := Lib.hid (fun W (t : Touch NoS w2 W) => lg_new b M F M hM1.1 (by omega) hF1.1 (by omega) hM1.1 (by omega) mk 1 W (HBR2.out.touch t (fun h => h)))
  unfold cfgV at hw2 HNEW
  rw [← hw2, ← hgc]
  clear hw2 hgc hbc HBR HBR2 HT1 hb
  refine (HNEW.out _ (Touch.refl _ _)).mono ?_
  rintro e w3 ⟨g1, k1, rfl, hk1, hk2, hk3, hk4, hL⟩
  have HK1 := Lib.hid hk1
  have HK3 := Lib.hid hk3
  have HK4 := Lib.hid hk4
  have HL3 := Lib.hid hL
  have hbc3 := HBC.out.touch hL.old (fun h => h)
  have c0 := hbc3.cell 0
  have c1 := hbc3.cell 1
  have c2 := hbc3.cell 2
  have c3 := hbc3.cell 3
  have c4 := hbc3.cell 4
  have c5 := hbc3.cell 5
  have c6 := hbc3.cell 6
  have c7 := hbc3.cell 7
  have c8 := hbc3.cell 8
  have c9 := hbc3.cell 9
  have c10 := hbc3.cell 10
  have c11 := hbc3.cell 11
  have cl := hbc3.lt
  simp [cfgV] at c0 c1 c2 c3 c4 c5 c6 c7 c8 c9 c10 c11
  clear hL hk1 hk2 hk3 hk4 hbc3
  go_wp2_with fail
  refine (HNEW.out _ HL3.out.old).mono ?_
  rintro e w4 ⟨g2, k2, rfl, hk1, hk2, hk3, hk4, hL⟩
  have HM1 := Lib.hid hk1
  have HM3 := Lib.hid hk3
  have HM4 := Lib.hid hk4
  have HL4 := Lib.hid (LgTwo.mk_ HL3.out hL)
  clear hL hk1 hk2 hk3 hk4 c0 c1 c2 c3 c4 c5 c6 c7 c8 c9 c10 c11 cl HL3 HNEW
  go_wp2_with fail
  refine (aw16 _).mono ?_
  rintro e w5 ⟨rfl, ht⟩
  have HL5 := Lib.hid (HL4.out.no ht)
  clear ht HL4
  go_wp2_with fail
  have HT5 := Lib.hid (HT2.out.trans HL5.out.old)
  refine (r10_few A la na c HN.out w5 (HR.out.touch_no HT5.out) HNM.out HG.out).mono ?_
  rintro e w5' ⟨rfl, rfl⟩
  obtain ⟨fw, hfw⟩ : ∃ fw, fw = few la := ⟨_, rfl⟩
  rw [← hfw]
  have HFW := Lib.hid hfw
  clear hfw
  cases fw with
  | false =>
    go_wp2_with fail
    refine (aw16 _).mono ?_
    rintro e w6 ⟨rfl, ht⟩
    have HT6 := Lib.hid (HT5.out.trans ht)
    clear ht
    go_wp2_with fail
    go_ret
    exact ⟨rfl, HT6.out⟩
  | true =>
  go_wp2_with fail
  refine (r10_few B lb nb c' HN'.out w5 (HR'.out.touch_no HT5.out) HNM'.out HG'.out).mono ?_
  rintro e w5' ⟨rfl, rfl⟩
  obtain ⟨fw, hfw⟩ : ∃ fw, fw = few lb := ⟨_, rfl⟩
  rw [← hfw]
  have HFW' := Lib.hid hfw
  clear hfw
  cases fw with
  | false =>
    go_wp2_with fail
    refine (aw16 _).mono ?_
    rintro e w6 ⟨rfl, ht⟩
    have HT6 := Lib.hid (HT5.out.trans ht)
    clear ht
    go_wp2_with fail
    go_ret
    exact ⟨rfl, HT6.out⟩
  | true =>
  have hfew := of_decide_eq_true HFW.out.symm
  obtain ⟨h300, h40⟩ := hfew
  rw [HN.out] at h40
  have hfew' := of_decide_eq_true HFW'.out.symm
  obtain ⟨h300', h40'⟩ := hfew'
  rw [HN'.out] at h40'
  have h300L : ∀ s ∈ la ++ lb, s.size ≤ 300 := fun s hs => by
    rcases List.mem_append.1 hs with h | h
    · exact h300 s h
    · exact h300' s h
  have H300 := Lib.hid h300L
  clear h300 h300' h300L
  obtain ⟨i, hi, hz0, hz1, hz2⟩ := info_parts info_ev
  obtain ⟨j, hj, hy0, hy1, hy2⟩ := info_parts info_str_
  have hws : w2.heap.size ≤ w5.heap.size := HL5.out.old.size
  have HO0 : Hid (((w5.alloc (.cells #[] 47)).alloc (.cells #[] 9)).ownsRow w2.heap.size 9 1 (.slice (some ⟨w5.heap.size + 1, 0, none⟩) 0 0) 0 []) := by
    refine ⟨rfl, .inr ⟨w5.heap.size + 1, 0, #[], rfl, by omega, ?_, Nat.le_refl _, by simp [maxLen], rfl, rfl⟩⟩
    have h := Blk.new (w5.alloc (.cells #[] 47)) 9 #[]
    rw [show (w5.alloc (.cells #[] 47)).heap.size = w5.heap.size + 1 from by simp] at h
    exact h
  have HTA : Hid (Touch NoS w5 ((w5.alloc (.cells #[] 47)).alloc (.cells #[] 9))) := ((Touch.refl _ _).alloc _).alloc _
  have HE0 : Hid (((w5.alloc (.cells #[] 47)).alloc (.cells #[] 9)).ownsRow w2.heap.size 47 3 (.slice (some ⟨w5.heap.size, 0, none⟩) 0 0) 0 (evCells [])) := ⟨rfl, .inr ⟨w5.heap.size, 0, #[], rfl, hws, (Blk.new w5 47 #[]).alloc _, Nat.le_refl _, by simp [maxLen], rfl, rfl⟩⟩
  have HLA := Lib.hid (HL5.out.no HTA.out)
  have HTW := Lib.hid (HT5.out.trans HTA.out)
  have hwa : w2.heap.size ≤ ((w5.alloc (.cells #[] 47)).alloc (.cells #[] 9)).heap.size := HLA.out.old.size
  have HWA := Lib.hid hwa
  clear hwa hws HL5
  go_wp2_with (at_builtin; refine wpList_app_row _ rfl (.tmp 59) (.tmp 60) 22 rfl w2.heap.size 9 j _ 1 16 Try.underlying22 hj hy0 hy1 hy2 rfl (by decide) _ 0 [] rfl HO0.out A na c (la.flatMap fun x => [.string x]) rfl (by rw [strs_len_, HN.out, Nat.mul_one]) (HR.out.touch_no HTW.out) (strs_one_ la) (by unfold maxLen; omega) (by omega) HWA.out ?_)
  intro v6 w6 ho6 hgr _
  have HE6 := Lib.hid (own_apart HE0.out HO0.out (by decide) hgr)
  have HL6 := Lib.hid (HLA.out.grown HO0.out (by decide) (Nat.le_refl _) hgr)
  have HT6 := Lib.hid (HT2.out.trans HL6.out.old)
  have HO6 := Lib.hid ho6
  have hw6 : w2.heap.size ≤ w6.heap.size := HL6.out.old.size
  clear ho6 hgr HO0 HTA HE0 HLA HTW HWA
  go_wp2_with (at_builtin; refine wpList_app_row _ rfl (.tmp 61) (.tmp 62) 22 rfl w2.heap.size 9 j _ 1 16 Try.underlying22 hj hy0 hy1 hy2 rfl (by decide) _ na (la.flatMap fun x => [.string x]) rfl HO6.out B nb c' (lb.flatMap fun x => [.string x]) rfl (by rw [strs_len_, HN'.out, Nat.mul_one]) (HR'.out.touch_no HT6.out) (strs_one_ lb) (by unfold maxLen; omega) (by omega) hw6 ?_)
  intro v7 w7 ho7 hgr _
  rw [← List.flatMap_append] at ho7
  obtain ⟨AL, cL, rfl, hcL1, hcL2, _, _, _⟩ := own_cases ho7
  obtain ⟨n, hn⟩ : ∃ n, n = na + nb := ⟨_, rfl⟩
  have HNL : Hid ((la ++ lb).length = n) := by show (la ++ lb).length = n; rw [List.length_append, HN.out, HN'.out, hn]
  rw [← hn] at ho7 ⊢
  have HE7 := Lib.hid (own_apart HE6.out HO6.out (by decide) hgr)
  have HL7 := Lib.hid (HL6.out.grown HO6.out (by decide) (Nat.le_refl _) hgr)
  have HS7 := Lib.hid ho7
  have hn80 : n ≤ 80 := by omega
  have hnc : n ≤ cL := by omega
  clear ho7 hgr HO6 HE6 HL6 HT6 hw6 hcL1 hcL2 hn HT5
  go_wp2_with fail
  go_loopw [12, 13, 15] (fun av tv iv wr => ∃ (i : Nat) (L1 : Lg) (al : ByteArray) (outs : List Ev) (Ao : Option Addr) (co : Nat), i ≤ n ∧ iv = .int .i64 i ∧ av = .string al ∧ al.size ≤ 300 * i ∧ tv = .slice Ao outs.length co ∧ outs.length ≤ 700 * i ∧
      wr.ownsRow w2.heap.size 47 3 (.slice Ao outs.length co) outs.length (evCells outs) ∧ wr.ownsRow w2.heap.size 9 1 (.slice AL n cL) n ((la ++ lb).flatMap fun x => [.string x]) ∧
      LgTwo w2 wr g1 k1 L1 g2 k2 (Lg.new M 1) ∧ Hid (feedAll k1 (Lg.new M 1) ((sbs (la ++ lb)).take i) = (L1, outs)) ∧ Hid (sb al = ((sbs (la ++ lb)).take i).flatten) ∧ L1.okb k1 (700 * i))
    (fun _ _ iv _ => n - (intOf iv).toNat)
  case atStart => exact ⟨0, Lg.new M 1, ⟨#[]⟩, [], _, _, by omega, rfl, rfl, by decide, rfl, by decide, HE7.out, HS7.out, HL7.out, rfl, rfl, by rw [← HK1.out]; exact Lg.new_okb k1 1 _⟩
  case round =>
    obtain ⟨i', L1, al, outs, Ao, co, hin, rfl, rfl, hal, rfl, hou, ho, hs, hL, hfa, hsa, hok⟩ := hrel
    have HO := Lib.hid ho
    have HS := Lib.hid hs
    have HL := Lib.hid hL
    have HFA : Hid (feedAll k1 (Lg.new M 1) ((sbs (la ++ lb)).take i') = (L1, outs)) := hfa
    have HSA : Hid (sb al = ((sbs (la ++ lb)).take i').flatten) := hsa
    have HOK := Lib.hid hok
    have hlz : al.size ≤ 24000 := by omega
    have hpl : (L1.part.length : Int) ≤ 269 := by
      have := hok.part
      unfold most16 at this
      rw [HK1.out] at this
      omega
    have hcl := hok.ctl
    by_cases hlt : i' < n
    · have hil : i' < (la ++ lb).length := by rw [HNL.out]; exact hlt
      obtain ⟨AL', cL', hvL, _, _, hrdL, _, _⟩ := own_cases hs
      injection hvL with eL1 _ eL2
      subst eL1 eL2
      obtain ⟨gA, off, rfl, hgA, c0⟩ := str_at hrdL i' hil
      have h3 := H300.out (la ++ lb)[i'] (List.getElem_mem hil)
      have hst := feedAll_take k1 (Lg.new M 1) (sbs (la ++ lb)) i' (by unfold sbs; rw [List.length_map]; exact hil)
      have hsj : (sbs (la ++ lb))[i']'(by unfold sbs; rw [List.length_map]; exact hil) = sb (la ++ lb)[i'] := by unfold sbs; rw [List.getElem_map]
      have hft : ((sbs (la ++ lb)).take (i' + 1)).flatten = ((sbs (la ++ lb)).take i').flatten ++ sb (la ++ lb)[i'] := by
        rw [← hsj, ← List.take_append_getElem (by unfold sbs; rw [List.length_map]; exact hil), List.flatten_append]
        simp
      rw [hsj, HFA.out] at hst
      obtain ⟨s, hsd⟩ : ∃ s, s = (la ++ lb)[i'] := ⟨_, rfl⟩
      rw [← hsd] at c0 h3 hst hft
      have HST := Lib.hid hst
      have HFT := Lib.hid hft
      clear ho hs hL hfa hsa hok hrdL hst hsj hft hsd hil HE7 HS7 HL7
      obtain ⟨w8, cp, hconv, ht, hrd, hcp, hcm, h23⟩ := conv_ex wr s (by unfold maxLen; omega)
      have HRD := Lib.hid hrd
      have HO8 := Lib.hid (own_no HO.out ht)
      have HS8 := Lib.hid (own_no HS.out ht)
      have HL8 := Lib.hid (HL.out.no ht)
      obtain ⟨X, hX⟩ : ∃ X, X = al ++ s := ⟨_, rfl⟩
      have HX := Lib.hid hX
      have HXZ : Hid (X.size = al.size + s.size) := by show X.size = al.size + s.size; rw [hX, ByteArray.size_append]
      have HLN := Lib.hid (Lg.feed_len k1 L1 HOK.out.ok (sb s) (sb_in s) (by rw [sb_length]; omega))
      have HOK2 := Lib.hid (Lg.feed_okb k1 _ L1 HOK.out (sb s) (sb_in s) (by rw [sb_length]; omega))
      clear hrd hcp hcm ht hX
      go_wp2_with fail
      refine (lt_feed HL8.out (by rw [HK1.out]; omega) HOK.out.ok (sb s) _ _ _ (sb_length s) HRD.out (sb_in s) (by omega)).mono ?_
      rintro e w9 ⟨A9, c9, rfl, ho9, hL9, hkp⟩
      obtain ⟨E9, hE9⟩ : ∃ x, x = (L1.feed k1 (sb s)).2 := ⟨_, rfl⟩
      obtain ⟨L9, hL9e⟩ : ∃ x, x = (L1.feed k1 (sb s)).1 := ⟨_, rfl⟩
      rw [← hE9] at ho9 HLN ⊢
      rw [← hL9e] at hL9 HOK2
      rw [← hE9, ← hL9e] at HST
      have HO9 := Lib.hid (hkp.own _ _ _ _ _ _ HO8.out (by decide))
      have HS9 := Lib.hid (hkp.own _ _ _ _ _ _ HS8.out (by decide))
      have HL9 := Lib.hid hL9
      have hle : E9.length ≤ 600 := by have := HLN.out; rw [sb_length] at this; omega
      have hw9 : w2.heap.size ≤ w9.heap.size := hL9.old.size
      obtain ⟨A9', c9', hv9, _, _, hrd9, _, _⟩ := own_cases ho9
      injection hv9 with e9 _ e10
      subst e9 e10
      have HRD9 := Lib.hid hrd9
      clear ho9 hL9 hkp hrd9 hE9 hL9e HO8 HS8 HL8 HRD HLN
      go_wp2_with (at_builtin; refine wpList_app_row _ rfl (.tmp 76) (.tmp 83) 34 rfl w2.heap.size 47 i _ 3 32 Try.underlying34 hi hz0 hz1 hz2 rfl (by decide) _ outs.length (evCells outs) rfl HO9.out A9 E9.length c9 (evCells E9) rfl (evCells_length E9) HRD9.out (evCells_one E9) (by unfold maxLen; omega) (by omega) hw9 ?_)
      intro v10 w10 ho10 hgr _
      rw [← List.length_append, ← evCells_append] at ho10
      obtain ⟨A10, c10, rfl, _, _, _, _, _⟩ := own_cases ho10
      have HO10 := Lib.hid ho10
      have HS10 := Lib.hid (own_apart HS9.out HO9.out (by decide) hgr)
      have HL10 := Lib.hid (HL9.out.grown HO9.out (by decide) (Nat.le_refl _) hgr)
      clear ho10 hgr HO9 HS9 HL9
      go_wp2_with fail
      go_roundw
      · refine ⟨i' + 1, L9, X, outs ++ E9, A10, c10, by omega, by go_num, by rw [HX.out], by rw [HXZ.out]; omega, by first | rw [List.length_append] | rfl, by rw [List.length_append]; omega, ?_, HS10.out, HL10.out, ?_, ?_, HOK2.out.mono (by rw [sb_length]; omega)⟩
        · have h := HO10.out
          first
            | exact h
            | (simp only [List.length_append] at h ⊢; exact h)
        · exact HST.out
        · show sb X = _
          rw [HFT.out, HX.out, sb_append, HSA.out]
      · simp [intOf]; omega
    · have hkn : i' = n := by omega
      subst hkn
      have hlen : (sbs (la ++ lb)).length = i' := by unfold sbs; rw [List.length_map]; exact HNL.out
      have hall : (sbs (la ++ lb)).take i' = sbs (la ++ lb) := by rw [← hlen, List.take_length]
      have hfa2 := HFA.out
      have hsa2 := HSA.out
      rw [hall] at hfa2 hsa2
      have hone := feedAll_one k1 (by rw [HK1.out]; omega) (sbs (la ++ lb)) 0 (Lg.new M 1) (by rw [← HK1.out]; exact Lg.new_okb k1 1 _) (Lg.new_read _ _ _) (fun x hx => by
        unfold sbs at hx
        obtain ⟨y, _, rfl⟩ := List.mem_map.1 hx
        exact sb_in y) (by rw [← hsa2, sb_length]; omega)
      rw [hfa2, ← hsa2] at hone
      have hcg := Lg.feed_congr (k := k1) (k' := k2) (by rw [HK1.out, HM1.out]) (by rw [HK3.out, HM3.out]) (by rw [HK4.out, HM4.out]) (Lg.new M 1) (sb al)
      rw [hcg] at hone
      simp only at hone
      obtain ⟨hal1, hal2⟩ := hone
      have HAL := Lib.hid hal1
      have HEV := Lib.hid hal2
      clear ho hs hL hfa hsa hok hfa2 hsa2 hall hlen hcg hal1 hal2 HE7 HS7 HL7
      obtain ⟨w8, cp, hconv, ht, hrd, hcp, hcm, h23⟩ := conv_ex wr al (by unfold maxLen; omega)
      have HRD := Lib.hid hrd
      have HO8 := Lib.hid (own_no HO.out ht)
      have HL8 := Lib.hid (HL.out.no ht)
      clear hrd hcp hcm ht
      go_wp2_with fail
      refine (lt_feed HL8.out.symm (by rw [HM1.out]; omega) ⟨fun x hx => (by cases hx), fun h => absurd rfl h⟩ (sb al) _ _ _ (sb_length al) HRD.out (sb_in al) (by show (0 : Nat) + 0 + al.size ≤ 900000; omega)).mono ?_
      rintro e w9 ⟨A9, c9, rfl, ho9, hL9, hkp⟩
      have HEL := HEV.out
      have hle : ((Lg.new M 1).feed k2 (sb al)).2.length ≤ 700 * i' := by rw [← HEL]; exact hou
      obtain ⟨E9, hE9⟩ : ∃ x, x = ((Lg.new M 1).feed k2 (sb al)).2 := ⟨_, rfl⟩
      obtain ⟨L9, hL9e⟩ : ∃ x, x = ((Lg.new M 1).feed k2 (sb al)).1 := ⟨_, rfl⟩
      rw [← hE9] at ho9 hle HEV ⊢
      rw [← hL9e] at hL9 HAL
      have HO9 := Lib.hid (hkp.own _ _ _ _ _ _ HO8.out (by decide))
      have HL9 := Lib.hid hL9.symm
      obtain ⟨A9', c9', hv9, _, _, hrd9, _, _⟩ := own_cases ho9
      injection hv9 with e9 _ e10
      subst e9 e10
      have HRD9 := Lib.hid hrd9
      obtain ⟨Ao', co', hvo, _, _, hrdo, _, _⟩ := own_cases HO9.out
      injection hvo with eo1 _ eo2
      subst eo1 eo2
      have HRDO := Lib.hid hrdo
      have hout : outs.length ≤ 56000 := by omega
      clear ho9 hL9 hkp hrd9 hrdo hE9 hL9e HO8 HL8 HRD HEL
      go_wp2_with fail
      refine (r12_same Ao A9 outs E9 outs.length E9.length co c9 rfl rfl w9 HRDO.out HRD9.out (by omega) (by omega)).mono ?_
      rintro e w10 ⟨rfl, ht10⟩
      rw [decide_eq_true HEV.out]
      have HL10 := Lib.hid (HL9.out.no ht10)
      have HTF := Lib.hid (HT2.out.trans HL10.out.old)
      obtain ⟨pp, ee, hset⟩ := HAL.out
      have hq1 : L9.wrong = L1.wrong := by rw [hset]; rfl
      have hq2 : L9.got = L1.got := by rw [hset]; rfl
      have hq3 : L9.sent = L1.sent := by rw [hset]; rfl
      have HQ1 := Lib.hid hq1
      have HQ2 := Lib.hid hq2
      have HQ3 := Lib.hid hq3
      clear ht10 HL9 hset hq1 hq2 hq3
      go_wp2_with fail
      refine (lg_wrong HL10.out.fst).mono ?_
      rintro e w11 ⟨rfl, rfl⟩
      go_wp2_with fail
      refine (lg_wrong HL10.out.snd).mono ?_
      rintro e w11 ⟨rfl, rfl⟩
      rw [HQ1.out]
      go_wp2_with fail
      refine (lg_got HL10.out.fst).mono ?_
      rintro e w11 ⟨rfl, rfl⟩
      go_wp2_with fail
      refine (lg_got HL10.out.snd).mono ?_
      rintro e w11 ⟨rfl, rfl⟩
      rw [HQ2.out]
      obtain ⟨gt, hgt⟩ : ∃ x, x = L1.got := ⟨_, rfl⟩
      rw [← hgt]
      clear hgt
      cases gt
      all_goals
        go_wp2_with fail
        refine (lg_sent HL10.out.fst).mono ?_
        rintro e w11 ⟨rfl, rfl⟩
        go_wp2_with fail
        refine (lg_sent HL10.out.snd).mono ?_
        rintro e w11 ⟨rfl, rfl⟩
        rw [HQ3.out]
        obtain ⟨sn, hsn⟩ : ∃ x, x = L1.sent := ⟨_, rfl⟩
        rw [← hsn]
        clear hsn
        cases sn
        all_goals
          go_wp2_with fail
          go_ret
          exact ⟨rfl, HTF.out⟩
end Go.Proofs.Ytpadlcllcmodaaa
/- Events as arguments. -/
namespace Go.Proofs.Ytpadlcllcmodaaa
open Go.RowKit
set_option linter.unusedSimpArgs false
set_option linter.unusedVariables false
def Ev.good (e : Ev) : Prop := (Lit.int .i64 e.op).wf = true ∧ (Lit.int .i64 e.code).wf = true ∧ e.data.size ≤ maxLen
instance : Inhabited Ev := ⟨Ev.zero⟩
theorem dec_ev : Dec 47 Ev.cs Ev.good :=
  (dec_trip 1 1 1 Try.underlying47 rfl rfl rfl (by kernel_rfl) (by kernel_rfl) (by kernel_rfl) (by kernel_rfl) (dec_int Try.underlying3) (dec_int Try.underlying3) (dec_string Try.underlying9)).iso
    (fun x => ⟨x.1, x.2.1, x.2.2⟩) (fun _ => rfl) (fun _ h => h)
theorem open_evs {H : Type} {enc : TypeId × Value → H} {w : World} {base : Nat} {spare : Nat → Bool} {held : Bool} {A : Option Addr} {len cap : Nat} {d : DataW H} {p : List MemPlace}
    (h : DataW.Trod enc Try.prog w base spare held 34 (.slice A len cap) d p) : ∃ l : List Ev, l.length = len ∧ Rd w A (evCells l) ∧ (∀ x ∈ l, x.good) ∧ len ≤ cap ∧ cap ≤ maxLen :=
  open_rd 3 (fun _ => rfl) (by omega) Try.underlying34 (by kernel_rfl) dec_ev h
end Go.Proofs.Ytpadlcllcmodaaa
