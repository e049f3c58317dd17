/- stream: look in one; rows of frames; the function that Feed calls. -/
import Derived.Test.YtpadlcllcmodaaaY19
import Derived.Test.YtpadlcllcmodaaaY20
import Derived.Test.YtpadlcllcmodaaaY05
import Derived.Test.YtpadlcllcmodaaaY07
import Derived.Deep.RegionLawGrows
/- stream: look in one; rows of frames; the function that Feed calls. -/
namespace Go.Proofs.Ytpadlcllcmodaaa
open Go.RowKit
set_option linter.unusedSimpArgs false
set_option linter.unusedVariables false

theorem s_look (g : Nat) (mk : Bool) (most : Int) (A : Option Addr) (l : List Int) (n cap : Nat) (hn : l.length = n) (er : Int) (w : World)
    (hb : Blk w g 93 (stCells mk most (.slice A n cap) er)) (hr : Rd w A (u8s l)) (hin : bytesIn l) (hlc : n ≤ cap) (hcm : cap ≤ maxLen) (hl2 : n ≤ 70368744177664) (hm : (Lit.int .i64 most).wf = true) :
    Calls Try.prog 48 #[.pointer (some ⟨g, 0, none⟩)] w fun e w' => e = .returned (.tuple #[.agg (slook mk most l).1.cs, .int .i64 (slook mk most l).2.1, .int .i64 (slook mk most l).2.2]) ∧ Touch NoS w w' := by
  by_cases h : 1 < n
  · obtain ⟨gA, off, rfl, _⟩ := hr (by intro h'; have := congrArg List.length h'; simp [u8s] at this; rw [this] at hn; simp at hn; omega)
    exact s_look_long g mk most gA off l n cap hn er w hb hr hin hlc hcm h hl2 hm
  · have hs : slook mk most l = fget l most := by
      unfold slook
      rw [if_neg (fun h' => h (by omega)), if_neg (fun h' => h (by omega))]
    rw [hs]
    exact s_look_short g mk most A l n cap hn er w hb hr hin hlc hcm (by omega) hm

/-- What the function that Feed calls works on. -/
structure Fed (w0 : World) (S : Nat → Prop) (base g B1 B2 : Nat) (mk : Bool) (most : Int) (w : World) (fs : List Fr) (part : List Int) (er : Int) : Prop where
  ptr : Blk w B1 65 #[.pointer (some ⟨g, 0, none⟩)]
  st : ∃ v, Blk w g 93 (stCells mk most v er) ∧ w.ownsRow base 5 1 v part.length (u8s part) ∧ (∀ b, v.ownBlock = some b → S b ∨ w0.heap.size ≤ b)
  out : ∃ v, Blk w B2 54 #[v] ∧ w.ownsRow w0.heap.size 59 8 v fs.length (frs fs)
  touch : Touch S w0 w

set_option maxHeartbeats 3200000 in
set_option maxRecDepth 100000 in
theorem s_take_more (w0 : World) (S : Nat → Prop) (base g B1 B2 : Nat) (mk : Bool) (most : Int) (hm : (Lit.int .i64 most).wf = true) (w : World) (fs : List Fr) (part : List Int) (hin : bytesIn part) (hl : part.length ≤ 1000000)
    (h : Fed w0 S base g B1 B2 mk most w fs part 0) (he : (slook mk most part).2.2 = 90) :
    Calls Try.prog 47 #[.pointer (some ⟨B1, 0, none⟩), .pointer (some ⟨B2, 0, none⟩)] w fun e w' => e = .returned (.bool false) ∧ Fed w0 S base g B1 B2 mk most w' fs part 0 := by
  obtain ⟨hp, ⟨v, hb, ho, hlo⟩, ⟨v2, hb2, ho2⟩, ht⟩ := h
  have HLO := Lib.hid hlo
  clear hlo
  obtain ⟨A, c, rfl, hlc, hcm, hrd, _, _⟩ := own_cases ho
  have HLK := Lib.hid (s_look g mk most A part part.length c rfl 0 w hb hrd hin hlc hcm (by omega) hm)
  obtain ⟨f, n, e, hS⟩ : ∃ f n e, slook mk most part = (f, n, e) := ⟨_, _, _, rfl⟩
  rw [hS] at HLK he
  simp only at HLK he
  subst he
  have p0 := hp.cell 0
  simp at p0
  have plt := hp.lt
  have HP := Lib.hid hp
  have HB := Lib.hid hb
  have HO := Lib.hid ho
  have HB2 := Lib.hid hb2
  have HO2 := Lib.hid ho2
  have HT := Lib.hid ht
  clear hp hb ho hb2 ho2 ht hrd hm hin hS hlc hcm
  obtain ⟨fin, op, masked, k0, k1, k2, k3, d⟩ := f
  simp only [Fr.cs] at HLK
  go_enter Try.func47, Try.ntmps47
  go_wp2_with fail
  refine HLK.out.mono ?_
  rintro e w1 ⟨rfl, ht⟩
  go_wp2
  go_ret
  refine ⟨rfl, ⟨(HP.out.touch ht (fun h => h)).alloc _, ⟨_, (HB.out.touch ht (fun h => h)).alloc _, (own_no HO.out (ht.alloc _)), HLO.out⟩, ⟨_, (HB2.out.touch ht (fun h => h)).alloc _, (own_no HO2.out (ht.alloc _))⟩, (HT.out.trans ht.of_no).alloc _⟩⟩

set_option maxHeartbeats 3200000 in
set_option maxRecDepth 100000 in
theorem s_take_bad (w0 : World) (S : Nat → Prop) (base g B1 B2 : Nat) (hSg : S g) (mk : Bool) (most : Int) (hm : (Lit.int .i64 most).wf = true) (w : World) (fs : List Fr) (part : List Int) (hin : bytesIn part) (hl : part.length ≤ 1000000)
    (h : Fed w0 S base g B1 B2 mk most w fs part 0) (er : Int) (hee : (slook mk most part).2.2 = er) (he0 : er ≠ 0) (he : er ≠ 90) :
    Calls Try.prog 47 #[.pointer (some ⟨B1, 0, none⟩), .pointer (some ⟨B2, 0, none⟩)] w fun e w' => e = .returned (.bool false) ∧ Fed w0 S base g B1 B2 mk most w' fs [] er := by
  obtain ⟨hp, ⟨v, hb, ho, hlo⟩, ⟨v2, hb2, ho2⟩, ht⟩ := h
  have HLO := Lib.hid hlo
  clear hlo
  obtain ⟨A, c, rfl, hlc, hcm, hrd, _, _⟩ := own_cases ho
  have HLK := Lib.hid (s_look g mk most A part part.length c rfl 0 w hb hrd hin hlc hcm (by omega) hm)
  obtain ⟨f, n, e, hS⟩ : ∃ f n e, slook mk most part = (f, n, e) := ⟨_, _, _, rfl⟩
  rw [hS] at HLK hee
  simp only at HLK hee
  subst hee
  have q0 : (e == 0) = false := by rw [beq_eq_false_iff_ne]; exact he0
  have q1 : (e != 90) = true := by rw [bne_iff_ne]; exact he
  have HP := Lib.hid hp
  have HB := Lib.hid hb
  have HB2 := Lib.hid hb2
  have HO2 := Lib.hid ho2
  have HT := Lib.hid ht
  have p0 := hp.cell 0
  simp at p0
  have plt := hp.lt
  clear hp hb ho hb2 ho2 ht hrd hm hin hS hlc hcm
  obtain ⟨fin, op, masked, k0, k1, k2, k3, d⟩ := f
  simp only [Fr.cs] at HLK
  go_enter Try.func47, Try.ntmps47
  go_wp2_with fail
  refine HLK.out.mono ?_
  rintro e' w1 ⟨rfl, ht⟩
  have hp1 := HP.out.touch ht (fun h => h)
  have hb1 := HB.out.touch ht (fun h => h)
  have p0 := hp1.cell 0
  have b2 := hb1.cell 2
  have b3 := hb1.cell 3
  have f2 := hb1.frozen 2
  have f3 := hb1.frozen 3
  have plt := hp1.lt
  have glt := hb1.lt
  simp [stCells] at p0 b2 b3
  clear hp1 hb1
  go_wp2_with fail
  go_region
  go_wp2
  go_ret
  have hp1 := HP.out.touch ht (fun h => h)
  have hb1 := HB.out.touch ht (fun h => h)
  have hb21 := HB2.out.touch ht (fun h => h)
  have ho21 := own_no HO2.out ht
  have n1 : B1 ≠ g := hp1.ne_ hb1 (by decide)
  have n2 : B2 ≠ g := hb21.ne_ hb1 (by decide)
  refine ⟨rfl, ⟨(((hp1.far n1 _).far n1 _).alloc _).drew, ⟨.slice none 0 0, (((hb1.set_ 3 _).set_ 2 _).alloc _).drew, own_nil _ _ _ _, fun b h => (by cases h)⟩, ⟨v2, (((hb21.far n2 _).far n2 _).alloc _).drew, ?_⟩, ?_⟩⟩
  · exact own_no (own_far (own_far ho21 hb1 (by decide) _ _) (hb1.set_ 3 _) (by decide) _ _) ((Touch.refl _ _).alloc _).drew
  · exact ((((HT.out.trans ht.of_no).setCell (p := ⟨g, 3, none⟩) (fun _ => hSg) _).setCell (p := ⟨g, 2, none⟩) (fun _ => hSg) _).alloc _).drew

set_option maxHeartbeats 6400000 in
set_option maxRecDepth 100000 in
theorem s_take_ok (w0 : World) (S : Nat → Prop) (base g B1 B2 : Nat) (hSg : S g) (hB2 : w0.heap.size ≤ B2) (hbs : base ≤ w0.heap.size) (mk : Bool) (most : Int) (hm : (Lit.int .i64 most).wf = true) (w : World) (fs : List Fr) (part : List Int) (hin : bytesIn part) (hl : part.length ≤ 1000000) (hf : fs.length ≤ 1000000)
    (h : Fed w0 S base g B1 B2 mk most w fs part 0) (f : Fr) (n : Nat) (hS : slook mk most part = (f, n, 0)) :
    Calls Try.prog 47 #[.pointer (some ⟨B1, 0, none⟩), .pointer (some ⟨B2, 0, none⟩)] w fun e w' => e = .returned (.bool true) ∧ Fed w0 S base g B1 B2 mk most w' (fs ++ [f]) (part.drop n) 0 := by
  obtain ⟨hp, ⟨v, hb, ho, hlo⟩, ⟨v2, hb2, ho2⟩, ht⟩ := h
  have HLO := Lib.hid hlo
  clear hlo
  obtain ⟨A, c, rfl, hlc, hcm, hrd, _, hAz⟩ := own_cases ho
  obtain ⟨A2, c2, rfl, hlc2, hcm2, hrd2, _, _⟩ := own_cases ho2
  have h2 := slook_two hin (by unfold maxLen; omega) (show (slook mk most part).2.2 = 0 by rw [hS])
  rw [hS] at h2
  simp only at h2
  obtain ⟨n2, hnl⟩ := h2
  have HLK := Lib.hid (s_look g mk most A part part.length c rfl 0 w hb hrd hin hlc hcm (by omega) hm)
  rw [hS] at HLK
  simp only at HLK
  obtain ⟨gp, off, rfl, hgp, _⟩ := hrd (by intro h'; have := congrArg List.length h'; simp [u8s] at this; rw [this] at hnl; simp at hnl; omega)
  obtain rfl : off = 0 := (hAz _ rfl).2.1
  obtain ⟨N, hN⟩ : ∃ N, N = part.length := ⟨_, rfl⟩
  have HN := Lib.hid hN
  rw [← hN] at hb ho hlc hnl hl
  obtain ⟨F, hF⟩ : ∃ F, F = fs.length := ⟨_, rfl⟩
  have HF := Lib.hid hF
  rw [← hF] at hb2 ho2 hf
  have HFC : Hid (f.cl.length = 1 * 8) := rfl
  have HFO : Hid (∀ u ∈ f.cl, u.oneCell' = true) := by have := frs_one [f]; rw [frs_single] at this; exact this
  have HFF : Hid (frs fs ++ f.cl = frs (fs ++ [f])) := by show frs fs ++ f.cl = frs (fs ++ [f]); rw [frs_append, frs_single]
  have hw0 := ht.size
  have HBS : Hid (w0.heap.size ≤ w.heap.size) := ht.size
  have hcmm : c ≤ 9223372036854775807 := by unfold maxLen at hcm; omega
  have HRD := Lib.hid hrd
  have HP := Lib.hid hp
  have HB := Lib.hid hb
  have HO := Lib.hid ho
  have HB2 := Lib.hid hb2
  have HO2 := Lib.hid ho2
  have HT := Lib.hid ht
  have p0 := hp.cell 0
  simp at p0
  have plt := hp.lt
  clear hp hb ho hb2 ho2 ht hrd hrd2 hm hin hS hcm hN hF hAz hw0
  obtain ⟨i, hi, hz0, hz1, hz2⟩ := info_parts info_fr
  obtain ⟨fin, op, masked, k0, k1, k2, k3, d⟩ := f
  simp only [Fr.cs] at HLK
  go_enter Try.func47, Try.ntmps47
  go_wp2_with fail
  refine HLK.out.mono ?_
  rintro e w1 ⟨rfl, ht⟩
  have hp1 := HP.out.touch ht (fun h => h)
  have hb1 := HB.out.touch ht (fun h => h)
  have hb21 := HB2.out.touch ht (fun h => h)
  have HO21 := Lib.hid (own_no HO2.out ht)
  have HO1 := Lib.hid (own_no HO.out ht)
  have HT1 := Lib.hid (HT.out.trans ht.of_no)
  have hs1 : w0.heap.size ≤ w1.heap.size := Nat.le_trans HBS.out ht.size
  have p0 := hp1.cell 0
  have q0 := hb21.cell 0
  have qf := hb21.frozen 0
  have plt := hp1.lt
  have qlt := hb21.lt
  simp at p0 q0
  have HP1 := Lib.hid hp1
  have HB1 := Lib.hid hb1
  have HB21 := Lib.hid hb21
  have HRN : Hid (Rd ((w1.alloc (.cells (Fr.cl ⟨fin, op, masked, k0, k1, k2, k3, d⟩).toArray 59)).alloc (.cells (Fr.cl ⟨fin, op, masked, k0, k1, k2, k3, d⟩).toArray 59)) (some ⟨w1.heap.size + 1, 0, none⟩) (Fr.cl ⟨fin, op, masked, k0, k1, k2, k3, d⟩)) := by
    have := Rd.new (w1.alloc (.cells (Fr.cl ⟨fin, op, masked, k0, k1, k2, k3, d⟩).toArray 59)) (Fr.cl ⟨fin, op, masked, k0, k1, k2, k3, d⟩) 59 (0, 0)
    rw [show (w1.alloc (.cells (Fr.cl ⟨fin, op, masked, k0, k1, k2, k3, d⟩).toArray 59)).heap.size = w1.heap.size + 1 from by simp] at this
    exact this
  clear ht hp1 hb1 hb21 HP HB HB2 HO HO2 HT HLK
  go_wp2_with (at_builtin; refine wpList_app_row _ rfl (.tmp 14) (.tmp 16) 54 rfl w0.heap.size 59 i _ 8 40 Try.underlying54 hi hz0 hz1 hz2 rfl (by decide) _ F (frs fs) rfl (own_no HO21.out (((Touch.refl _ _).alloc _).alloc _)) (some ⟨w1.heap.size + 1, 0, none⟩) 1 1 (Fr.cl ⟨fin, op, masked, k0, k1, k2, k3, d⟩) rfl HFC.out HRN.out HFO.out (by unfold maxLen; omega) (by omega) (by simp; omega) ?_)
  intro v2' w2 ho hgr _
  have hon := own_no HO21.out (((Touch.refl NoS _).alloc (.cells (Fr.cl ⟨fin, op, masked, k0, k1, k2, k3, d⟩).toArray 59)).alloc (.cells (Fr.cl ⟨fin, op, masked, k0, k1, k2, k3, d⟩).toArray 59))
  have hpn := (HP1.out.alloc (.cells (Fr.cl ⟨fin, op, masked, k0, k1, k2, k3, d⟩).toArray 59)).alloc (.cells (Fr.cl ⟨fin, op, masked, k0, k1, k2, k3, d⟩).toArray 59)
  have hbn := (HB1.out.alloc (.cells (Fr.cl ⟨fin, op, masked, k0, k1, k2, k3, d⟩).toArray 59)).alloc (.cells (Fr.cl ⟨fin, op, masked, k0, k1, k2, k3, d⟩).toArray 59)
  have hbn2 := (HB21.out.alloc (.cells (Fr.cl ⟨fin, op, masked, k0, k1, k2, k3, d⟩).toArray 59)).alloc (.cells (Fr.cl ⟨fin, op, masked, k0, k1, k2, k3, d⟩).toArray 59)
  have hop := own_no HO1.out (((Touch.refl NoS _).alloc (.cells (Fr.cl ⟨fin, op, masked, k0, k1, k2, k3, d⟩).toArray 59)).alloc (.cells (Fr.cl ⟨fin, op, masked, k0, k1, k2, k3, d⟩).toArray 59))
  have hp2 := hpn.grown hgr (own_ne hon hpn (by decide))
  have hb2 := hbn.grown hgr (own_ne hon hbn (by decide))
  have hb22 := hbn2.grown hgr (own_ne hon hbn2 (by decide))
  have ho2 := own_apart hop hon (by decide) hgr
  have ht2 : Touch S w0 w2 := ((HT1.out.alloc _).alloc _).grown hgr (fun k hk hl => absurd (own_base hon hk) (by omega))
  obtain ⟨g2, c2', rfl, _, _⟩ := own_out ho (by omega)
  have HP2 := Lib.hid hp2
  have HB2 := Lib.hid hb2
  have HB22 := Lib.hid hb22
  have HO2 := Lib.hid ho2
  have HO22 := Lib.hid ho
  have HT2 := Lib.hid ht2
  have q0 := hb22.cell 0
  have qf := hb22.frozen 0
  have qlt := hb22.lt
  simp at q0
  clear hon hpn hbn hbn2 hop hp2 hb2 hb22 ho2 ho ht2 hgr HP1 HB1 HB21 HO1 HO21 HT1 hs1 p0 plt HRN
  go_wp2_with fail
  have hn1 : B1 ≠ B2 := HP2.out.ne_ HB22.out (by decide)
  have hn2 : g ≠ B2 := HB2.out.ne_ HB22.out (by decide)
  obtain ⟨w3, hw3⟩ : ∃ w3, w3 = w2.setCell ⟨B2, 0, none⟩ (.slice (some ⟨g2, 0, none⟩) (F + 1) c2') := ⟨_, rfl⟩
  rw [← hw3]
  have hp3 : Blk w3 B1 65 #[.pointer (some ⟨g, 0, none⟩)] := by rw [hw3]; exact HP2.out.far hn1 _
  have hb3 : Blk w3 g 93 (stCells mk most (.slice (some ⟨gp, 0, none⟩) N c) 0) := by rw [hw3]; exact HB2.out.far hn2 _
  have HB23 : Hid (Blk w3 B2 54 #[.slice (some ⟨g2, 0, none⟩) (F + 1) c2']) := by rw [hw3]; exact HB22.out.set_ 0 _
  have ho3 : w3.ownsRow base 5 1 (.slice (some ⟨gp, 0, none⟩) N c) N (u8s part) := by rw [hw3]; exact own_far HO2.out HB22.out (by decide) _ _
  have HO23 : Hid (w3.ownsRow w0.heap.size 59 8 (.slice (some ⟨g2, 0, none⟩) (F + 1) c2') (F + 1) (frs fs ++ (Fr.cl ⟨fin, op, masked, k0, k1, k2, k3, d⟩))) := by rw [hw3]; exact own_far HO22.out HB22.out (by decide) _ _
  have HT3 : Hid (Touch S w0 w3) := by rw [hw3]; exact HT2.out.setNew (p := ⟨B2, 0, none⟩) hB2 _
  have p0 := hp3.cell 0
  have b2 := hb3.cell 2
  have f2 := hb3.frozen 2
  have plt := hp3.lt
  have glt := hb3.lt
  simp [stCells] at p0 b2
  have HP3 := Lib.hid hp3
  have HB3 := Lib.hid hb3
  obtain ⟨A5, c5, hv5, _, _, hrd, _, _⟩ := own_cases ho3
  injection hv5 with e5 _ e6
  subst e5 e6
  have hw03 := HT3.out.size
  have HRW := Lib.hid (rd_window hrd n N)
  have HNL : Hid (N - n = (part.drop n).length) := by show N - n = (part.drop n).length; rw [List.length_drop, ← HN.out]
  have HTK : Hid ((part.take N).drop n = part.drop n) := by show (part.take N).drop n = part.drop n; rw [HN.out, List.take_length]
  clear hw3 hp3 hb3 ho3 HP2 HB2 HB22 HO2 HO22 HT2 qf qlt q0 hrd HRD
  obtain ⟨j, hj, hy0, hy1, hy2⟩ := info_u8
  by_cases hcn : c = n
  · have hnN : n = N := by omega
    subst hnN
    subst hcn
    have hdr : part.drop c = [] := List.drop_eq_nil_of_le (by rw [← HN.out]; exact Nat.le_refl _)
    have HDR := Lib.hid hdr
    clear hdr
    go_region_law (first
      | (refine step_app_row _ rfl (.const (.slice none 0 0)) (.tmp 24) 36 rfl w0.heap.size 5 j _ 1 1 Try.underlying36 hj hy0 hy1 hy2 rfl (by decide) (.slice none 0 0) 0 [] rfl (own_nil _ _ _ _) (some ⟨gp, 0, none⟩) 0 0 (u8s []) (by simp [Act.eval, Act.put]) rfl (Rd_nil _ _) (u8s_one _) (by unfold maxLen; omega) (by omega) (by simp; omega) ?_
         intro v' w4 ho hgr _
         obtain ⟨A4, c4, rfl, _, _, _, _, _⟩ := own_cases ho
         have hb4 := HB3.out.drew.grown hgr (by simp [Value.ownBlock])
         have hp4 := HP3.out.drew.grown hgr (by simp [Value.ownBlock])
         have p0 := hp4.cell 0
         have b2 := hb4.cell 2
         have f2 := hb4.frozen 2
         have plt := hp4.lt
         have glt := hb4.lt
         simp [stCells] at p0 b2
         have HB4 := Lib.hid hb4
         have HP4 := Lib.hid hp4
         have HO4 := Lib.hid ho
         have HGR := Lib.hid hgr
         clear hb4 hp4 ho hgr))
    all_goals
      go_wp2
      go_ret
      have hn3 : B1 ≠ g := HP4.out.ne_ HB4.out (by decide)
      have hb24 := HB23.out.drew.grown HGR.out (by simp [Value.ownBlock])
      have hn4 : B2 ≠ g := hb24.ne_ HB4.out (by decide)
      have ht34 : Touch NoS w3 w4 := (Touch.refl NoS w3).drew.grown HGR.out (by intro k hk; simp [Value.ownBlock] at hk)
      refine ⟨rfl, ⟨HP4.out.far hn3 _, ⟨_, HB4.out.set_ 2 _, ?_, fun b hb => .inr (own_base (b := b) HO4.out (by simpa [Value.ownBlock] using hb))⟩, ⟨_, hb24.far hn4 _, ?_⟩, (HT3.out.trans ht34.of_no).setCell (p := ⟨g, 2, none⟩) (fun _ => hSg) _⟩⟩
      · have h := own_far (own_lower HO4.out hbs) HB4.out (by decide) 2 (.slice A4 0 c4)
        rw [HDR.out]
        exact h
      · rw [List.length_append, ← HF.out, ← HFF.out]
        exact own_far (own_no HO23.out ht34) HB4.out (by decide) _ _
  · have hcn' : (c == n) = false := by rw [beq_eq_false_iff_ne]; exact hcn
    have i1 : (n : Int) ≤ N := by omega
    have i2 : (n : Int) ≤ c := by omega
    have HX : Hid (Rd w3.drew (some ⟨gp, 0 + n, none⟩) (u8s (part.drop n))) := by have := HRW.out; rw [HTK.out] at this; exact this
    go_region_law (first
      | (refine step_app_row _ rfl (.const (.slice none 0 0)) (.tmp 24) 36 rfl w0.heap.size 5 j _ 1 1 Try.underlying36 hj hy0 hy1 hy2 rfl (by decide) (.slice none 0 0) 0 [] rfl (own_nil _ _ _ _) (some ⟨gp, n, none⟩) (N - n) (c - n) (u8s (part.drop n)) (by simp [Act.eval, Act.put]) (by rw [u8s_length, HNL.out, Nat.mul_one]) (by have := HX.out; rw [Nat.zero_add] at this; exact this) (u8s_one _) (by unfold maxLen; omega) (by omega) (by simp; omega) ?_
         intro v' w4 ho hgr _
         obtain ⟨A4, c4, rfl, _, _, _, _, _⟩ := own_cases ho
         have hb4 := HB3.out.drew.grown hgr (by simp [Value.ownBlock])
         have hp4 := HP3.out.drew.grown hgr (by simp [Value.ownBlock])
         have p0 := hp4.cell 0
         have b2 := hb4.cell 2
         have f2 := hb4.frozen 2
         have plt := hp4.lt
         have glt := hb4.lt
         simp [stCells] at p0 b2
         have HB4 := Lib.hid hb4
         have HP4 := Lib.hid hp4
         have HO4 := Lib.hid ho
         have HGR := Lib.hid hgr
         clear hb4 hp4 ho hgr))
    all_goals
      go_wp2
      go_ret
      have hn3 : B1 ≠ g := HP4.out.ne_ HB4.out (by decide)
      have hb24 := HB23.out.drew.grown HGR.out (by simp [Value.ownBlock])
      have hn4 : B2 ≠ g := hb24.ne_ HB4.out (by decide)
      have ht34 : Touch NoS w3 w4 := (Touch.refl NoS w3).drew.grown HGR.out (by intro k hk; simp [Value.ownBlock] at hk)
      refine ⟨rfl, ⟨HP4.out.far hn3 _, ⟨_, HB4.out.set_ 2 _, ?_, fun b hb => .inr (own_base (b := b) HO4.out (by simpa [Value.ownBlock] using hb))⟩, ⟨_, hb24.far hn4 _, ?_⟩, (HT3.out.trans ht34.of_no).setCell (p := ⟨g, 2, none⟩) (fun _ => hSg) _⟩⟩
      · have h := own_far (own_lower HO4.out hbs) HB4.out (by decide) 2 (.slice A4 (N - n) c4)
        rw [Nat.zero_add, List.nil_append] at h
        rw [← HNL.out]
        exact h
      · rw [List.length_append, ← HF.out, ← HFF.out]
        exact own_far (own_no HO23.out ht34) HB4.out (by decide) _ _
end Go.Proofs.Ytpadlcllcmodaaa
