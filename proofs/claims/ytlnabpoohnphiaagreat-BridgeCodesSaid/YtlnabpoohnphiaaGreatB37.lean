/- bridge: hear: a byte on a side. | bridge: Feed. | route.Check on the sessions' configuration. -/
import Derived.Test.YtlnabpoohnphiaaGreatB36
import Derived.Test.YtlnabpoohnphiaaGreatB17
import Derived.Test.YtlnabpoohnphiaaGreatB24
/- bridge: hear: a byte on a side. -/
namespace Go.Proofs.YtlnabpoohnphiaaGreat
open Go.RowKit
set_option linter.unusedSimpArgs false
set_option linter.unusedVariables false

section
variable {E : Nat → Prop} {w w' : World} {g : Nat} {X : Bx} {K : Bk} {gl gq : Bool → Nat} {B B' : Br}
theorem putI_putL (K : Bk) (l : List Ev) (e : Ev) : (⟨K.count, K.bytes, l⟩ : Qm).putI e = ⟨K.count, K.bytes, putL K l e⟩ := by
  unfold Qm.putI putL roomL
  rw [Qm.room_eq]
  split
  · rfl
  · rfl
/-- An event is put. -/
theorem Sett.qput {w0 : World} (h : Sett E w0 w g X K gl gq B) (i : Bool) (e : Ev) : Calls Tryz.prog 60 #[.pointer (some ⟨gq i, 0, none⟩), e.val] w fun x w' => (∃ r, x = .returned (.bool r)) ∧ Sett E w0 w' g X K gl gq (B.set i { B i with q := putL K (B i).q e }) ∧ ByT BrT w w' := by
  obtain ⟨A9, c9, hb9, -⟩ := h.is.q i
  refine (q_put (gq i) _ e w (h.is.q i)).mono ?_
  rintro x w' ⟨rfl, h1, ht⟩
  rw [putI_putL] at h1
  have hby : ByT BrT w w' := ByT.at_ (T := BrT) ht hb9 (.inr (.inl rfl))
  exact ⟨⟨_, rfl⟩, h.trans (h.is.que h1 ht) (ht.mono fun b (hb : b = gq i) => by subst hb; exact h.is.newq i) hby, hby⟩
theorem Sett.endB {w0 : World} (h : Sett E w0 w g X K gl gq B) (i : Bool) (j : Nat) (hj : i.toNat = j) (code : Int) : Calls Tryz.prog 61 #[.pointer (some ⟨g, 12 + j * 7, none⟩), .int .i64 code] w fun e w' => e = .returned (.tuple #[]) ∧ Sett E w0 w' g X K gl gq (B.set i ((B i).end_ code)) ∧ ByT BrT w w' := by
  subst hj
  refine (s_end h.is i code).mono ?_
  rintro e w' ⟨rfl, h1, ht⟩
  have hby : ByT BrT w w' := ByT.at_ (T := BrT) ht h.is.blk (.inr (.inr rfl))
  exact ⟨rfl, h.trans h1 (ht.mono fun b (hb : b = g) => by subst hb; exact h.is.new) hby, hby⟩
theorem Row.byT {T : TypeId → Prop} {w w' : World} {e : TypeId} {A : Option Addr} {xs : List Value} (hr : Row w e A xs) (k : ByT T w w') (he : ¬ T e) : Row w' e A xs := k.row hr he
set_option maxHeartbeats 12800000 in
set_option maxRecDepth 100000 in
theorem b_hear (h : IsB E w g X K gl gq B) {n : Nat} {t : Int} (hI : BrI K n t B) (hK : Kfits K) (h0t : 0 ≤ t) (hn : n ≤ 100000) (i : Bool) (j : Nat) (hj : i.toNat = j) (c : Int) (hc : 0 ≤ c ∧ c ≤ 255) :
    Calls Tryz.prog 40 #[.pointer (some ⟨g, 0, none⟩), .int .i64 j, .int .u8 c] w fun e w' => e = .returned (.tuple #[]) ∧ Sett E w w' g X K gl gq (B.hear K i c) := by
  have hil : (j : Int) < 2 := by rw [← hj]; exact i_lt i
  obtain ⟨j', hj'⟩ : ∃ x, x = (!i).toNat := ⟨_, rfl⟩
  have hjj : j + j' = 1 := by rw [hj', ← hj]; exact other_nat i
  have hil' : (j' : Int) < 2 := by omega
  have hw1 : IntKind.i64.wrap (1 - (j : Int)) = (j' : Int) := by rw [IntWalk.i64_in _ (by omega)]; omega
  obtain ⟨c0, -, -, -, c4, c5, -, cl⟩ := side_cells h i j hj
  have f4 := h.blk.frozen (12 + j * 7 + 4)
  have f5 := h.blk.frozen (12 + j * 7 + 5)
  obtain ⟨R, hR⟩ : ∃ R, R = (B i).leg.feed (K.k i) [c] := ⟨_, rfl⟩
  obtain ⟨B1, hB1⟩ : ∃ x, x = B.set i { B i with heard := 0, asked := false, leg := R.1 } := ⟨_, rfl⟩
  have hHE : B.hear K i c = (if R.1.wrong ≠ 0 then (R.2.foldl (Br.told K i) B1).set (!i) (((R.2.foldl (Br.told K i) B1) (!i)).end_ 1001) else R.2.foldl (Br.told K i) B1).settle K := by
    unfold Br.hear Br.hearL
    rw [hB1, hR]
  have hbin : bytesIn [c] := fun x hx => by simp at hx; rw [hx]; exact hc
  have hI1 : BrI K n t B1 := by
    have hs := hI.side i
    rw [hB1, hR]
    exact hI.set i ⟨hs.leg.feed (hK.k i) [c] hbin (by simp), hs.q, ⟨Int.le_refl _, h0t⟩, hs.ending, hs.last⟩
  have HFD : Hid (∀ W hh, Touch NoS w W → hh = W.heap.size → Calls Tryz.prog 59 #[.pointer (some ⟨gl i, 0, none⟩), .slice (some ⟨hh, 0, none⟩) 1 1] (((W.setCell ⟨g, 12 + j * 7 + 4, none⟩ (.int .i64 0)).setCell ⟨g, 12 + j * 7 + 5, none⟩ (.bool false)).alloc (.cells #[.int .u8 c] 5)) fun e w' => ∃ A cc, e = .returned (.slice A R.2.length cc) ∧ Row w' 37 A (evCells R.2) ∧ R.2.length ≤ cc ∧ cc ≤ maxLen ∧ Sett E w w' g X K gl gq B1) := fun W hh tw he => by
    subst he
    have s1 := ((Sett.start h).no tw).store i 4 j hj (.int .i64 0) { B i with heard := 0 } (by cases i <;> rfl) rfl rfl
    have s2 := s1.store i 5 j hj (.bool false) { B i with heard := 0, asked := false } (by cases i <;> rfl) (by cases i <;> rfl) (by cases i <;> rfl)
    rw [Br.set_set] at s2
    have s3 := s2.no ((Touch.refl _ _).alloc (.cells #[.int .u8 c] 5))
    have hrd : Rd (((W.setCell ⟨g, 12 + j * 7 + 4, none⟩ (.int .i64 0)).setCell ⟨g, 12 + j * 7 + 5, none⟩ (.bool false)).alloc (.cells #[.int .u8 c] 5)) (some ⟨W.heap.size, 0, none⟩) (u8s [c]) := by
      have := Rd.new ((W.setCell ⟨g, 12 + j * 7 + 4, none⟩ (.int .i64 0)).setCell ⟨g, 12 + j * 7 + 5, none⟩ (.bool false)) (u8s [c]) 5 (0, 0)
      rw [show ((W.setCell ⟨g, 12 + j * 7 + 4, none⟩ (.int .i64 0)).setCell ⟨g, 12 + j * 7 + 5, none⟩ (.bool false)).heap.size = W.heap.size from by simp] at this
      exact this
    have hl := hI.leg i
    have hp := hl.part
    have hct := hl.ctl
    have hm := (hK.k i).msg
    unfold most16 at hp
    have hf := lb_feed i s3.is.legs (by omega) (by simp only [Br.set_same]; exact hl.ok) [c] (some ⟨W.heap.size, 0, none⟩) 1 1 rfl hrd hbin (by simp only [Br.set_same]; omega)
    simp only [Br.set_same] at hf
    rw [← hR] at hf
    refine hf.mono ?_
    rintro e w' ⟨A, cc, rfl, ho, q1, q2, q3⟩
    have hb := s3.is.leg q1 q3
    simp only [Br.set_same, Br.set_set] at hb
    rw [← hB1] at hb
    obtain ⟨A', c', hv, k1, k2, -, -, -⟩ := own_cases ho
    injection hv with e1 _ e2
    subst e1 e2
    exact ⟨A, cc, rfl, Row.of_own ho, k1, k2, s3.trans hb q2 (q3.mono (U := BrT) fun t ht => .inl ht)⟩
  have hlg : ∀ (l : List Ev) (C : Br), ((l.foldl (Br.told K i) C) i).leg = (C i).leg := by
    intro l
    induction l with
    | nil => intro C; rfl
    | cons e l ih =>
      intro C
      rw [List.foldl_cons, ih]
      unfold Br.told
      split
      · rw [Br.set_same]
      split
      · rw [Br.set_at, if_neg (by cases i <;> decide)]
      · rfl
  have hlw : (B1 i).leg = R.1 := by rw [hB1, Br.set_same]
  have hevl : R.2.length ≤ 1000000 := by
    have hl := hI.leg i
    have hp := hl.part
    have hm := (hK.k i).msg
    unfold most16 at hp
    have := Lg.feed_len (K.k i) (B i).leg hl.ok [c] hbin (by simp only [List.length_cons, List.length_nil]; omega)
    rw [← hR] at this
    simp only [List.length_cons, List.length_nil] at this
    omega
  obtain ⟨m, hm⟩ : ∃ m, m = R.2.length := ⟨_, rfl⟩
  obtain ⟨li, hli⟩ : ∃ x, x = gl i := ⟨_, rfl⟩
  rw [← hm] at HFD hevl
  rw [← hli] at c0 HFD
  have HHE := Lib.hid hHE
  have HI1 := Lib.hid hI1
  have HK := Lib.hid hK
  have HLG := Lib.hid hlg
  have HLW := Lib.hid hlw
  have HM := Lib.hid hm.symm
  have HJ := Lib.hid hj
  have HJ' := Lib.hid hj'
  have HLI := Lib.hid hli
  clear h hI hR hB1 hHE hbin hI1 hlg hlw hm hj hj' hli hK
  go_enter Tryz.func40, Tryz.ntmps40
  go_wp2_with fail
  go_quiet (fail)
  go_wp2_with fail
  refine (HFD.out (w.drewN nq) _ ((Touch.refl _ _).drewN _) (by simp)).mono ?_
  rintro e w2 ⟨A, cc, rfl, hrow, hcc, hccm, hs2⟩
  have HS2 := Lib.hid hs2
  have HRW := Lib.hid hrow
  unfold maxLen at hccm
  clear hs2 hrow HFD c0 c4 c5 f4 f5
  go_wp2_with fail
  go_loopw [35] (fun iv wr => ∃ k : Nat, k ≤ m ∧ iv = .int .i64 k ∧ Hid (Sett E w wr g X K gl gq ((R.2.take k).foldl (Br.told K i) B1)) ∧ Hid (BrI K n t ((R.2.take k).foldl (Br.told K i) B1)) ∧ Hid (Row wr 37 A (evCells R.2))) (fun iv _ => m - (intOf iv).toNat)
  case atStart => exact ⟨0, Nat.zero_le _, rfl, HS2.out, HI1.out, HRW.out⟩
  case round =>
    obtain ⟨k, hkm, rfl, hs, hi, hrw⟩ := hrel
    have HS := Lib.hid (show Sett E w wr g X K gl gq ((R.2.take k).foldl (Br.told K i) B1) from hs)
    have HIK := Lib.hid (show BrI K n t ((R.2.take k).foldl (Br.told K i) B1) from hi)
    have HR := Lib.hid (show Row wr 37 A (evCells R.2) from hrw)
    clear hs hi hrw HS2 HRW
    by_cases hlt : k < m
    · have hkl : k < R.2.length := by rw [HM.out]; exact hlt
      obtain ⟨ge, oe, rfl, hge, a0, a1, a2⟩ := ev_cells HR.out.rd k hkl
      have hnx : (R.2.take (k + 1)).foldl (Br.told K i) B1 = Br.told K i ((R.2.take k).foldl (Br.told K i) B1) R.2[k] := by
        rw [← List.take_append_getElem hkl, List.foldl_append]
        rfl
      have HI2 := Lib.hid (HIK.out.told i R.2[k])
      obtain ⟨ev, hev⟩ : ∃ e, e = R.2[k] := ⟨_, rfl⟩
      rw [← hev] at a0 a1 a2 hnx HI2
      rw [← hnx] at HI2
      obtain ⟨Bk1, hBk1⟩ : ∃ x, x = (R.2.take k).foldl (Br.told K i) B1 := ⟨_, rfl⟩
      rw [← hBk1] at HS HIK hnx
      obtain ⟨op, code, data⟩ := ev
      simp only at a0 a1 a2
      have HNX := Lib.hid hnx
      clear hnx hev hBk1
      have hbn : Blk (wr.alloc (.cells #[.int .i64 op, .int .i64 code, .string data] 37)) wr.heap.size 37 #[.int .i64 op, .int .i64 code, .string data] := Blk.new _ _ _
      obtain ⟨w3, hw3⟩ : ∃ w3, w3 = wr.alloc (.cells #[.int .i64 op, .int .i64 code, .string data] 37) := ⟨_, rfl⟩
      obtain ⟨bx, hbx⟩ : ∃ b, b = wr.heap.size := ⟨_, rfl⟩
      have ht3 : Touch NoS wr w3 := by rw [hw3]; exact (Touch.refl _ _).alloc _
      rw [← hw3, ← hbx] at hbn
      have HS3 := Lib.hid (HS.out.no ht3)
      have HR3 := Lib.hid (HR.out.touch_no ht3)
      have HBN := Lib.hid hbn
      have m3 := hbn.cell 0
      have m4 := hbn.cell 1
      have m5 := hbn.cell 2
      have ml := hbn.lt
      simp at m3 m4 m5
      clear hbn ht3 HS HR
      go_upto_region 5 with (fail)
      rw [← hw3, ← hbx]
      clear hw3 hbx a0 a1 a2 hge
      by_cases h12 : op = 1 ∨ op = 2
      · have hnx : (R.2.take (k + 1)).foldl (Br.told K i) B1 = Bk1.set i { Bk1 i with q := putL K (Bk1 i).q ⟨op, code, data⟩ } := by
          rw [HNX.out]
          exact if_pos h12
        have HN2 := Lib.hid hnx
        obtain ⟨-, z1, -, -, -, -, -, zl⟩ := side_cells HS3.out.is i j HJ.out
        have HPU : Hid (∀ W, Touch NoS w3 W → Calls Tryz.prog 60 #[.pointer (some ⟨gq i, 0, none⟩), .agg #[.int .i64 op, .int .i64 code, .string data]] W fun x w' => (∃ r, x = .returned (.bool r)) ∧ Sett E w w' g X K gl gq ((R.2.take (k + 1)).foldl (Br.told K i) B1) ∧ ByT BrT W w') := fun W t => by
          rw [HN2.out]
          exact (HS3.out.no t).qput i ⟨op, code, data⟩
        obtain ⟨qi, hqi⟩ : ∃ x, x = gq i := ⟨_, rfl⟩
        rw [← hqi] at z1 HPU
        have HQI := Lib.hid hqi
        have k1 : w3.drew.cell? ⟨g, 12 + j * 7 + 1, none⟩ = some (.pointer (some ⟨qi, 0, none⟩)) := z1
        have k3 : w3.drew.cell? ⟨bx, 0, none⟩ = some (.int .i64 op) := m3
        have k4 : w3.drew.cell? ⟨bx, 1, none⟩ = some (.int .i64 code) := m4
        have k5 : w3.drew.cell? ⟨bx, 2, none⟩ = some (.string data) := m5
        have kt : Touch NoS w3 w3.drew := (Touch.refl _ _).drew
        have HZC : Hid (∀ W C, Sett E w W g X K gl gq C → W.cell? ⟨g, 12 + j * 7 + 1, none⟩ = some (.pointer (some ⟨qi, 0, none⟩))) := fun W C hs => by
          obtain ⟨-, q1, -⟩ := side_cells hs.is i j HJ.out
          rw [HQI.out]
          exact q1
        clear hnx hqi
        rcases h12 with rfl | rfl
        · go_wp2_with fail
          go_region_held3 (fun w' => w'.cell? ⟨g, 12 + j * 7 + 1, none⟩ = some (.pointer (some ⟨qi, 0, none⟩)) ∧ w'.cell? ⟨bx, 0, none⟩ = some (.int .i64 1) ∧ w'.cell? ⟨bx, 1, none⟩ = some (.int .i64 code) ∧ w'.cell? ⟨bx, 2, none⟩ = some (.string data))
            (first | exact ⟨k1, k3, k4, k5⟩ | exact ⟨y1, y3, y4, y5⟩)
            (first
              | (go_at_call 60; refine (HPU.out _ kt).mono ?_; rintro e w6 ⟨⟨r6, rfl⟩, hs6, hy6⟩; have hby := (ByT.no kt).trans hy6; have y1 := HZC.out _ _ hs6; have hxe := out_box (by decide) (by decide) (by decide) hby HBN.out; have y3 := hxe.cell 0; have y4 := hxe.cell 1; have y5 := hxe.cell 2; simp at y3 y4 y5; have HS6 := Lib.hid hs6; have HR6 := Lib.hid (hby.row HR3.out (brT_not (by decide) (by decide) (by decide))); clear hs6 hy6 hby hxe))
          all_goals
            go_wp2_with fail
            go_roundw
            · exact ⟨k + 1, by omega, by go_num, HS6.out, HI2.out, HR6.out⟩
            · simp [intOf]; omega
        · go_wp2_with fail
          go_region_held3 (fun w' => w'.cell? ⟨g, 12 + j * 7 + 1, none⟩ = some (.pointer (some ⟨qi, 0, none⟩)) ∧ w'.cell? ⟨bx, 0, none⟩ = some (.int .i64 2) ∧ w'.cell? ⟨bx, 1, none⟩ = some (.int .i64 code) ∧ w'.cell? ⟨bx, 2, none⟩ = some (.string data))
            (first | exact ⟨k1, k3, k4, k5⟩ | exact ⟨y1, y3, y4, y5⟩)
            (first
              | (go_at_call 60; refine (HPU.out _ kt).mono ?_; rintro e w6 ⟨⟨r6, rfl⟩, hs6, hy6⟩; have hby := (ByT.no kt).trans hy6; have y1 := HZC.out _ _ hs6; have hxe := out_box (by decide) (by decide) (by decide) hby HBN.out; have y3 := hxe.cell 0; have y4 := hxe.cell 1; have y5 := hxe.cell 2; simp at y3 y4 y5; have HS6 := Lib.hid hs6; have HR6 := Lib.hid (hby.row HR3.out (brT_not (by decide) (by decide) (by decide))); clear hs6 hy6 hby hxe))
          all_goals
            go_wp2_with fail
            go_roundw
            · exact ⟨k + 1, by omega, by go_num, HS6.out, HI2.out, HR6.out⟩
            · simp [intOf]; omega
      · by_cases h8 : op = 8
        · subst h8
          have hnx : (R.2.take (k + 1)).foldl (Br.told K i) B1 = Bk1.set (!i) ((Bk1 (!i)).end_ (across11 code)) := by
            rw [HNX.out]
            exact (if_neg h12).trans (if_pos rfl)
          have HN2 := Lib.hid hnx
          have HAC := Lib.hid (fun W => c_across code W)
          have HEN : Hid (∀ W, Touch NoS w3 W → Calls Tryz.prog 61 #[.pointer (some ⟨g, 12 + j' * 7, none⟩), .int .i64 (across11 code)] W fun e w' => e = .returned (.tuple #[]) ∧ Sett E w w' g X K gl gq ((R.2.take (k + 1)).foldl (Br.told K i) B1) ∧ ByT BrT W w') := fun W t => by
            rw [HN2.out]
            exact (HS3.out.no t).endB (!i) j' HJ'.out.symm (across11 code)
          clear hnx h12 HS3
          go_wp2_with fail
          refine (HAC.out _).mono ?_
          rintro e w5 ⟨rfl, ht5⟩
          have HT5 := Lib.hid ht5
          clear ht5
          go_wp2_with fail
          refine (HEN.out _ HT5.out).mono ?_
          rintro e w6 ⟨rfl, hs6, hy6⟩
          have HS6 := Lib.hid hs6
          have HR6 := Lib.hid ((((ByT.no HT5.out).trans hy6)).row HR3.out (brT_not (by decide) (by decide) (by decide)))
          clear hs6 hy6
          go_wp2_with fail
          go_roundw
          · exact ⟨k + 1, by omega, by go_num, HS6.out, HI2.out, HR6.out⟩
          · simp [intOf]; omega
        · have hnx : (R.2.take (k + 1)).foldl (Br.told K i) B1 = Bk1 := by
            rw [HNX.out]
            exact (if_neg h12).trans (if_neg h8)
          have HS6 : Hid (Sett E w w3 g X K gl gq ((R.2.take (k + 1)).foldl (Br.told K i) B1)) := by show Sett E w w3 g X K gl gq ((R.2.take (k + 1)).foldl (Br.told K i) B1); rw [hnx]; exact HS3.out
          have n1 : ¬ op = 1 := fun h => h12 (.inl h)
          have n2 : ¬ op = 2 := fun h => h12 (.inr h)
          clear hnx h12 HS3
          go_wp2_with fail
          go_roundw
          · exact ⟨k + 1, by omega, by go_num, HS6.out, HI2.out, HR3.out⟩
          · simp [intOf]; omega
    · have hkn : k = m := by omega
      have hall : R.2.take k = R.2 := by rw [hkn, ← HM.out, List.take_length]
      have hs := HS.out
      have hi := HIK.out
      rw [hall] at hs hi
      obtain ⟨B2, hB2⟩ : ∃ x, x = R.2.foldl (Br.told K i) B1 := ⟨_, rfl⟩
      have hlg2 : (B2 i).leg = R.1 := by rw [hB2, HLG.out, HLW.out]
      have hhe := HHE.out
      rw [← hB2] at hs hi hhe
      have HSB := Lib.hid hs
      have HIB := Lib.hid hi
      have HHE2 := Lib.hid hhe
      obtain ⟨z0, -, -, -, -, -, -, zl⟩ := side_cells hs.is i j HJ.out
      obtain ⟨w00, hsd⟩ := hs.is.side i
      have HWR := Lib.hid (lg_wrong hsd)
      rw [hlg2, ← HLI.out] at HWR
      rw [← HLI.out] at z0
      obtain ⟨wv, hwv⟩ : ∃ x, x = R.1.wrong := ⟨_, rfl⟩
      rw [← hwv] at HWR
      have HWV := Lib.hid hwv
      have HEN := Lib.hid (hs.end_ (!i) j' HJ'.out.symm 1001)
      clear hs hi hhe hall hB2 hlg2 hsd hwv HS HIK HR
      by_cases hw0 : wv = 0
      · have hh : B.hear K i c = B2.settle K := by rw [HHE2.out, if_neg (by rw [← HWV.out, hw0]; simp)]
        have HH2 := Lib.hid hh
        have HSE := Lib.hid (b_settle HSB.out.is HIB.out HK.out hn)
        clear hh
        subst hw0
        go_wp2_with fail
        refine HWR.out.mono ?_
        rintro e w5 ⟨rfl, rfl⟩
        go_wp2_with fail
        refine HSE.out.mono ?_
        rintro e w6 ⟨rfl, hs6⟩
        have HS6 := Lib.hid (HSB.out.trans hs6.is hs6.touch hs6.byT)
        clear hs6
        go_wp2_with fail
        go_end0
        rw [HH2.out]
        exact ⟨rfl, HS6.out⟩
      · have hh : B.hear K i c = (B2.set (!i) ((B2 (!i)).end_ 1001)).settle K := by rw [HHE2.out, if_pos (by rw [← HWV.out]; exact hw0)]
        have HH2 := Lib.hid hh
        have HI5 := Lib.hid (HIB.out.set (!i) ((HIB.out.side (!i)).end_ (c := 1001) (by omega)))
        have hq : (wv != 0) = true := by rw [bne_iff_ne]; exact hw0
        clear hh
        go_wp2_with fail
        refine HWR.out.mono ?_
        rintro e w5 ⟨rfl, rfl⟩
        go_wp2_with fail
        refine HEN.out.mono ?_
        rintro e w6 ⟨rfl, hs6⟩
        have HS6 := Lib.hid hs6
        have HSE := Lib.hid (b_settle hs6.is HI5.out HK.out hn)
        clear hs6
        go_wp2_with fail
        refine HSE.out.mono ?_
        rintro e w7 ⟨rfl, hs7⟩
        have HS7 := Lib.hid (HS6.out.trans hs7.is hs7.touch hs7.byT)
        clear hs7
        go_wp2_with fail
        go_end0
        rw [HH2.out]
        exact ⟨rfl, HS7.out⟩
end
end Go.Proofs.YtlnabpoohnphiaaGreat
/- bridge: Feed. -/
namespace Go.Proofs.YtlnabpoohnphiaaGreat
open Go.RowKit
set_option linter.unusedSimpArgs false
set_option linter.unusedVariables false

section
variable {E : Nat → Prop} {w w' : World} {g : Nat} {X : Bx} {K : Bk} {gl gq : Bool → Nat} {B B' : Br}
theorem feedN_go {K : Bk} {i : Bool} {B : Br} {c : Int} {l : List Int} (h1 : (B i).deaf = false) (h2 : roomL K (B i).q K.message = true) : Br.feedN K i (c :: l) B = ((Br.feedN K i l (B.hear K i c)).1, (Br.feedN K i l (B.hear K i c)).2 + 1) := by
  conv => lhs; unfold Br.feedN
  rw [if_pos ⟨h1, h2⟩]
theorem feedN_no {K : Bk} {i : Bool} {B : Br} {l : List Int} (h : ¬ ((B i).deaf = false ∧ roomL K (B i).q K.message = true)) : Br.feedN K i l B = (B, 0) := by
  rcases l with _ | ⟨c, l⟩
  · rfl
  · unfold Br.feedN
    rw [if_neg h]
set_option maxHeartbeats 12800000 in
set_option maxRecDepth 100000 in
theorem b_feed (h : IsB E w g X K gl gq B) {n0 : Nat} {t : Int} (hI : BrI K n0 t B) (hK : Kfits K) (h0t : 0 ≤ t) (hn0 : n0 ≤ 100000) (hms : K.message ≤ 65536) (i : Bool) (l : List Int) (hb : bytesIn l) (A : Option Addr) (n cap : Nat) (hn : l.length = n) (hnm : n ≤ 1000000) (hnc : n ≤ cap) (hr : Rd w A (u8s l)) (hA : ∀ a : Addr, A = some a → E a.block) :
    Calls Tryz.prog 17 #[.pointer (some ⟨g, 0, none⟩), .int .i64 i.toNat, .slice A n cap] w fun e w' => e = .returned (.int .i64 (B.feed K i l).2) ∧ Sett E w w' g X K gl gq (B.feed K i l).1 := by
  have HH := Lib.hid (fun W => has_i i W)
  have HS0 := Lib.hid (Sett.start h)
  have HI := Lib.hid hI
  have HK := Lib.hid hK
  have HB := Lib.hid hb
  have HN := Lib.hid hn
  have HR := Lib.hid hr
  have HA := Lib.hid hA
  have hil := i_lt i
  have hbl := h.blk.lt
  obtain ⟨j, hj⟩ : ∃ j, j = i.toNat := ⟨_, rfl⟩
  rw [← hj] at HH hil ⊢
  have HJ := Lib.hid hj.symm
  clear h hI hK hb hn hr hj hA
  go_enter Tryz.func17, Tryz.ntmps17
  go_wp2_with fail
  refine (HH.out _).mono ?_
  rintro e w2 ⟨rfl, rfl⟩
  go_wp2_with fail
  go_loopw [8] (fun iv wr => ∃ (k : Nat) (C : Br), k ≤ n ∧ iv = .int .i64 k ∧ Hid (Sett E w wr g X K gl gq C) ∧ Hid (BrI K n0 t C) ∧ Hid (Br.feedN K i l B = ((Br.feedN K i (l.drop k) C).1, (Br.feedN K i (l.drop k) C).2 + k))) (fun iv _ => n - (intOf iv).toNat)
  case atStart => exact ⟨0, B, Nat.zero_le _, rfl, HS0.out, HI.out, rfl⟩
  case round =>
    obtain ⟨k, C, hkn, rfl, hs, hi, hf⟩ := hrel
    have HS := Lib.hid (show Sett E w wr g X K gl gq C from hs)
    have HIC := Lib.hid (show BrI K n0 t C from hi)
    have HF := Lib.hid (show Br.feedN K i l B = ((Br.feedN K i (l.drop k) C).1, (Br.feedN K i (l.drop k) C).2 + k) from hf)
    obtain ⟨df, hdf⟩ : ∃ x, x = (C i).deaf := ⟨_, rfl⟩
    obtain ⟨rm, hrm⟩ : ∃ x, x = roomL K (C i).q K.message := ⟨_, rfl⟩
    obtain ⟨-, z1, -, -, -, -, -, zl⟩ := side_cells HS.out.is i j HJ.out
    have z3 : wr.cell? ⟨g, 3, none⟩ = some (.int .i64 K.message) := by rw [HS.out.is.blk.cell]; rfl
    obtain ⟨qi, hqi⟩ : ∃ x, x = gq i := ⟨_, rfl⟩
    rw [← hqi] at z1
    have HDF : Hid (∀ W, Touch NoS wr W → Calls Tryz.prog 38 #[.pointer (some ⟨g, 12 + j * 7, none⟩)] W fun e w' => e = .returned (.bool df) ∧ W = w') := fun W t => by
      have := s_deaf (HS.out.no t).is i
      unfold so at this
      rw [HJ.out] at this
      rw [hdf]
      exact this
    have HRM : Hid (∀ W, Touch NoS wr W → Calls Tryz.prog 39 #[.pointer (some ⟨qi, 0, none⟩), .int .i64 K.message] W fun e w' => e = .returned (.bool rm) ∧ ∃ m, w' = W.drewN m) := fun W t => by
      rw [hqi]
      exact q_room (gq i) ⟨K.count, K.bytes, (C i).q⟩ K.message rm (by rw [hrm]; rfl) W ((HS.out.no t).is.q i)
    have HD := Lib.hid hdf
    have HRO := Lib.hid hrm
    clear hs hi hf hdf hrm hqi HS0 HI
    go_upto_region 5 with (fail)
    go_cut [37] (fun v wx => v = .bool (decide (k < n) && !df && rm) ∧ Touch NoS wr wx)
    case first =>
      have m1 : wr.drew.cell? ⟨g, 12 + j * 7 + 1, none⟩ = some (.pointer (some ⟨qi, 0, none⟩)) := z1
      have m3 : wr.drew.cell? ⟨g, 3, none⟩ = some (.int .i64 K.message) := z3
      have mt : Touch NoS wr wr.drew := (Touch.refl _ _).drew
      by_cases hlt : k < n
      · have hlti : (k : Int) < n := by omega
        have hd1 : decide (k < n) = true := decide_eq_true hlt
        cases df with
        | true =>
          go_wp2_with fail
          go_quiet ((go_at_call 38; refine Calls.quiet_of_same ((HDF.out _ ?_).mono fun _ _ h => ⟨h.1, h.2.symm⟩); exact (Touch.refl _ _).drewN _))
          go_wp2_with fail
          go_meet
          exact ⟨by simp, (Touch.refl _ _).drewN _⟩
        | false =>
          go_wp2_with fail
          go_region_held3 (fun w' => w'.cell? ⟨g, 12 + j * 7 + 1, none⟩ = some (.pointer (some ⟨qi, 0, none⟩)) ∧ w'.cell? ⟨g, 3, none⟩ = some (.int .i64 K.message))
            (first | exact ⟨m1, m3⟩)
            (first
              | (go_at_call 38; refine (HDF.out _ mt).mono ?_; rintro e w5 ⟨rfl, rfl⟩)
              | (go_at_call 39; refine (HRM.out _ mt).mono ?_; rintro e w6 ⟨rfl, m6, rfl⟩))
          all_goals
            go_wp2_with fail
            go_meet
            exact ⟨by rw [hd1]; rfl, (Touch.refl _ _).drewN _⟩
      · have hlti : ¬ ((k : Int) < n) := by omega
        have hdi : decide ((k : Int) < (n : Int)) = false := decide_eq_false hlti
        have hd1 : decide (k < n) = false := decide_eq_false hlt
        go_wp2_with fail
        go_quiet (fail)
        go_wp2_with fail
        go_meet
        exact ⟨by rw [hd1]; rfl, (Touch.refl _ _).drewN _⟩
    case rest =>
      obtain ⟨rfl, htx⟩ := hcut
      obtain ⟨wd, rfl⟩ : ∃ w : World, w = wc := ⟨_, rfl⟩
      have HS2 := Lib.hid (HS.out.no htx)
      obtain ⟨bc, hbc⟩ : ∃ b, b = (decide (k < n) && !df && rm) := ⟨_, rfl⟩
      rw [← hbc]
      have HBC := Lib.hid hbc
      clear hbc htx HS z1 z3 zl
      cases bc with
      | true =>
        have hbc := HBC.out.symm
        simp only [Bool.and_eq_true, decide_eq_true_eq, Bool.not_eq_true'] at hbc
        obtain ⟨⟨hlt, hd0⟩, hr0⟩ := hbc
        have hkl : k < l.length := by rw [HN.out]; exact hlt
        have hdr : l.drop k = l[k] :: l.drop (k + 1) := List.drop_eq_getElem_cons hkl
        have hck := HB.out l[k] (List.getElem_mem hkl)
        have hf2 := HF.out
        rw [hdr, feedN_go (by rw [← HD.out]; exact hd0) (by rw [← HRO.out]; exact hr0)] at hf2
        have hrd : ∃ s off, A = some ⟨s, off, none⟩ ∧ s < wd.heap.size ∧ wd.cell? ⟨s, off + k, none⟩ = some (.int .u8 l[k]) := by
          have hne : u8s l ≠ [] := by
            intro h0
            have := congrArg List.length h0
            simp [u8s] at this
            rw [this] at hkl
            exact absurd hkl (by simp)
          obtain ⟨s, off, hA, hsz, hcell⟩ := HR.out hne
          have hE := HA.out _ hA
          have hc1 := hcell k (.int .u8 l[k]) (by simp [u8s, hkl])
          refine ⟨s, off, hA, Nat.lt_of_lt_of_le hsz HS2.out.touch.size, ?_⟩
          exact (World.cell?_of_block (HS2.out.touch.block s hsz (fun h => h hE))).trans hc1
        obtain ⟨s, off, rfl, hsz, hcl⟩ := hrd
        obtain ⟨ck, hckd⟩ : ∃ x, x = l[k] := ⟨_, rfl⟩
        rw [← hckd] at hck hf2 hcl
        have HHR := Lib.hid (b_hear HS2.out.is HIC.out HK.out h0t hn0 i j HJ.out ck hck)
        have HIH := Lib.hid (HIC.out.hear HK.out i h0t ck hck)
        have HF2 := Lib.hid hf2
        have hlti : (k : Int) < n := by omega
        clear hdr hf2 hckd hd0 hr0 hkl
        go_wp2_with fail
        refine HHR.out.mono ?_
        rintro e w5 ⟨rfl, hs5⟩
        have HS5 := Lib.hid (HS2.out.trans hs5.is hs5.touch hs5.byT)
        clear hs5
        go_wp2_with fail
        go_roundw
        · refine ⟨k + 1, C.hear K i ck, by omega, by go_num, HS5.out, HIH.out, ?_⟩
          show Br.feedN K i l B = _
          rw [HF2.out]
          exact Prod.ext rfl (by show _ + 1 + k = _ + (k + 1); omega)
        · simp [intOf]; omega
      | false =>
        have hfe : Br.feedN K i l B = (C, k) := by
          rw [HF.out]
          by_cases hlt : k < n
          · have hno : ¬ ((C i).deaf = false ∧ roomL K (C i).q K.message = true) := fun h => by
              have hb := HBC.out
              rw [decide_eq_true hlt, HD.out, HRO.out, h.1, h.2] at hb
              simp at hb
            rw [feedN_no hno]
            exact Prod.ext rfl (by show 0 + k = k; omega)
          · rw [List.drop_eq_nil_of_le (by rw [HN.out]; omega)]
            exact Prod.ext rfl (by show 0 + k = k; omega)
        have hr1 : B.feed K i l = (C, if df = true then n else k) := by
          unfold Br.feed
          rw [hfe, HN.out, HD.out]
        have HR1 := Lib.hid hr1
        have HDF2 := Lib.hid (HDF.out)
        have HDW : Hid (Calls Tryz.prog 38 #[.pointer (some ⟨g, 12 + j * 7, none⟩)] wd fun e w' => e = .returned (.bool df) ∧ wd = w') := by
          have := s_deaf HS2.out.is i
          unfold so at this
          rw [HJ.out] at this
          rw [← HD.out] at this
          exact this
        clear hfe hr1
        cases df with
        | true =>
          go_wp2_with fail
          refine HDW.out.mono ?_
          rintro e w5 ⟨rfl, rfl⟩
          go_wp2_with fail
          go_ret
          rw [HR1.out]
          exact ⟨rfl, HS2.out⟩
        | false =>
          go_wp2_with fail
          refine HDW.out.mono ?_
          rintro e w5 ⟨rfl, rfl⟩
          go_wp2_with fail
          go_ret
          rw [HR1.out]
          exact ⟨rfl, HS2.out⟩
end
end Go.Proofs.YtlnabpoohnphiaaGreat
/- route.Check on the sessions' configuration. -/
namespace Go.Proofs.YtlnabpoohnphiaaGreat
open Go.RowKit
set_option linter.unusedSimpArgs false
set_option linter.unusedVariables false

def cfgW (b : Nat) (M F C Q O : Nat) : Array Value := #[.slice (some ⟨b, 0, none⟩) 1 1, .slice none 0 0, .int .i64 4, .int .i64 M, .int .i64 F, .int .i64 C, .int .i64 Q, .int .i64 O, .int .i64 5, .int .i64 9, .int .i64 3, .int .i64 4]
set_option maxHeartbeats 12800000 in
set_option maxRecDepth 100000 in
theorem r_checkW (b M F C Q O : Nat) (h1 : 1 ≤ M) (h2 : M ≤ Q) (hq : Q ≤ 4194304) (hm : M ≤ 65536) (hc1 : 1 ≤ C) (hc2 : C ≤ 1024) (h3 : 1 ≤ F) (h4 : F ≤ 65536) (h5 : 1 ≤ O) (h6 : O ≤ 65536) (w : World) (hb : Blk w b 101 #[.string ⟨#[47]⟩, .string ⟨#[]⟩, .string ⟨#[120]⟩]) :
    Calls Tryz.prog 53 #[.agg (cfgW b M F C Q O)] w fun e w' => e = .returned (.int .i64 0) ∧ Touch NoS w w' := by
  have x0 : ∀ W, (Instr.index 135 (.agg #[.int .i64 5, .int .i64 9, .int .i64 3, .int .i64 4]) (.int .i64 0)).run Tryz.prog W = .ok (.int .i64 5) W := fun W => rfl
  have x1 : ∀ W, (Instr.index 135 (.agg #[.int .i64 5, .int .i64 9, .int .i64 3, .int .i64 4]) (.int .i64 1)).run Tryz.prog W = .ok (.int .i64 9) W := fun W => rfl
  have x2 : ∀ W, (Instr.index 135 (.agg #[.int .i64 5, .int .i64 9, .int .i64 3, .int .i64 4]) (.int .i64 2)).run Tryz.prog W = .ok (.int .i64 3) W := fun W => rfl
  have x3 : ∀ W, (Instr.index 135 (.agg #[.int .i64 5, .int .i64 9, .int .i64 3, .int .i64 4]) (.int .i64 3)).run Tryz.prog W = .ok (.int .i64 4) W := fun W => rfl
  have q0 := hb.cell 0
  have q1 := hb.cell 1
  have q2 := hb.cell 2
  have ql := hb.lt
  simp at q0 q1 q2
  have HB := Lib.hid hb
  have HI := Lib.hid (fun n a b h1 h2 W => r_in n a b h1 h2 W)
  have HRI := Lib.hid (fun W => r_right W)
  have HCO := Lib.hid (fun A c W => r_contains0 A c W)
  have i1 : (1 : Int) ≤ M := by omega
  have i2 : (M : Int) ≤ 65536 := by omega
  have i2b : (M : Int) ≤ Q := by omega
  have i2c : (Q : Int) ≤ 4194304 := by omega
  have i7 : (1 : Int) ≤ C := by omega
  have i8 : (C : Int) ≤ 1024 := by omega
  have i3 : (1 : Int) ≤ F := by omega
  have i4 : (F : Int) ≤ 65536 := by omega
  have i5 : (1 : Int) ≤ O := by omega
  have i6 : (O : Int) ≤ 65536 := by omega
  unfold cfgW
  clear hb
  go_enter Tryz.func53, Tryz.ntmps53
  obtain ⟨w0, hw0⟩ : ∃ w0, w0 = w.alloc (.cells (cfgW b M F C Q O) 29) := ⟨_, rfl⟩
  obtain ⟨gc, hgc⟩ : ∃ g, g = w.heap.size := ⟨_, rfl⟩
  have hbc : Blk w0 gc 29 (cfgW b M F C Q O) := by rw [hw0, hgc]; exact Blk.new _ _ _
  have HT0 : Hid (Touch NoS w w0) := by rw [hw0]; exact (Touch.refl _ _).alloc _
  have HBC := Lib.hid hbc
  have c0 := hbc.cell 0
  have c1 := hbc.cell 1
  have c2 := hbc.cell 2
  have c3 := hbc.cell 3
  have c4 := hbc.cell 4
  have c5 := hbc.cell 5
  have c6 := hbc.cell 6
  have c7 := hbc.cell 7
  have c8 := hbc.cell 8
  have c9 := hbc.cell 9
  have c10 := hbc.cell 10
  have c11 := hbc.cell 11
  have cl := hbc.lt
  simp [cfgW] at c0 c1 c2 c3 c4 c5 c6 c7 c8 c9 c10 c11
  unfold cfgW at hw0
  go_upto_region 2 with (fail)
  rw [← hw0, ← hgc]
  clear hw0 hgc hbc
  go_upto_region 3 with (go_at_call 77; refine (HI.out _ _ _ (by omega) (by omega) _).mono ?_; rintro e w9 ⟨rfl, rfl⟩)
  go_wp2_with fail
  go_loopw [4, 67] (fun ok iv wr => ∃ k : Nat, k ≤ 4 ∧ iv = .int .i64 k ∧ ok = .bool true ∧ wr = w0) (fun _ iv _ => 4 - (intOf iv).toNat)
  case atStart => exact ⟨0, by omega, rfl, rfl, rfl⟩
  case round =>
    obtain ⟨k, hk, rfl, rfl, rfl⟩ := hrel
    by_cases hlt : k < 4
    · have hkc : k = 0 ∨ k = 1 ∨ k = 2 ∨ k = 3 := by omega
      rcases hkc with rfl | rfl | rfl | rfl
      all_goals
        go_wp2_with (go_at_call 77; refine (HI.out _ _ _ (by omega) (by omega) _).mono ?_; rintro e w9 ⟨rfl, rfl⟩)
        go_roundw
        · first
            | exact ⟨1, by omega, by go_num, rfl, by first | trivial | rfl⟩
            | exact ⟨2, by omega, by go_num, rfl, by first | trivial | rfl⟩
            | exact ⟨3, by omega, by go_num, rfl, by first | trivial | rfl⟩
            | exact ⟨4, by omega, by go_num, rfl, by first | trivial | rfl⟩
        · simp [intOf]
    · have hge : ¬ ((k : Int) < 4) := by omega
      go_wp2_with fail
      clear hge hlt hk
      go_loopw [4, 80] (fun ok iv wr => ∃ k : Nat, k ≤ 1 ∧ iv = .int .i64 k ∧ ok = .bool true ∧ Touch NoS w wr ∧ Blk wr gc 29 (cfgW b M F C Q O)) (fun _ iv _ => 1 - (intOf iv).toNat)
      case atStart => exact ⟨0, by omega, rfl, rfl, HT0.out, HBC.out⟩
      case round =>
        obtain ⟨k, hk, rfl, rfl, ht, hbg⟩ := hrel
        have HT := Lib.hid ht
        have HBG := Lib.hid hbg
        by_cases hlt : k < 1
        · obtain rfl : k = 0 := by omega
          have hb1 := HB.out.touch ht (fun h => h)
          have r0 := hb1.cell 0
          have r1 := hb1.cell 1
          have r2 := hb1.cell 2
          have rl := hb1.lt
          simp at r0 r1 r2
          clear c0 c1 c2 c3 c4 c5 c6 c7 c8 c9 c10 c11 cl q0 q1 q2 ql ht hb1 hbg x0 x1 x2 x3
          go_upto_region 11 with (fail)
          obtain ⟨w2, hw2⟩ : ∃ w2, w2 = wr.alloc (.cells #[.string ⟨#[47]⟩, .string ⟨#[]⟩, .string ⟨#[120]⟩] 101) := ⟨_, rfl⟩
          obtain ⟨g2, hg2⟩ : ∃ g, g = wr.heap.size := ⟨_, rfl⟩
          have hb2 : Blk w2 g2 101 #[.string ⟨#[47]⟩, .string ⟨#[]⟩, .string ⟨#[120]⟩] := by rw [hw2, hg2]; exact Blk.new _ _ _
          have hbg2 : Blk w2 gc 29 (cfgW b M F C Q O) := by rw [hw2]; exact HBG.out.alloc _
          have HT2 : Hid (Touch NoS w w2) := by rw [hw2]; exact HT.out.alloc _
          rw [← hw2, ← hg2]
          have z0 := hb2.cell 0
          have z1 := hb2.cell 1
          have z2 := hb2.cell 2
          have zl := hb2.lt
          have zc := hbg2.cell 0
          have zcl := hbg2.lt
          simp [cfgW] at z0 z1 z2 zc
          have HB2 := Lib.hid hb2
          have HBG2 := Lib.hid hbg2
          clear hw2 hg2 hb2 hbg2 r0 r1 r2 rl
          go_region_with (first
              | (go_at_call 78; refine (HRI.out _).mono ?_; rintro e w5 ⟨rfl, ht5⟩; have hb5 := HB2.out.drew.touch ht5 (fun h => h); have hg5 := HBG2.out.drew.touch ht5 (fun h => h); have z0 := hb5.cell 0; have z1 := hb5.cell 1; have z2 := hb5.cell 2; have zl := hb5.lt; have zc := hg5.cell 0; have zcl := hg5.lt; simp [cfgW] at z0 z1 z2 zc; have HT5 : Hid (Touch NoS w2 w5) := (Touch.refl NoS w2).drew.trans ht5; clear hb5 hg5 ht5)
              | (go_at_call 79; refine (HCO.out _ _ _).mono ?_; rintro e w6 ⟨rfl, ht6⟩; have HT6 := Lib.hid (HT5.out.trans ht6); clear ht6))
          all_goals
            have HT9 := Lib.hid (HT2.out.trans HT6.out)
            have HB9 := Lib.hid (HBG2.out.touch HT6.out (fun h => h))
            simp [Act.put]
            go_wp2_with fail
            go_roundw
            · exact ⟨1, by omega, by go_num, rfl, HT9.out, HB9.out⟩
            · simp [intOf]
        · obtain rfl : k = 1 := by omega
          clear ht hbg
          go_wp2_with fail
          go_ret
          exact ⟨rfl, HT.out⟩
end Go.Proofs.YtlnabpoohnphiaaGreat
