/- leg: move. | frame: Get, behind its first byte. -/
import Derived.Test.YtlnabpoohnphiaaGreatB07
import Derived.Test.YtlnabpoohnphiaaGreatB06
/- leg: move. -/
namespace Go.Proofs.YtlnabpoohnphiaaGreat
open Go.RowKit
set_option linter.unusedSimpArgs false
set_option linter.unusedVariables false

section
variable {w w' : World} {g : Nat} {k : Lk} {o : Ou} {sent got : Bool} {wrong : Int} {vt vc vr : Value}
theorem OutH.no (h : OutH w g k o sent got wrong vt vc vr) (t : Touch NoS w w') : OutH w' g k o sent got wrong vt vc vr :=
  ⟨h.blk.touch t (fun h => h), h.ring.no t, h.tail.no t, h.ctl.no t, h.rest.no t, h.bytes, h.good, h.apart⟩
end
/-- frame.Put, whatever the frame. -/
theorem f_putz (f : Fr) (hf : f.good) (w : World) : Calls Tryz.prog 88 #[.agg f.cs] w fun e w' => ∃ v er, e = .returned (.tuple #[v, .int .i64 er]) ∧ Win w' 5 1 v (fputz f).length (u8s (fputz f)) ∧ (∀ b, v.ownBlock = some b → w.heap.size ≤ b) ∧ Touch NoS w w' := by
  unfold fputz
  by_cases h : check9 f = 0
  · rw [if_pos h]
    refine (f_put f hf h w).mono ?_
    rintro e w' ⟨v, rfl, h1, h2⟩
    exact ⟨v, 0, rfl, Win.of_own h1, fun b hb => own_base h1 hb, h2⟩
  · rw [if_neg h]
    refine (f_put_no f hf h w).mono ?_
    rintro e w' ⟨rfl, h2⟩
    exact ⟨.slice none 0 0, _, rfl, Win.nil_ _ _ _, fun b hb => (by cases hb), h2⟩
def lenS (w : World) (g i : Nat) : Nat := match w.cell? ⟨g, i, none⟩ with
  | some (.slice _ n _) => n
  | _ => 0
theorem OutH.left {w : World} {g : Nat} {k : Lk} {o : Ou} {sent got : Bool} {wrong : Int} {vt vc vr : Value} (h : OutH w g k o sent got wrong vt vc vr) : lenS w g 16 + lenS w g 17 = o.left := by
  obtain ⟨A1, c1, hv1, _⟩ := h.ctl.cases
  obtain ⟨A2, c2, hv2, _⟩ := h.rest.cases
  have e1 := h.blk.cell 16
  have e2 := h.blk.cell 17
  simp [lgCells] at e1 e2
  unfold lenS Ou.left
  rw [e1, e2, hv1, hv2]
set_option maxHeartbeats 3200000 in
set_option maxRecDepth 100000 in
theorem l_move (g : Nat) (k : Lk) (o : Ou) (sent got : Bool) (wrong : Int) (vt vc vr : Value) (w : World) (h : OutH w g k o sent got wrong vt vc vr) :
    Calls Tryz.prog 64 #[.pointer (some ⟨g, 0, none⟩)] w fun e w' => ∃ vt' vc' vr', e = .returned (.tuple #[]) ∧ OutH w' g k (o.move k.out k.masks) sent got wrong vt' vc' vr' ∧ Loc w vt vt' ∧ vc'.ownBlock = vc.ownBlock ∧ vr'.ownBlock = vr.ownBlock ∧ Touch (LO g k) w w' := by
  have H := Lib.hid h
  clear h
  go_enter Tryz.func64, Tryz.ntmps64
  go_wp2_with fail
  go_loopw [] (fun wr => ∃ o1 vt1 vc1 vr1, OutH wr g k o1 sent got wrong vt1 vc1 vr1 ∧ Hid (o1.move k.out k.masks = o.move k.out k.masks) ∧ Loc w vt vt1 ∧ vc1.ownBlock = vc.ownBlock ∧ vr1.ownBlock = vr.ownBlock ∧ Touch (LO g k) w wr) (fun wr => lenS wr g 16 + lenS wr g 17)
  case atStart =>
    exact ⟨o, vt, vc, vr, H.out, rfl, Loc.refl _ _, rfl, rfl, Touch.refl _ _⟩
  case round =>
    obtain ⟨o1, vt1, vc1, vr1, h1, hm, hl, hc, hr, ht⟩ := hrel
    have H1 := Lib.hid h1
    have HL := Lib.hid hl
    have HC := Lib.hid hc
    have HR := Lib.hid hr
    have HT := Lib.hid ht
    have hlf := h1.left
    clear h1 hl hc hr ht H
    go_wp2_with fail
    refine (o_push g k o1 sent got wrong vt1 vc1 vr1 wr H1.out).mono ?_
    rintro e w1 ⟨vt2, rfl, h2, hv2, ht2⟩
    have H2 := Lib.hid h2
    have HV2 := Lib.hid hv2
    have HT2 := Lib.hid ht2
    clear h2 hv2 ht2
    have hmv := Ou.move_eq k.out k.masks o1
    by_cases hpt : (o1.push k.out).tail = []
    · rw [if_pos hpt] at hmv
      have hd : decide ((o1.push k.out).tail = []) = true := decide_eq_true hpt
      rw [hd]
      clear hd
      rcases hst : (o1.push k.out).step k.masks with _ | o2
      · rw [hst] at hmv
        simp only at hmv
        have HMV := Lib.hid hmv
        have HST := Lib.hid hst
        clear hmv hst hpt
        go_wp2_with fail
        refine (o_next_none g k _ sent got wrong vt2 vc1 vr1 w1 H2.out HST.out).mono ?_
        rintro e w2 ⟨rfl, ht2⟩
        simp only [Fr.cs]
        go_wp2_with fail
        refine bodyPost_ret (results_none rfl _ _ _) rfl ?_
        refine ⟨vt2, vc1, vr1, rfl, ?_, ?_, HC.out, HR.out, ?_⟩
        · rw [← hm.out, HMV.out]
          exact H2.out.no (ht2.alloc _)
        · intro b hb
          exact HL.out b (HV2.out ▸ hb)
        · exact (HT.out.trans HT2.out).trans (ht2.alloc _).of_no
      · rw [hst] at hmv
        simp only at hmv
        have HMV := Lib.hid hmv
        have HST := Lib.hid hst
        have hol := Ou.step_left hst
        rw [Ou.push_left] at hol
        clear hmv hst hpt
        go_wp2_with fail
        refine (o_next g k _ o2 sent got wrong vt2 vc1 vr1 w1 H2.out HST.out).mono ?_
        rintro e w2 ⟨f, vc3, vr3, rfl, hfg, hft, hrg, h3, hc3, hr3, ht3⟩
        have HFG := Lib.hid hfg
        have HFT := Lib.hid hft
        have HRG := Lib.hid hrg
        have H3 := Lib.hid h3
        have HC3 := Lib.hid hc3
        have HR3 := Lib.hid hr3
        have HT3 := Lib.hid ht3
        clear hfg hft hrg h3 hc3 hr3 ht3
        have HPZ := Lib.hid (fun W => f_putz f HFG.out W)
        obtain ⟨fin, op, masked, k0, k1, k2, k3, data⟩ := f
        simp only [Fr.cs] at HPZ
        simp only [Fr.cs]
        go_wp2_with fail
        refine (HPZ.out _).mono ?_
        rintro e w4 ⟨v, er, rfl, hw4, hv4, ht4⟩
        obtain ⟨A4, c4, hv4e, -⟩ := hw4.cases
        subst hv4e
        have HW4 := Lib.hid hw4
        have HV4 := Lib.hid hv4
        have hT24 : Touch NoS w2 w4 := ((Touch.refl NoS w2).alloc _).trans ht4
        have HT24 := Lib.hid hT24
        have hb4 := H3.out.blk.touch hT24 (fun h => h)
        have c15 := hb4.cell 15
        simp [lgCells] at c15
        have f15 := hb4.frozen 15
        have lg4 := hb4.lt
        clear hw4 hv4 ht4 hT24 hb4
        go_wp2_with fail
        have h4 := H3.out.no HT24.out
        have tg : ∀ u, Touch (At g) w4 (w4.setCell ⟨g, 15, none⟩ u) := fun u => (Touch.refl (At g) w4).setAt 15 u
        have hS : ∀ b, At g b → ∃ t cs, Blk w4 b t cs ∧ 42 ≠ t := by
          rintro b rfl
          exact ⟨_, _, h4.blk, by decide⟩
        have hS2 : ∀ b, At g b → ∃ t cs, Blk w4 b t cs ∧ 5 ≠ t := by
          rintro b rfl
          exact ⟨_, _, h4.blk, by decide⟩
        have hrg : g ≠ k.rg ∧ g ≠ k.rb ∧ k.rb < w2.heap.size := by
          obtain ⟨c1, c2, q1, q2⟩ := H3.out.ring.blk
          exact ⟨H3.out.blk.ne_ q1 (by decide), H3.out.blk.ne_ q2 (by decide), q2.lt⟩
        have h5 : OutH (w4.setCell ⟨g, 15, none⟩ (.slice A4 (fputz ⟨fin, op, masked, k0, k1, k2, k3, data⟩).length c4)) g k o2 sent got wrong (.slice A4 (fputz ⟨fin, op, masked, k0, k1, k2, k3, data⟩).length c4) vc3 vr3 := by
          refine ⟨by simpa [lgCells] using h4.blk.set_ 15 _, h4.ring.touch (tg _) (fun e => hrg.1 e.symm) (fun e => hrg.2.1 e.symm), ?_, h4.ctl.of_type (tg _) hS, h4.rest.of_type (tg _) hS, ?_, h4.good, ?_⟩
          · rw [HFT.out]
            exact HW4.out.of_type (tg _) hS2
          · rw [HFT.out]
            unfold fputz
            split
            · rename_i hc9
              exact fput_in _ HFG.out (by have := (check_ok hc9).1; omega)
            · exact fun x hx => (by cases hx)
          · intro e
            have := HV4.out _ e
            simp at this
            omega
        have hll := h5.left
        have HH5 := Lib.hid h5
        clear h4 h5 hS hS2
        go_roundw
        · refine ⟨o2, _, vc3, vr3, HH5.out, Lib.hid (HMV.out.symm.trans hm.out), ?_, HC3.out.trans HC.out, HR3.out.trans HR.out, ?_⟩
          · intro b hb
            right
            have := HV4.out _ hb
            have := (HT.out.trans HT2.out).size
            have := HT3.out.size
            simp at *
            omega
          · refine ((HT.out.trans HT2.out).trans (HT3.out.mono (fun i hi => Or.inl hi))).trans ((HT24.out.of_no (S := LO g k)).trans ((tg _).mono fun i hi => Or.inl hi))
        · omega
    · rw [if_neg hpt] at hmv
      have hd : decide ((o1.push k.out).tail = []) = false := decide_eq_false hpt
      rw [hd]
      clear hd hpt
      have HMV := Lib.hid hmv
      clear hmv
      go_wp2_with fail
      go_end0
      refine ⟨vt2, vc1, vr1, rfl, ?_, ?_, HC.out, HR.out, HT.out.trans HT2.out⟩
      · rw [← hm.out, HMV.out]
        exact H2.out
      · intro b hb
        exact HL.out b (HV2.out ▸ hb)
end Go.Proofs.YtlnabpoohnphiaaGreat
/- frame: Get, behind its first byte. -/
namespace Go.Proofs.YtlnabpoohnphiaaGreat
open Go.RowKit
set_option linter.unusedSimpArgs false
set_option linter.unusedVariables false

set_option maxHeartbeats 6400000 in
set_option maxRecDepth 100000 in
theorem f_get_one (g off cap : Nat) (hcap : 1 ≤ cap) (hc : cap ≤ maxLen) (x o y : Int) (fin cn : Bool) (most : Int) (w : World)
    (hg : g < w.heap.size) (h0 : w.cell? ⟨g, off, none⟩ = some (.int .u8 x))
    (hy : bits .and .u8 x 128 = y) (hyf : (y != 0) = fin) (ho : bits .and .u8 x 15 = o) (ho0 : 0 ≤ o) (ho1 : o ≤ 15) (hz : bits .and .u8 x 112 = 0)
    (hk : known9 o = true) (hcn : control9 o = cn) (hok : cn = true → fin = true) :
    Calls Tryz.prog 122 #[.slice (some ⟨g, off, none⟩) 1 cap, .int .i64 most] w fun e w' =>
      e = .returned (.tuple #[.agg Fr.zero.cs, .int .i64 0, .int .i64 90]) ∧ Touch NoS w w' := by
  have HKN := Lib.hid (f_known o)
  have HCN := Lib.hid (f_control o)
  rw [hk] at HKN
  rw [hcn] at HCN
  have HC := Lib.hid hc
  unfold maxLen at hc
  clear hk hcn
  cases cn with
  | false =>
    clear hok
    by_cases h1 : cap = 1
    · subst h1
      go_enter Tryz.func122, Tryz.ntmps122
      go_wp2_with fail
      go_region
      go_wp2_with fail
      refine (HCN.out _).mono ?_
      rintro e w1 ⟨rfl, hw1⟩
      obtain ⟨hb4, hb7, ht⟩ : Blk w1 w.heap.size 42 Fr.zero.cs ∧ Blk w1 (w.heap.size + 1) 42 (Fr.cs ⟨fin, o, false, 0, 0, 0, 0, ⟨#[]⟩⟩) ∧ Touch NoS w w1 := by rw [← hw1]; exact two_blocks _ _ _ _ _
      have ca := ht.cell h0
      have c0 := hb7.cell 0
      have c1 := hb7.cell 1
      simp [Fr.cs] at c0 c1
      have HB4 := Lib.hid hb4
      have HT := Lib.hid ht
      have gl : g < w1.heap.size := by have := ht.size; omega
      clear hw1 hb4 hb7 ht h0
      go_wp2_with fail
      refine (HKN.out _).mono ?_
      rintro e w2 ⟨rfl, rfl⟩
      go_wp2_with fail
      refine (m_get_ _ [] 0 _ rfl _ (Rd_nil _ _) (fun x hx => by simp at hx) (Nat.zero_le _) (by have := HC.out; unfold maxLen at *; omega) (by omega)).mono ?_
      rintro e w2 ⟨rfl, ht⟩
      have HB5 := Lib.hid (HB4.out.touch ht (fun h => h))
      have HT2 := Lib.hid (HT.out.trans ht)
      have g1 : (getLen []).1 = 0 := rfl
      have g2 : (getLen []).2.1 = 0 := rfl
      have g3 : (getLen []).2.2 = 80 := rfl
      rw [g1, g2, g3]
      clear g1 g2 g3 ht HB4 HT
      go_wp2_with (refine wpList_store_row rfl 42 (.tmp 4) (.tmp 81) rfl w.heap.size Fr.zero.cs rfl rfl 42 Fr.zero.cs HB5.out fr_info rfl (fr_one _) ?_; rw [setRow_same HB5.out])
      refine bodyPost_ret (v := .tuple #[.agg Fr.zero.cs, .int .i64 0, .int .i64 90]) (get_results _ _ _ _ _ _ rfl rfl rfl HB5.out) rfl ⟨rfl, HT2.out⟩
    · have h1' : (cap == 1) = false := by rw [beq_eq_false_iff_ne]; exact h1
      go_enter Tryz.func122, Tryz.ntmps122
      go_wp2_with fail
      go_region
      go_wp2_with fail
      refine (HCN.out _).mono ?_
      rintro e w1 ⟨rfl, hw1⟩
      obtain ⟨hb4, hb7, ht⟩ : Blk w1 w.heap.size 42 Fr.zero.cs ∧ Blk w1 (w.heap.size + 1) 42 (Fr.cs ⟨fin, o, false, 0, 0, 0, 0, ⟨#[]⟩⟩) ∧ Touch NoS w w1 := by rw [← hw1]; exact two_blocks _ _ _ _ _
      have ca := ht.cell h0
      have c0 := hb7.cell 0
      have c1 := hb7.cell 1
      simp [Fr.cs] at c0 c1
      have HB4 := Lib.hid hb4
      have HT := Lib.hid ht
      have gl : g < w1.heap.size := by have := ht.size; omega
      clear hw1 hb4 hb7 ht h0
      go_wp2_with fail
      refine (HKN.out _).mono ?_
      rintro e w2 ⟨rfl, rfl⟩
      go_wp2_with fail
      refine (m_get_ _ [] 0 _ rfl _ (Rd_nil _ _) (fun x hx => by simp at hx) (Nat.zero_le _) (by have := HC.out; unfold maxLen at *; omega) (by omega)).mono ?_
      rintro e w2 ⟨rfl, ht⟩
      have HB5 := Lib.hid (HB4.out.touch ht (fun h => h))
      have HT2 := Lib.hid (HT.out.trans ht)
      have g1 : (getLen []).1 = 0 := rfl
      have g2 : (getLen []).2.1 = 0 := rfl
      have g3 : (getLen []).2.2 = 80 := rfl
      rw [g1, g2, g3]
      clear g1 g2 g3 ht HB4 HT
      go_wp2_with (refine wpList_store_row rfl 42 (.tmp 4) (.tmp 81) rfl w.heap.size Fr.zero.cs rfl rfl 42 Fr.zero.cs HB5.out fr_info rfl (fr_one _) ?_; rw [setRow_same HB5.out])
      refine bodyPost_ret (v := .tuple #[.agg Fr.zero.cs, .int .i64 0, .int .i64 90]) (get_results _ _ _ _ _ _ rfl rfl rfl HB5.out) rfl ⟨rfl, HT2.out⟩
  | true =>
    obtain rfl := hok rfl
    clear hok
    by_cases h1 : cap = 1
    · subst h1
      go_enter Tryz.func122, Tryz.ntmps122
      go_wp2_with fail
      go_region
      go_wp2_with fail
      refine (HCN.out _).mono ?_
      rintro e w1 ⟨rfl, hw1⟩
      obtain ⟨hb4, hb7, ht⟩ : Blk w1 w.heap.size 42 Fr.zero.cs ∧ Blk w1 (w.heap.size + 1) 42 (Fr.cs ⟨true, o, false, 0, 0, 0, 0, ⟨#[]⟩⟩) ∧ Touch NoS w w1 := by rw [← hw1]; exact two_blocks _ _ _ _ _
      have ca := ht.cell h0
      have c0 := hb7.cell 0
      have c1 := hb7.cell 1
      simp [Fr.cs] at c0 c1
      have HB4 := Lib.hid hb4
      have HT := Lib.hid ht
      have gl : g < w1.heap.size := by have := ht.size; omega
      clear hw1 hb4 hb7 ht h0
      go_wp2_with fail
      refine (HKN.out _).mono ?_
      rintro e w2 ⟨rfl, rfl⟩
      go_wp2_with fail
      refine (m_get_ _ [] 0 _ rfl _ (Rd_nil _ _) (fun x hx => by simp at hx) (Nat.zero_le _) (by have := HC.out; unfold maxLen at *; omega) (by omega)).mono ?_
      rintro e w2 ⟨rfl, ht⟩
      have HB5 := Lib.hid (HB4.out.touch ht (fun h => h))
      have HT2 := Lib.hid (HT.out.trans ht)
      have g1 : (getLen []).1 = 0 := rfl
      have g2 : (getLen []).2.1 = 0 := rfl
      have g3 : (getLen []).2.2 = 80 := rfl
      rw [g1, g2, g3]
      clear g1 g2 g3 ht HB4 HT
      go_wp2_with (refine wpList_store_row rfl 42 (.tmp 4) (.tmp 81) rfl w.heap.size Fr.zero.cs rfl rfl 42 Fr.zero.cs HB5.out fr_info rfl (fr_one _) ?_; rw [setRow_same HB5.out])
      refine bodyPost_ret (v := .tuple #[.agg Fr.zero.cs, .int .i64 0, .int .i64 90]) (get_results _ _ _ _ _ _ rfl rfl rfl HB5.out) rfl ⟨rfl, HT2.out⟩
    · have h1' : (cap == 1) = false := by rw [beq_eq_false_iff_ne]; exact h1
      go_enter Tryz.func122, Tryz.ntmps122
      go_wp2_with fail
      go_region
      go_wp2_with fail
      refine (HCN.out _).mono ?_
      rintro e w1 ⟨rfl, hw1⟩
      obtain ⟨hb4, hb7, ht⟩ : Blk w1 w.heap.size 42 Fr.zero.cs ∧ Blk w1 (w.heap.size + 1) 42 (Fr.cs ⟨true, o, false, 0, 0, 0, 0, ⟨#[]⟩⟩) ∧ Touch NoS w w1 := by rw [← hw1]; exact two_blocks _ _ _ _ _
      have ca := ht.cell h0
      have c0 := hb7.cell 0
      have c1 := hb7.cell 1
      simp [Fr.cs] at c0 c1
      have HB4 := Lib.hid hb4
      have HT := Lib.hid ht
      have gl : g < w1.heap.size := by have := ht.size; omega
      clear hw1 hb4 hb7 ht h0
      go_wp2_with fail
      refine (HKN.out _).mono ?_
      rintro e w2 ⟨rfl, rfl⟩
      go_wp2_with fail
      refine (m_get_ _ [] 0 _ rfl _ (Rd_nil _ _) (fun x hx => by simp at hx) (Nat.zero_le _) (by have := HC.out; unfold maxLen at *; omega) (by omega)).mono ?_
      rintro e w2 ⟨rfl, ht⟩
      have HB5 := Lib.hid (HB4.out.touch ht (fun h => h))
      have HT2 := Lib.hid (HT.out.trans ht)
      have g1 : (getLen []).1 = 0 := rfl
      have g2 : (getLen []).2.1 = 0 := rfl
      have g3 : (getLen []).2.2 = 80 := rfl
      rw [g1, g2, g3]
      clear g1 g2 g3 ht HB4 HT
      go_wp2_with (refine wpList_store_row rfl 42 (.tmp 4) (.tmp 81) rfl w.heap.size Fr.zero.cs rfl rfl 42 Fr.zero.cs HB5.out fr_info rfl (fr_one _) ?_; rw [setRow_same HB5.out])
      refine bodyPost_ret (v := .tuple #[.agg Fr.zero.cs, .int .i64 0, .int .i64 90]) (get_results _ _ _ _ _ _ rfl rfl rfl HB5.out) rfl ⟨rfl, HT2.out⟩
end Go.Proofs.YtlnabpoohnphiaaGreat
