/- law12: MsgMasks: the walk. -/
import Derived.Test.YtkhppojlabajaaaGh
import Derived.Test.YtkhppojlabajaaaGq
import Derived.BigRegion
namespace Go.Proofs.Ytkhppojlabajaaa
open Go.RowKit
set_option linter.unusedSimpArgs false
set_option linter.unusedVariables false

theorem MO_NoS {w w' : World} {base g cu : Nat} {c : Mc} {v : Value} {t : TypeId} {b : Nat} {cs : Array Value} (h : Blk w b t cs) (hs : IsMv w base g cu c v) (k : Touch (MO g cu v) w w') (h1 : t ≠ 5) (h2 : t ≠ 90) (h3 : t ≠ 108) : Blk w' b t cs := MO_keep h hs k h1 h2 h3

set_option maxHeartbeats 12800000 in
set_option maxRecDepth 100000 in
theorem masks12_row (w : World) (A : Option Addr) (ls : List Fr) (c : Nat) (hr : Rd w A (ls.flatMap Fr.cl)) (hg : ∀ x ∈ ls, x.good) (hlc : ls.length ≤ c) (hcc : c ≤ maxLen) (ka kb kc kd : Int) (hkg : bytesIn [ka, kb, kc, kd]) :
    Calls Try.prog 14 #[.slice A ls.length c, .agg #[.int .u8 ka, .int .u8 kb, .int .u8 kc, .int .u8 kd]] w fun e w' => e = .returned (.bool true) ∧ Touch NoS w w' := by
  have hr : Rd w A (frs ls) := hr
  have HR := Lib.hid hr
  have HG := Lib.hid hg
  have HKG := Lib.hid hkg
  obtain ⟨n, hn⟩ : ∃ n, n = ls.length := ⟨_, rfl⟩
  rw [← hn] at hlc ⊢
  have HN := Lib.hid hn.symm
  have hnm : n ≤ maxLen := by omega
  have HNM := Lib.hid hnm
  clear hr hg hn hnm hcc hkg
  go_enter Try.func14, Try.ntmps14
  go_wp2_with fail
  refine (m_new 200 (by omega) (by omega) _).mono ?_
  rintro e w1 ⟨g, cu, rfl, hg, hcu, hm, ht⟩
  have HKB1 : Hid (Blk w1 w.heap.size 42 #[.int .u8 ka, .int .u8 kb, .int .u8 kc, .int .u8 kd]) := Blk.touch (Blk.new w _ _) ht (fun h => h)
  have HM1 := Lib.hid (hm.lower (base' := w.heap.size) (by simp))
  have HT1 := Lib.hid (((Touch.refl NoS w).alloc _).trans ht)
  have hgw : w.heap.size ≤ g := by simp at hg; omega
  have hcw : w.heap.size ≤ cu := by simp at hcu; omega
  clear hm ht hg hcu
  go_wp2_with fail
  refine (m_new 200 (by omega) (by omega) _).mono ?_
  rintro e w2 ⟨g', cu', rfl, hg', hcu', hm, ht⟩
  have HKB2 := Lib.hid (HKB1.out.touch ht (fun h => h))
  have hsz1 := HT1.out.size
  have HN2 := Lib.hid (hm.lower hsz1)
  have HM2 := Lib.hid (HM1.out.no ht)
  have HT2 := Lib.hid (HT1.out.trans ht)
  have hgg : g ≠ g' := by have := HM1.out.lt; omega
  have hcc : cu ≠ cu' := by have := HM1.out.lt; omega
  have hgw' : w.heap.size ≤ g' := by omega
  have hcw' : w.heap.size ≤ cu' := by omega
  clear hm ht HM1 HT1 HKB1 hg' hcu'
  go_wp2_with fail
  refine (aw12 _).mono ?_
  rintro e w3 ⟨rfl, ht⟩
  have HKB3 := Lib.hid (HKB2.out.touch ht (fun h => h))
  have HN3 := Lib.hid (HN2.out.no ht)
  have HM3 := Lib.hid (HM2.out.no ht)
  have HT3 := Lib.hid (HT2.out.trans ht)
  clear ht HM2 HT2 HN2 HKB2
  go_wp2_with fail
  refine (r12_few A ls n c HN.out w3 (HR.out.touch_no HT3.out) HNM.out HG.out).mono ?_
  rintro e w4 ⟨rfl, rfl⟩
  obtain ⟨fw, hfw⟩ : ∃ fw, fw = few12 ls := ⟨_, rfl⟩
  rw [← hfw]
  have HFW := Lib.hid hfw
  clear hfw
  cases fw with
  | false =>
    go_wp2_with fail
    refine (aw12 _).mono ?_
    rintro e w4 ⟨rfl, ht⟩
    have HT4 := Lib.hid (HT3.out.trans ht)
    clear ht
    go_wp2
    go_ret
    exact ⟨rfl, HT4.out⟩
  | true =>
  obtain ⟨h300, h30⟩ := of_decide_eq_true HFW.out.symm
  rw [HN.out] at h30
  have H300 := Lib.hid h300
  clear h300
  go_wp2_with fail
  go_loopw [9] (fun iv wr => ∃ (k : Nat) (m : Mc) (v u : Value), k ≤ n ∧ iv = .int .i64 k ∧ IsMv wr w.heap.size g cu m v ∧ IsMv wr w.heap.size g' cu' m u ∧ Hid (∀ b, u.ownBlock = some b → v.ownBlock ≠ some b) ∧ m.good ∧ Blk wr w.heap.size 42 #[.int .u8 ka, .int .u8 kb, .int .u8 kc, .int .u8 kd] ∧ Touch NoS w wr) (fun iv _ => n - (intOf iv).toNat)
  case atStart => exact ⟨0, _, _, _, by omega, rfl, HM3.out, HN3.out, fun b h => (by cases h), Mc.new_good 200 (by omega) (by omega), HKB3.out, HT3.out⟩
  case round =>
    obtain ⟨k, m, v, u, hk, rfl, hm, hn', hvu, hgd, hkb, ht⟩ := hrel
    have HM := Lib.hid hm
    have HNN := Lib.hid hn'
    have HVU := Lib.hid hvu.out
    have HT := Lib.hid ht
    have HGD := Lib.hid hgd
    have HKB := Lib.hid hkb
    have hsz := ht.size
    by_cases hlt : k < n
    · have hk1 : k < ls.length := by rw [HN.out]; exact hlt
      obtain ⟨gA, off, rfl, hgA, a0, a1, a2, a3, a4, a5, a6, a7⟩ := fr_cells (HR.out.touch_no ht) k hk1
      have hfg := HG.out ls[k] (List.getElem_mem hk1)
      have hfz := H300.out ls[k] (List.getElem_mem hk1)
      obtain ⟨f, hf⟩ : ∃ f, f = ls[k] := ⟨_, rfl⟩
      rw [← hf] at a0 a1 a2 a3 a4 a5 a6 a7 hfg hfz
      obtain ⟨fin, op, masked, k0, k1, k2, k3, d⟩ := f
      simp only at a0 a1 a2 a3 a4 a5 a6 a7
      have hfa : (Fr.mk fin op false 0 0 0 0 d).good := ⟨hfg.1, by intro x hx; simp [Fr.key] at hx; omega, hfg.2.2⟩
      have hfb : (Fr.mk fin op true ka kb kc kd d).good := ⟨hfg.1, HKG.out, hfg.2.2⟩
      obtain ⟨m1, e1, is, er, hk2⟩ : ∃ m1 e1 is er, mtake m ⟨fin, op, false, 0, 0, 0, 0, d⟩ = (m1, e1, is, er) := ⟨_, _, _, _, rfl⟩
      have HK1 := Lib.hid hk2
      have HK2 := Lib.hid ((mtake_mask m fin op ka kb kc kd d).trans hk2)
      have HFA := Lib.hid hfa
      have HFB := Lib.hid hfb
      have hdz : d.size ≤ 300 := hfz
      clear hm hn' hvu ht hgd hkb hk1 hfg hf hfa hfb hk2 hfz HM3 HN3 HKB3 HT3
      go_upto_region 8 with (fail)
      go_cut [10, 11] (fun av bv wx => ∃ ga gb, av = .pointer (some ⟨ga, 0, none⟩) ∧ bv = .pointer (some ⟨gb, 0, none⟩) ∧ ga ≠ gb ∧ wr.heap.size ≤ ga ∧ wr.heap.size ≤ gb ∧ Blk wx ga 44 #[.bool fin, .int .i64 op, .bool masked, .int .u8 k0, .int .u8 k1, .int .u8 k2, .int .u8 k3, .string d] ∧ Blk wx gb 44 #[.bool fin, .int .i64 op, .bool masked, .int .u8 k0, .int .u8 k1, .int .u8 k2, .int .u8 k3, .string d] ∧ Touch NoS wr wx)
      case first =>
        go_region
        all_goals
          go_wp2_with fail
          go_meet
        all_goals
          obtain ⟨z1, z2, z3⟩ := two_blocks wr 44 44 #[.bool fin, .int .i64 op, .bool masked, .int .u8 k0, .int .u8 k1, .int .u8 k2, .int .u8 k3, .string d] #[.bool fin, .int .i64 op, .bool masked, .int .u8 k0, .int .u8 k1, .int .u8 k2, .int .u8 k3, .string d]
          first
            | exact ⟨wr.heap.size, wr.heap.size + 1, rfl, rfl, by omega, by omega, by omega, z1, z2, z3⟩
            | exact ⟨wr.heap.size + 1, wr.heap.size, rfl, rfl, by omega, by omega, by omega, z2, z1, z3⟩
      case rest =>
      obtain ⟨ga, gb, rfl, rfl, hab, hga, hgb, hba, hbb, ht⟩ := hcut
      have hma := HM.out.no ht
      have hna := HNN.out.no ht
      have hka := HKB.out.touch ht (fun h => h)
      have hta := HT.out.trans ht
      have hlm := HM.out.lt
      have hln := HNN.out.lt
      have hlk := HKB.out.lt
      have hlv := fun b (hb : v.ownBlock = some b) => (HM.out.row_lt hb).2
      have hlu := fun b (hb : u.ownBlock = some b) => (HNN.out.row_lt hb).2
      have HLV := Lib.hid hlv
      have HLU := Lib.hid hlu
      have HBA := Lib.hid hba
      have HBB := Lib.hid hbb
      have HMA := Lib.hid hma
      have HNA := Lib.hid hna
      have HKA := Lib.hid hka
      have HTA := Lib.hid hta
      obtain ⟨w5, rfl⟩ : ∃ w5 : World, w5 = wc := ⟨_, rfl⟩
      clear hma hna hka hta hlv hlu hba hbb ht HM HNN HKB HT a0 a1 a2 a3 a4 a5 a6 a7 hgA
      have a2 := HBA.out.cell 2
      have a3 := HBA.out.cell 3
      have a4 := HBA.out.cell 4
      have a5 := HBA.out.cell 5
      have a6 := HBA.out.cell 6
      have f2 := HBA.out.frozen 2
      have f3 := HBA.out.frozen 3
      have f4 := HBA.out.frozen 4
      have f5 := HBA.out.frozen 5
      have f6 := HBA.out.frozen 6
      have la := HBA.out.lt
      simp at a2 a3 a4 a5 a6
      go_upto_region 9 with (fail)
      go_cut [] (fun wx => Blk wx ga 44 #[.bool fin, .int .i64 op, .bool false, .int .u8 0, .int .u8 0, .int .u8 0, .int .u8 0, .string d] ∧ Touch (At ga) w5 wx)
      case first =>
        go_wp2_with fail
        go_meet
        exact ⟨((((HBA.out.set_ 2 (.bool false)).set_ 3 (.int .u8 0)).set_ 4 (.int .u8 0)).set_ 5 (.int .u8 0)).set_ 6 (.int .u8 0), (((((Touch.refl (At ga) w5).setAt 2 (.bool false)).setAt 3 (.int .u8 0)).setAt 4 (.int .u8 0)).setAt 5 (.int .u8 0)).setAt 6 (.int .u8 0)⟩
      case rest =>
      obtain ⟨hba, ht⟩ := hcut
      obtain ⟨w6, rfl⟩ : ∃ w6 : World, w6 = wc := ⟨_, rfl⟩
      have HBA6 := Lib.hid hba
      have HBB6 := Lib.hid (HBB.out.touch ht (fun h => hab (Eq.symm h)))
      have HMA6 := Lib.hid (HMA.out.touch ht (by intro h; have : g = ga := h; omega) (by intro h; have : cu = ga := h; omega) (fun b hb h => by have h' : b = ga := h; have := HLV.out b hb; omega))
      have HNA6 := Lib.hid (HNA.out.touch ht (by intro h; have : g' = ga := h; omega) (by intro h; have : cu' = ga := h; omega) (fun b hb h => by have h' : b = ga := h; have := HLU.out b hb; omega))
      have HKA6 := Lib.hid (HKA.out.touch ht (by intro h; have : w.heap.size = ga := h; omega))
      have HTA6 := Lib.hid (HTA.out.then_new ht (fun i h => .inl (by have : i = ga := h; omega)))
      clear hba ht HBA HBB HMA HNA HKA HTA a2 a3 a4 a5 a6 f2 f3 f4 f5 f6 la
      have b2 := HBB6.out.cell 2
      have b3 := HBB6.out.cell 3
      have b4 := HBB6.out.cell 4
      have b5 := HBB6.out.cell 5
      have b6 := HBB6.out.cell 6
      have f2 := HBB6.out.frozen 2
      have f3 := HBB6.out.frozen 3
      have f4 := HBB6.out.frozen 4
      have f5 := HBB6.out.frozen 5
      have f6 := HBB6.out.frozen 6
      have lb := HBB6.out.lt
      have q0 := HKA6.out.cell 0
      have q1 := HKA6.out.cell 1
      have q2 := HKA6.out.cell 2
      have q3 := HKA6.out.cell 3
      have lk := HKA6.out.lt
      simp at b2 b3 b4 b5 b6 q0 q1 q2 q3
      have hkn1 : w.heap.size ≠ gb := by omega
      go_upto_region 10 with (fail)
      go_cut [] (fun wx => Blk wx gb 44 #[.bool fin, .int .i64 op, .bool true, .int .u8 ka, .int .u8 kb, .int .u8 kc, .int .u8 kd, .string d] ∧ Touch (At gb) w6 wx)
      case first =>
        go_region
        all_goals
          go_wp2_with fail
          go_meet
          exact ⟨Blk.drew (((((HBB6.out.set_ 2 (.bool true)).set_ 3 (.int .u8 ka)).set_ 4 (.int .u8 kb)).set_ 5 (.int .u8 kc)).set_ 6 (.int .u8 kd)), Touch.drew ((((((Touch.refl (At gb) w6).setAt 2 (.bool true)).setAt 3 (.int .u8 ka)).setAt 4 (.int .u8 kb)).setAt 5 (.int .u8 kc)).setAt 6 (.int .u8 kd))⟩
      case rest =>
      obtain ⟨hbb, ht⟩ := hcut
      obtain ⟨w7, rfl⟩ : ∃ w7 : World, w7 = wc := ⟨_, rfl⟩
      have HBB7 := Lib.hid hbb
      have HBA7 := Lib.hid (HBA6.out.touch ht (fun h => hab h))
      have HMA7 := Lib.hid (HMA6.out.touch ht (by intro h; have : g = gb := h; omega) (by intro h; have : cu = gb := h; omega) (fun b hb h => by have h' : b = gb := h; have := HLV.out b hb; omega))
      have HNA7 := Lib.hid (HNA6.out.touch ht (by intro h; have : g' = gb := h; omega) (by intro h; have : cu' = gb := h; omega) (fun b hb h => by have h' : b = gb := h; have := HLU.out b hb; omega))
      have HKA7 := Lib.hid (HKA6.out.touch ht (by intro h; have : w.heap.size = gb := h; omega))
      have HTA7 := Lib.hid (HTA6.out.then_new ht (fun i h => .inl (by have : i = gb := h; omega)))
      clear hbb ht HBA6 HBB6 HMA6 HNA6 HKA6 HTA6 b2 b3 b4 b5 b6 f2 f3 f4 f5 f6 lb q0 q1 q2 q3 lk
      have a0 := HBA7.out.cell 0
      have a1 := HBA7.out.cell 1
      have a2 := HBA7.out.cell 2
      have a3 := HBA7.out.cell 3
      have a4 := HBA7.out.cell 4
      have a5 := HBA7.out.cell 5
      have a6 := HBA7.out.cell 6
      have a7 := HBA7.out.cell 7
      have la := HBA7.out.lt
      have hs7 := HTA7.out.size
      simp at a0 a1 a2 a3 a4 a5 a6 a7
      go_wp2_with fail
      refine (im_take HMA7.out HGD.out ⟨fin, op, false, 0, 0, 0, 0, d⟩ HFA.out (by show d.size ≤ _; omega) hs7 _ _ _ _ HK1.out).mono ?_
      rintro e w8 ⟨rfl, ⟨v8, hm, hl⟩, ht, hgd⟩
      have HLC := Lib.hid hl
      have HLT7 := Lib.hid (fun b (hb : u.ownBlock = some b) => (HNA7.out.row_lt hb).2)
      have hm9 := hm.no ((Touch.refl NoS w8).alloc (.cells #[.int .i64 e1.op, .int .i64 e1.code, .string e1.data] 57))
      have hn9 := (MO_other HMA7.out HNA7.out ht hgg hcc HVU.out).no ((Touch.refl NoS w8).alloc (.cells #[.int .i64 e1.op, .int .i64 e1.code, .string e1.data] 57))
      have hb9 := (MO_keep HBB7.out HMA7.out ht (by decide) (by decide) (by decide)).alloc (.cells #[.int .i64 e1.op, .int .i64 e1.code, .string e1.data] 57)
      have hk9 := (MO_keep HKA7.out HMA7.out ht (by decide) (by decide) (by decide)).alloc (.cells #[.int .i64 e1.op, .int .i64 e1.code, .string e1.data] 57)
      have ht9 := (MO_old HTA7.out HMA7.out ht (Nat.le_refl _) hgw hcw).alloc (.cells #[.int .i64 e1.op, .int .i64 e1.code, .string e1.data] 57)
      have hx9 := Blk.new w8 57 #[.int .i64 e1.op, .int .i64 e1.code, .string e1.data]
      have HG9 := Lib.hid hgd
      have HVU9 := Lib.hid (Loc.apart (w1 := w) hl HVU.out HLT7.out)
      clear hm ht hl hgd HMA7 HNA7 HBB7 HKA7 HTA7 HBA7 HVU
      go_upto_region 12 with (fail)
      obtain ⟨w9, hw9⟩ : ∃ w9, w9 = w8.alloc (.cells #[.int .i64 e1.op, .int .i64 e1.code, .string e1.data] 57) := ⟨_, rfl⟩
      obtain ⟨gx, hgx⟩ : ∃ gx, gx = w8.heap.size := ⟨_, rfl⟩
      rw [← hw9] at hm9 hn9 hb9 hk9 ht9 hx9 ⊢
      rw [← hgx] at hx9 ⊢
      have HM9 := Lib.hid hm9
      have HN9 := Lib.hid hn9
      have HK9 := Lib.hid hk9
      have HT9 := Lib.hid ht9
      have HX9 := Lib.hid hx9
      have hs9 := ht9.size
      clear a0 a1 a2 a3 a4 a5 a6 a7 la
      have b0 := hb9.cell 0
      have b1 := hb9.cell 1
      have b2 := hb9.cell 2
      have b3 := hb9.cell 3
      have b4 := hb9.cell 4
      have b5 := hb9.cell 5
      have b6 := hb9.cell 6
      have b7 := hb9.cell 7
      have lb := hb9.lt
      simp at b0 b1 b2 b3 b4 b5 b6 b7
      clear hm9 hn9 hb9 hk9 ht9 hx9 hw9 hgx
      go_wp2_with fail
      refine (im_take HN9.out HGD.out ⟨fin, op, true, ka, kb, kc, kd, d⟩ HFB.out (by show d.size ≤ _; omega) hs9 _ _ _ _ HK2.out).mono ?_
      rintro e w10 ⟨rfl, ⟨u10, hm, hl⟩, ht, hgd⟩
      have hnn := hm.no ((Touch.refl NoS w10).alloc (.cells #[.int .i64 e1.op, .int .i64 e1.code, .string e1.data] 57))
      have hmm := (MO_other HN9.out HM9.out ht hgg.symm hcc.symm (fun b hb h => HVU9.out b h hb)).no ((Touch.refl NoS w10).alloc (.cells #[.int .i64 e1.op, .int .i64 e1.code, .string e1.data] 57))
      have hxx := (MO_keep HX9.out HN9.out ht (by decide) (by decide) (by decide)).alloc (.cells #[.int .i64 e1.op, .int .i64 e1.code, .string e1.data] 57)
      have hkk := (MO_keep HK9.out HN9.out ht (by decide) (by decide) (by decide)).alloc (.cells #[.int .i64 e1.op, .int .i64 e1.code, .string e1.data] 57)
      have htt := (MO_old HT9.out HN9.out ht (Nat.le_refl _) hgw' hcw').alloc (.cells #[.int .i64 e1.op, .int .i64 e1.code, .string e1.data] 57)
      have hyy := Blk.new w10 57 #[.int .i64 e1.op, .int .i64 e1.code, .string e1.data]
      have HVU11 := Lib.hid (fun b hb h => Loc.apart (w1 := w) hl (fun b hb h => HVU9.out b h hb) (fun b hb => (HM9.out.row_lt hb).2) b h hb : ∀ b, u10.ownBlock = some b → v8.ownBlock ≠ some b)
      clear hm ht hl hgd HM9 HN9 HK9 HT9 HX9 HVU9 b0 b1 b2 b3 b4 b5 b6 b7 lb
      go_upto_region 13 with (fail)
      obtain ⟨w11, hw11⟩ : ∃ w11, w11 = w10.alloc (.cells #[.int .i64 e1.op, .int .i64 e1.code, .string e1.data] 57) := ⟨_, rfl⟩
      obtain ⟨gy, hgy⟩ : ∃ gy, gy = w10.heap.size := ⟨_, rfl⟩
      rw [← hw11] at hnn hmm hxx hkk htt hyy ⊢
      rw [← hgy] at hyy ⊢
      have HM11 := Lib.hid hmm
      have HN11 := Lib.hid hnn
      have HK11 := Lib.hid hkk
      have HT11 := Lib.hid htt
      have x0 := hxx.cell 0
      have x1 := hxx.cell 1
      have x2 := hxx.cell 2
      have y0 := hyy.cell 0
      have y1 := hyy.cell 1
      have y2 := hyy.cell 2
      have lx := hxx.lt
      have ly := hyy.lt
      simp at x0 x1 x2 y0 y1 y2
      have kn := neq_ev_all e1 e1 true (Ev.same_self _)
      have q5 : (is != is) = false := bne_self_eq_false _
      have q6 : (er != er) = false := bne_self_eq_false _
      have q7 : ((m1.part.size : Int) != (m1.part.size : Int)) = false := bne_self_eq_false _
      clear hnn hmm hxx hkk htt hyy hw11 hgy
      go_wp2_with fail
      refine (im_part HM11.out m1.part.size rfl).mono ?_
      rintro e w12 ⟨rfl, rfl⟩
      go_wp2_with fail
      refine (im_part HN11.out m1.part.size rfl).mono ?_
      rintro e w12 ⟨rfl, rfl⟩
      go_wp2_with fail
      go_roundw
      · exact ⟨k + 1, m1, v8, u10, by omega, by go_num, HM11.out, HN11.out, HVU11.out, HG9.out, HK11.out, HT11.out⟩
      · simp [intOf]; omega
    · have hkn : k = n := by omega
      subst hkn
      clear hm hn' hvu ht hgd hkb
      go_wp2_with fail
      refine (im_over HM.out).mono ?_
      rintro e w4 ⟨rfl, rfl⟩
      go_wp2_with fail
      refine (im_over HNN.out).mono ?_
      rintro e w4 ⟨rfl, rfl⟩
      obtain ⟨er, her⟩ : ∃ x, x = m.err := ⟨_, rfl⟩
      have HER := Lib.hid her
      have q1 : (m.over == m.over) = true := beq_self_eq_true _
      have q2 : (er == er) = true := beq_self_eq_true _
      clear her
      go_wp2_with fail
      refine (im_err HM.out).mono ?_
      rintro e w4 ⟨rfl, rfl⟩
      rw [← HER.out]
      go_wp2_with fail
      refine (im_err HNN.out).mono ?_
      rintro e w4 ⟨rfl, rfl⟩
      rw [← HER.out]
      go_wp2
      go_ret
      exact ⟨rfl, HT.out⟩
end Go.Proofs.Ytkhppojlabajaaa
