/- msg: Take. | Events: equality, rows of them. | msg: its methods on a machine; law12: awake. | leg: a whole side in memory (IsL), what it owns (LF), what its parts' acts keep. -/
import Derived.Test.YtlnabpoohnphiaaGreatB16
import Derived.Test.YtlnabpoohnphiaaGreatB13
import Derived.Test.YtlnabpoohnphiaaGreatB04
import Derived.Test.YtlnabpoohnphiaaGreatB08
/- msg: Take. -/
namespace Go.Proofs.YtlnabpoohnphiaaGreat
open Go.RowKit
set_option linter.unusedSimpArgs false
set_option linter.unusedVariables false

theorem take_results (tmps : Array Value) (w : World) (x : Ev) (g : Nat) (b : Bool) (e : Int) (h4 : tmps.getD 4 undef = .pointer (some ⟨g, 0, none⟩)) (h5 : tmps.getD 5 undef = .bool b) (h6 : tmps.getD 6 undef = .int .i64 e)
    (hb : Blk w g 37 (evAgg x)) : (results Tryz.f105 tmps).run Tryz.prog w = .ok (.tuple #[.agg (evAgg x), .bool b, .int .i64 e]) w := by
  have hld := ev_load hb rfl
  obtain ⟨a, b, c⟩ := x
  have c0 := hb.cell 0
  have c1 := hb.cell 1
  have c2 := hb.cell 2
  simp only [Array.getD_eq_getD_getElem?] at h4 h5 h6
  simp [evAgg] at c0 c1 c2
  simp [results, Tryz.results105, go_sem, h4, h5, h6, c0, c1, c2, hld]
theorem pair_blocks (w : World) (t1 t2 : TypeId) (c1 c2 : Array Value) : Blk ((w.alloc (.cells c1 t1)).alloc (.cells c2 t2)) w.heap.size t1 c1 ∧ Blk ((w.alloc (.cells c1 t1)).alloc (.cells c2 t2)) (w.heap.size + 1) t2 c2 ∧ Touch NoS w ((w.alloc (.cells c1 t1)).alloc (.cells c2 t2)) := by
  refine ⟨(Blk.new w t1 c1).alloc _, ?_, ((Touch.refl _ _).alloc _).alloc _⟩
  have := Blk.new (w.alloc (.cells c1 t1)) t2 c2
  simpa using this
theorem IsMv_row {w : World} {base g cu b : Nat} {c : Mc} {v : Value} {t : TypeId} {cs : Array Value} (h : IsMv w base g cu c v) (hb : Blk w b t cs) (h1 : b ≠ g) (h2 : b ≠ cu) (h3 : 5 ≠ t) (cs' : Array Value) : IsMv (w.setRow b cs') base g cu c v := by
  have hfar : ∀ k, k ≠ b → (w.setRow b cs').heap[k]? = w.heap[k]? := fun k hk => setRow_other w b k cs' hk
  have ht : Touch (At b) w (w.setRow b cs') := ⟨rfl, rfl, rfl, by simp, fun k _ hk => hfar k hk⟩
  exact h.touch ht (fun h => h1 (Eq.symm h)) (fun h => h2 (Eq.symm h)) (fun k hk he => by
    have he' : k = b := he
    subst he'
    exact own_ne h.2.1 hb h3 hk)

set_option maxHeartbeats 12800000 in
set_option maxRecDepth 100000 in
theorem m_take_v (base g cu : Nat) (c : Mc) (hc : c.good) (f : Fr) (hf : f.good) (hz : f.data.size ≤ 100000000) (w : World) (v : Value) (h : IsMv w base g cu c v) (hbs : base ≤ w.heap.size) :
    Calls Tryz.prog 105 #[.pointer (some ⟨g, 0, none⟩), .agg f.cs] w fun x w' => x = .returned (.tuple #[.agg (evAgg (mtake c f).2.1), .bool (mtake c f).2.2.1, .int .i64 (mtake c f).2.2.2]) ∧ (∃ v1, IsMv w' base g cu (mtake c f).1 v1 ∧ Loc w v v1) ∧ Touch (MO g cu v) w w' := by
  obtain ⟨R, hR⟩ : ∃ R, R = mtake c f := ⟨_, rfl⟩
  rw [← hR]
  have H := Lib.hid h
  have HC := Lib.hid hc
  have hul := h.lt
  obtain ⟨hgl, hul⟩ := hul
  obtain ⟨hb, ho, hu⟩ := h
  have HB := Lib.hid hb
  have HO := Lib.hid ho
  have HU := Lib.hid hu
  have hneg : w.heap.size + 1 ≠ g := by omega
  have hneu : w.heap.size + 1 ≠ cu := by omega
  have HFC := Lib.hid (fun W => f_check f hf W)
  have HFK := Lib.hid (fun W => f_control f.op W)
  have HEN := Lib.hid (fun W h hb => m_end base g cu c f (by unfold maxLen; omega) W v h hb)
  have HDA := Lib.hid (fun W (h : IsMv W base g cu c v) hb ho => m_data_v base g cu c hc f hz ho v W h.1 h.2.1 h.2.2 hb)
  obtain ⟨ck, hck⟩ : ∃ x, x = check9 f := ⟨_, rfl⟩
  obtain ⟨me, hme⟩ : ∃ x, x = mend c f := ⟨_, rfl⟩
  obtain ⟨md, hmd⟩ : ∃ x, x = mdata c f := ⟨_, rfl⟩
  have hop : ck ≠ 91 → (8 ≤ f.op ∧ f.op ≤ 10) ∨ (0 ≤ f.op ∧ f.op ≤ 2) := fun h => check_op (by rw [← hck]; exact h)
  unfold mtake at hR
  rw [← hck] at HFC hR
  rw [← hme] at HEN hR
  rw [← hmd] at HDA hR
  have HR := Lib.hid hR
  have HOPS := Lib.hid hop
  obtain ⟨ct, hct⟩ : ∃ b, b = control9 f.op := ⟨_, rfl⟩
  rw [← hct] at HFK HR
  have HCT := Lib.hid hct
  obtain ⟨fin, op, masked, k0, k1, k2, k3, d⟩ := f
  simp only [Fr.cs] at *
  clear hb ho hu hR hc hf hz hck hme hmd hop hct
  have c4 := HB.out.cell 4
  have c5 := HB.out.cell 5
  simp [mCells] at c4 c5
  go_enter Tryz.func105, Tryz.ntmps105
  go_upto_region 1 with (fail)
  obtain ⟨w1, hw1⟩ : ∃ w1, w1 = ((w.alloc (.cells #[.bool fin, .int .i64 op, .bool masked, .int .u8 k0, .int .u8 k1, .int .u8 k2, .int .u8 k3, .string d] 42)).alloc (.cells #[.int .i64 0, .int .i64 0, .string ⟨#[]⟩] 37)) := ⟨_, rfl⟩
  obtain ⟨hbf, hbr, ht⟩ := pair_blocks w 42 37 #[.bool fin, .int .i64 op, .bool masked, .int .u8 k0, .int .u8 k1, .int .u8 k2, .int .u8 k3, .string d] #[.int .i64 0, .int .i64 0, .string ⟨#[]⟩]
  rw [← hw1] at hbf hbr ht ⊢
  have HBF := Lib.hid hbf
  have HBR := Lib.hid hbr
  have HT1 := Lib.hid ht
  have H1 := Lib.hid (H.out.no ht)
  have HB1 := Lib.hid (HB.out.touch ht (fun h => h))
  clear hw1 hbf hbr ht c4 c5
  have c4 := HB1.out.cell 4
  have c5 := HB1.out.cell 5
  have b0 := HBF.out.cell 0
  have b1 := HBF.out.cell 1
  have b2 := HBF.out.cell 2
  have b3 := HBF.out.cell 3
  have b4 := HBF.out.cell 4
  have b5 := HBF.out.cell 5
  have b6 := HBF.out.cell 6
  have b7 := HBF.out.cell 7
  have r0 := HBR.out.cell 0
  have r1 := HBR.out.cell 1
  have r2 := HBR.out.cell 2
  have q0 := HBR.out.frozen 0
  have q1 := HBR.out.frozen 1
  have q2 := HBR.out.frozen 2
  have l0 := HBF.out.lt
  have l1 := HBR.out.lt
  have l2 := HB1.out.lt
  simp [mCells] at c4 c5 b0 b1 b2 b3 b4 b5 b6 b7 r0 r1 r2
  by_cases her : c.err = 0
  case neg =>
    have q1 : (c.err != 0) = true := by rw [bne_iff_ne]; exact her
    have HM := Lib.hid (HR.out.trans (if_pos her))
    clear her
    go_wp2_with fail
    go_region
    go_wp2_with fail
    have hb9 : Blk (((w1.setCell ⟨w.heap.size + 1, 0, none⟩ (.int .i64 0)).setCell ⟨w.heap.size + 1, 1, none⟩ (.int .i64 0)).setCell ⟨w.heap.size + 1, 2, none⟩ (.string ⟨#[]⟩)).drew (w.heap.size + 1) 37 (evAgg Ev.zero) := Blk.drew (((HBR.out.set_ 0 _).set_ 1 _).set_ 2 _)
    have ht9 : Touch NoS w (((w1.setCell ⟨w.heap.size + 1, 0, none⟩ (.int .i64 0)).setCell ⟨w.heap.size + 1, 1, none⟩ (.int .i64 0)).setCell ⟨w.heap.size + 1, 2, none⟩ (.string ⟨#[]⟩)).drew := Touch.drew (((HT1.out.setNew (by show w.heap.size ≤ w.heap.size + 1; omega) _).setNew (by show w.heap.size ≤ w.heap.size + 1; omega) _).setNew (by show w.heap.size ≤ w.heap.size + 1; omega) _)
    refine bodyPost_ret (v := .tuple #[.agg (evAgg Ev.zero), .bool false, .int .i64 c.err]) (take_results _ _ Ev.zero _ _ _ rfl rfl rfl hb9) rfl ?_
    rw [HM.out]
    exact ⟨rfl, ⟨v, H.out.no ht9, Loc.refl _ _⟩, ht9.of_no⟩
  have q3 : (c.err != 0) = false := by rw [her]; rfl
  have HR1 := Lib.hid (HR.out.trans (if_neg (fun h => h her)))
  clear her
  cases hov : c.over with
  | true =>
    have HM := Lib.hid (HR1.out.trans (if_pos hov))
    rw [hov] at c4
    clear hov
    go_wp2_with fail
    have hb9 : Blk (((w1.setCell ⟨w.heap.size + 1, 0, none⟩ (.int .i64 0)).setCell ⟨w.heap.size + 1, 1, none⟩ (.int .i64 0)).setCell ⟨w.heap.size + 1, 2, none⟩ (.string ⟨#[]⟩)) (w.heap.size + 1) 37 (evAgg Ev.zero) := (((HBR.out.set_ 0 _).set_ 1 _).set_ 2 _)
    have ht9 : Touch NoS w (((w1.setCell ⟨w.heap.size + 1, 0, none⟩ (.int .i64 0)).setCell ⟨w.heap.size + 1, 1, none⟩ (.int .i64 0)).setCell ⟨w.heap.size + 1, 2, none⟩ (.string ⟨#[]⟩)) := (((HT1.out.setNew (by show w.heap.size ≤ w.heap.size + 1; omega) _).setNew (by show w.heap.size ≤ w.heap.size + 1; omega) _).setNew (by show w.heap.size ≤ w.heap.size + 1; omega) _)
    refine bodyPost_ret (v := .tuple #[.agg (evAgg Ev.zero), .bool false, .int .i64 0]) (take_results _ _ Ev.zero _ _ _ rfl rfl rfl hb9) rfl ?_
    rw [HM.out]
    exact ⟨rfl, ⟨v, H.out.no ht9, Loc.refl _ _⟩, ht9.of_no⟩
  | false =>
  have HR2 := Lib.hid (HR1.out.trans (if_neg (by rw [hov]; simp)))
  rw [hov] at c4
  clear hov
  go_wp2_with fail
  refine (HFC.out _).mono ?_
  rintro e w2 ⟨rfl, ht⟩
  have HBF2 := Lib.hid (HBF.out.touch ht (fun h => h))
  have HBR2 := Lib.hid (HBR.out.touch ht (fun h => h))
  have HB2 := Lib.hid (HB1.out.touch ht (fun h => h))
  have H2 := Lib.hid (H1.out.no ht)
  have HT2 := Lib.hid (HT1.out.trans ht)
  clear ht b0 b1 b2 b3 b4 b5 b6 b7 r0 r1 r2 q0 q1 q2 l0 l1 l2 c4 c5 HBF HBR HB1 H1 HT1 HFC
  have b0 := HBF2.out.cell 0
  have b1 := HBF2.out.cell 1
  have b2 := HBF2.out.cell 2
  have b3 := HBF2.out.cell 3
  have b4 := HBF2.out.cell 4
  have b5 := HBF2.out.cell 5
  have b6 := HBF2.out.cell 6
  have b7 := HBF2.out.cell 7
  have r0 := HBR2.out.cell 0
  have r1 := HBR2.out.cell 1
  have r2 := HBR2.out.cell 2
  have q0 := HBR2.out.frozen 0
  have q1 := HBR2.out.frozen 1
  have q2 := HBR2.out.frozen 2
  have l0 := HBF2.out.lt
  have l1 := HBR2.out.lt
  simp at b0 b1 b2 b3 b4 b5 b6 b7 r0 r1 r2
  have hs2 := HT2.out.size
  by_cases hck : ck = 91
  · have HM := Lib.hid (HR2.out.trans (if_pos hck))
    subst hck
    go_wp2_with fail
    refine (m_stop g c.most c.op v cu c.over c.err 120 _ HB2.out).mono ?_
    rintro e w9 ⟨rfl, hb9, ht9⟩
    have HB9 := Lib.hid hb9
    have HT9 := Lib.hid ht9
    have HBR9 := Lib.hid (Blk.touch HBR2.out ht9 hneg)
    have hu2 : Blk w2 cu _ _ := Blk.touch (S := NoS) (w := w) HU.out HT2.out (fun h => h)
    have HU9 := Lib.hid (Blk.touch hu2 ht9 (fun h => (Blk.ne_ hu2 HB2.out (by decide)) h))
    clear hb9 ht9 hu2
    go_wp2_with (refine wpList_store_row rfl 37 (.tmp 4) (.tmp 30) rfl (w.heap.size + 1) #[.int .i64 0, .int .i64 0, .string ⟨#[]⟩] rfl rfl 37 #[.int .i64 0, .int .i64 0, .string ⟨#[]⟩] HBR9.out ev_info rfl (ev_one _ _ _) ?_; rw [setRow_same HBR9.out])
    refine bodyPost_ret (v := .tuple #[.agg (evAgg Ev.zero), .bool false, .int .i64 120]) (take_results _ _ Ev.zero _ _ _ rfl rfl rfl HBR9.out) rfl ?_
    rw [HM.out]
    exact ⟨rfl, ⟨.slice none 0 0, ⟨HB9.out, own_nil _ _ _ _, HU9.out⟩, Loc.nil_ _ _⟩, HT2.out.of_no.trans (HT9.out.mono fun k hk => .inl hk)⟩
  have HR3 := Lib.hid (HR2.out.trans (if_neg hck))
  have hckq : (ck == 91) = false := by rw [beq_eq_false_iff_ne]; exact hck
  have hopr := HOPS.out hck
  clear hck
  by_cases h8 : op = 8
  · have HM := Lib.hid (HR3.out.trans (if_pos h8))
    subst h8
    clear hopr
    go_wp2_with fail
    refine (HEN.out _ H2.out (by omega)).mono ?_
    rintro e w9 ⟨rfl, ⟨v1, hm9, hlc9⟩, ht9⟩
    have HLC9 := Lib.hid hlc9
    have HM9 := Lib.hid hm9
    have HT9 := Lib.hid ht9
    have hbr9 : Blk w9 (w.heap.size + 1) 37 #[.int .i64 0, .int .i64 0, .string ⟨#[]⟩] := MO_blk HBR2.out H2.out ht9 (by decide) hneg hneu
    have HBR9 := Lib.hid hbr9
    clear hm9 ht9 hbr9 hlc9
    obtain ⟨mc, ⟨mo, mcd, mdt⟩, mb, mer⟩ := me
    simp only [evAgg] at *
    go_wp2_with (refine wpList_store_row rfl 37 (.tmp 4) (.tmp 40) rfl (w.heap.size + 1) #[.int .i64 mo, .int .i64 mcd, .string mdt] rfl rfl 37 #[.int .i64 0, .int .i64 0, .string ⟨#[]⟩] HBR9.out ev_info rfl (ev_one _ _ _) ?_)
    have hbr : Blk (w9.setRow (w.heap.size + 1) #[.int .i64 mo, .int .i64 mcd, .string mdt]) (w.heap.size + 1) 37 (evAgg ⟨mo, mcd, mdt⟩) := HBR9.out.row
    refine bodyPost_ret (v := .tuple #[.agg (evAgg ⟨mo, mcd, mdt⟩), .bool mb, .int .i64 mer]) (take_results _ _ ⟨mo, mcd, mdt⟩ _ _ _ rfl rfl rfl hbr) rfl ?_
    rw [HM.out]
    exact ⟨rfl, ⟨v1, IsMv_row HM9.out HBR9.out hneg hneu (by decide) _, Loc.trans (Loc.refl _ _) HLC9.out HT2.out.size⟩, (HT2.out.of_no.trans HT9.out).row (by omega) _⟩
  have HR4 := Lib.hid (HR3.out.trans (if_neg h8))
  have h8q : (op == 8) = false := by rw [beq_eq_false_iff_ne]; exact h8
  cases hctv : ct with
  | true =>
    have HM := Lib.hid (HR4.out.trans (if_pos hctv))
    rw [hctv] at HFK
    clear h8 hopr hctv
    go_wp2_with fail
    refine (HFK.out _).mono ?_
    rintro e w3 ⟨rfl, rfl⟩
    go_wp2_with fail
    have hb9 : Blk (((w2.setCell ⟨w.heap.size + 1, 0, none⟩ (.int .i64 op)).setCell ⟨w.heap.size + 1, 1, none⟩ (.int .i64 0)).setCell ⟨w.heap.size + 1, 2, none⟩ (.string d)) (w.heap.size + 1) 37 (evAgg ⟨op, 0, d⟩) := (((HBR2.out.set_ 0 _).set_ 1 _).set_ 2 _)
    have ht9 : Touch NoS w (((w2.setCell ⟨w.heap.size + 1, 0, none⟩ (.int .i64 op)).setCell ⟨w.heap.size + 1, 1, none⟩ (.int .i64 0)).setCell ⟨w.heap.size + 1, 2, none⟩ (.string d)) := (((HT2.out.setNew (by show w.heap.size ≤ w.heap.size + 1; omega) _).setNew (by show w.heap.size ≤ w.heap.size + 1; omega) _).setNew (by show w.heap.size ≤ w.heap.size + 1; omega) _)
    refine bodyPost_ret (v := .tuple #[.agg (evAgg ⟨op, 0, d⟩), .bool true, .int .i64 0]) (take_results _ _ ⟨op, 0, d⟩ _ _ _ rfl rfl rfl hb9) rfl ?_
    rw [HM.out]
    exact ⟨rfl, ⟨v, H.out.no ht9, Loc.refl _ _⟩, ht9.of_no⟩
  | false =>
    have HM := Lib.hid (HR4.out.trans (if_neg (by rw [hctv]; simp)))
    have hnc : ¬ (8 ≤ op ∧ op ≤ 10) := fun h => by
      have h2 := HCT.out
      rw [hctv] at h2
      have h3 := of_decide_eq_false h2.symm
      exact h3 h
    have hop3 : op = 0 ∨ op = 1 ∨ op = 2 := by omega
    have HDB := Lib.hid (fun W h hb => HDA.out W h hb hop3)
    rw [hctv] at HFK
    clear h8 hopr hctv hnc hop3 HDA
    go_wp2_with fail
    refine (HFK.out _).mono ?_
    rintro e w3 ⟨rfl, rfl⟩
    go_wp2_with fail
    refine (HDB.out _ H2.out (by omega)).mono ?_
    rintro e w9 ⟨rfl, ⟨v1, hm9, hlc9⟩, ht9⟩
    have HLC9 := Lib.hid hlc9
    have HM9 := Lib.hid hm9
    have HT9 := Lib.hid ht9
    have hbr9 : Blk w9 (w.heap.size + 1) 37 #[.int .i64 0, .int .i64 0, .string ⟨#[]⟩] := MO_blk HBR2.out H2.out ht9 (by decide) hneg hneu
    have HBR9 := Lib.hid hbr9
    clear hm9 ht9 hbr9 hlc9
    obtain ⟨mc, ⟨mo, mcd, mdt⟩, mb, mer⟩ := md
    simp only [evAgg] at *
    go_wp2_with (refine wpList_store_row rfl 37 (.tmp 4) (.tmp 55) rfl (w.heap.size + 1) #[.int .i64 mo, .int .i64 mcd, .string mdt] rfl rfl 37 #[.int .i64 0, .int .i64 0, .string ⟨#[]⟩] HBR9.out ev_info rfl (ev_one _ _ _) ?_)
    have hbr : Blk (w9.setRow (w.heap.size + 1) #[.int .i64 mo, .int .i64 mcd, .string mdt]) (w.heap.size + 1) 37 (evAgg ⟨mo, mcd, mdt⟩) := HBR9.out.row
    refine bodyPost_ret (v := .tuple #[.agg (evAgg ⟨mo, mcd, mdt⟩), .bool mb, .int .i64 mer]) (take_results _ _ ⟨mo, mcd, mdt⟩ _ _ _ rfl rfl rfl hbr) rfl ?_
    rw [HM.out]
    exact ⟨rfl, ⟨v1, IsMv_row HM9.out HBR9.out hneg hneu (by decide) _, Loc.trans (Loc.refl _ _) HLC9.out HT2.out.size⟩, (HT2.out.of_no.trans HT9.out).row (by omega) _⟩
end Go.Proofs.YtlnabpoohnphiaaGreat
/- Events: equality, rows of them. -/
namespace Go.Proofs.YtlnabpoohnphiaaGreat
open Go.RowKit
set_option linter.unusedSimpArgs false
set_option linter.unusedVariables false

def Ev.same (a b : Ev) : Bool := decide (a.op = b.op ∧ a.code = b.code ∧ a.data = b.data)
theorem Ev.same_iff (a b : Ev) : a.same b = true ↔ a = b := by
  obtain ⟨o, c, d⟩ := a
  obtain ⟨o', c', d'⟩ := b
  simp [Ev.same]
theorem Ev.same_self (a : Ev) : a.same a = true := (Ev.same_iff a a).2 rfl
instance : DecidableEq Ev := fun a b => decidable_of_iff (a.same b = true) (Ev.same_iff a b)
theorem ev_part0 (w : World) (e : Ev) : (Go.part 3 #[.int .i64 e.op, .int .i64 e.code, .string e.data] 0).run Tryz.prog w = .ok (.int .i64 e.op) w := by kernel_rfl
theorem ev_part1 (w : World) (e : Ev) : (Go.part 3 #[.int .i64 e.op, .int .i64 e.code, .string e.data] 1).run Tryz.prog w = .ok (.int .i64 e.code) w := by kernel_rfl
theorem ev_part2 (w : World) (e : Ev) : (Go.part 9 #[.int .i64 e.op, .int .i64 e.code, .string e.data] 2).run Tryz.prog w = .ok (.string e.data) w := by kernel_rfl
theorem ev_equal (w : World) (f g : Ev) : (Op.equalIn 10000 37 f.val g.val).run Tryz.prog w = .ok (f.same g) w := by
  unfold Ev.val
  rw [run_equalIn_struct w 9999 37 #[.int .i64 f.op, .int .i64 f.code, .string f.data] #[.int .i64 g.op, .int .i64 g.code, .string g.data] (by kernel_rfl) (by kernel_rfl)]
  simp only [Program.fieldsOf, Tryz.underlying37]
  simp only [Op.eqFields, Sem.run_bind, Sem.run_ite, ne_eq, String.reduceEq, not_false_eq_true, if_true, ev_part0, ev_part1, ev_part2, Result.andThen_ok, Sem.run_pure,
    run_equalIn_int w 9998 3 .i64 .i64 _ _ Tryz.underlying3, run_equalIn_string w 9998 9 _ _ Tryz.underlying9, str_eq]
  unfold Ev.same
  by_cases h0 : f.op = g.op
  · by_cases h1 : f.code = g.code
    · simp only [h0, h1, beq_self_eq_true, Bool.not_true, Bool.false_eq_true, if_false, true_and]
      by_cases h4 : f.data = g.data <;> simp [h4]
    · have h1' : (f.code == g.code) = false := by rw [beq_eq_false_iff_ne]; exact h1
      simp only [h0, h1, h1', beq_self_eq_true, Bool.not_true, Bool.false_eq_true, if_false, true_and, Bool.not_false, if_true, false_and, decide_false]
  · have h0' : (f.op == g.op) = false := by rw [beq_eq_false_iff_ne]; exact h0
    simp only [h0, h0', Bool.not_false, if_true, false_and, decide_false]
theorem eql_ev_all (f g : Ev) (b : Bool) (hb : f.same g = b) : ∀ W, (binOp .eql 37 (.agg #[.int .i64 f.op, .int .i64 f.code, .string f.data]) (.agg #[.int .i64 g.op, .int .i64 g.code, .string g.data])).run Tryz.prog W = .ok (.bool b) W := fun W => by
  have := run_eql_struct (P := Tryz.prog) W 37 #[.int .i64 f.op, .int .i64 f.code, .string f.data] #[.int .i64 g.op, .int .i64 g.code, .string g.data]
  have h := ev_equal W f g
  unfold Ev.val at h
  rw [h, hb] at this
  exact this
theorem neq_ev_all (f g : Ev) (b : Bool) (hb : f.same g = b) : ∀ W, (binOp .neq 37 (.agg #[.int .i64 f.op, .int .i64 f.code, .string f.data]) (.agg #[.int .i64 g.op, .int .i64 g.code, .string g.data])).run Tryz.prog W = .ok (.bool (!b)) W := fun W => by
  have := run_neq_struct (P := Tryz.prog) W 37 #[.int .i64 f.op, .int .i64 f.code, .string f.data] #[.int .i64 g.op, .int .i64 g.code, .string g.data]
  have h := ev_equal W f g
  unfold Ev.val at h
  rw [h, hb] at this
  exact this
theorem ev_cells {w : World} {A : Option Addr} {l : List Ev} (h : Rd w A (evCells l)) (k : Nat) (hk : k < l.length) : ∃ g off, A = some ⟨g, off, none⟩ ∧ g < w.heap.size ∧
    w.cell? ⟨g, off + k * 3, none⟩ = some (.int .i64 l[k].op) ∧ w.cell? ⟨g, off + k * 3 + 1, none⟩ = some (.int .i64 l[k].code) ∧ w.cell? ⟨g, off + k * 3 + 2, none⟩ = some (.string l[k].data) := by
  have hf := flat_at Ev.cs 3 (fun _ => rfl) l k hk
  obtain ⟨g, off, hA, hg, hc⟩ := h (by intro he; have := hf 0 (by omega); unfold evCells at he; rw [he] at this; simp [Ev.cs] at this)
  have hc' : ∀ j (hj : j < 3) u, (Ev.cs l[k])[j]? = some u → w.cell? ⟨g, off + k * 3 + j, none⟩ = some u := fun j hj u hu => by
    rw [Nat.add_assoc]; exact hc _ u ((hf j hj).trans hu)
  exact ⟨g, off, hA, hg, hc' 0 (by omega) _ rfl, hc' 1 (by omega) _ rfl, hc' 2 (by omega) _ rfl⟩
end Go.Proofs.YtlnabpoohnphiaaGreat
/- msg: its methods on a machine; law12: awake. -/
namespace Go.Proofs.YtlnabpoohnphiaaGreat
open Go.RowKit
set_option linter.unusedSimpArgs false
set_option linter.unusedVariables false

section
variable {w w' w0 : World} {base g cu : Nat} {c : Mc} {v : Value}
theorem MO_keep {b : Nat} {t : TypeId} {cs : Array Value} (h : Blk w b t cs) (hs : IsMv w base g cu c v) (k : Touch (MO g cu v) w w') (h1 : t ≠ 5) (h2 : t ≠ 143) (h3 : t ≠ 165) : Blk w' b t cs :=
  MO_blk h hs k h1 (h.ne_ hs.1 h2) (Blk.ne_ h hs.2.2 h3)
/-- Take, what it comes to being known. -/
theorem im_take (h : IsMv w base g cu c v) (hc : c.good) (f : Fr) (hf : f.good) (hz : f.data.size ≤ 100000000) (hbs : base ≤ w.heap.size) (c' : Mc) (x : Ev) (is : Bool) (er : Int) (hk : mtake c f = (c', x, is, er)) :
    Calls Tryz.prog 105 #[.pointer (some ⟨g, 0, none⟩), .agg f.cs] w fun r w' => r = .returned (.tuple #[.agg #[.int .i64 x.op, .int .i64 x.code, .string x.data], .bool is, .int .i64 er]) ∧ (∃ v1, IsMv w' base g cu c' v1 ∧ Loc w v v1) ∧ Touch (MO g cu v) w w' ∧ c'.good := by
  have := m_take_v base g cu c hc f hf hz w v h hbs
  have hg := mtake_good hc f
  rw [hk] at this hg
  exact this.mono fun r w' ⟨h1, h2, h3⟩ => ⟨h1, h2, h3, hg⟩
end
theorem fr_good (fin : Bool) (op : Int) (h : 0 ≤ op ∧ op ≤ 15) (d : ByteArray) (hd : d.size ≤ maxLen) : (Fr.mk fin op false 0 0 0 0 d).good :=
  ⟨(Lit.wf_int_iff .i64 op).2 ⟨by show -9223372036854775808 ≤ op; omega, by show op ≤ 9223372036854775807; omega⟩, by intro x hx; simp [Fr.key] at hx; omega, hd⟩

def c12a : Mc := ⟨100, 1, ⟨#[72, 101]⟩, (ufeed Uc.new [72, 101]).1, false, 0⟩
theorem aw12_1 : mtake (Mc.new 100) ⟨false, 1, false, 0, 0, 0, 0, ⟨#[72, 101]⟩⟩ = (c12a, Ev.zero, false, 0) := by kernel_rfl
theorem aw12_2 : mtake c12a ⟨true, 9, false, 0, 0, 0, 0, ⟨#[112]⟩⟩ = (c12a, ⟨9, 0, ⟨#[112]⟩⟩, true, 0) := by kernel_rfl
def c12b : Mc := ⟨100, 0, ⟨#[]⟩, (ufeed Uc.new [72, 101, 108, 108, 111]).1, false, 0⟩
theorem aw12_3 : mtake c12a ⟨true, 0, false, 0, 0, 0, 0, ⟨#[108, 108, 111]⟩⟩ = (c12b, ⟨1, 0, ⟨#[72, 101, 108, 108, 111]⟩⟩, true, 0) := by kernel_rfl

end Go.Proofs.YtlnabpoohnphiaaGreat
/- leg: a whole side in memory (IsL), what it owns (LF), what its parts' acts keep. -/
namespace Go.Proofs.YtlnabpoohnphiaaGreat
open Go.RowKit
set_option linter.unusedSimpArgs false
set_option linter.unusedVariables false

/-- A side: what came and isn't a frame yet, what the stream finds wrong, the machine, what is to go out, whether an end was sent, or came, what was wrong. -/
structure Lg where
  part : List Int
  serr : Int
  m : Mc
  o : Ou
  sent : Bool
  got : Bool
  wrong : Int
/-- Its slices' values. -/
structure LV where
  vs : Value
  vm : Value
  vt : Value
  vc : Value
  vr : Value
/-- Its own blocks. -/
def LF (g : Nat) (k : Lk) (V : LV) (b : Nat) : Prop :=
  b = g ∨ b = k.sg ∨ b = k.mg ∨ b = k.mcu ∨ b = k.rg ∨ b = k.rb ∨ V.vs.ownBlock = some b ∨ V.vm.ownBlock = some b ∨ V.vt.ownBlock = some b ∨ V.vc.ownBlock = some b ∨ V.vr.ownBlock = some b
def OA (g : Nat) (k : Lk) (vc : Value) (b : Nat) : Prop := LO g k b ∨ vc.ownBlock = some b
def Apart (u v : Value) : Prop := ∀ b, u.ownBlock = some b → v.ownBlock ≠ some b
def most16 (k : Lk) : Int := ((max k.message 125 : Nat) : Int)
structure IsL (w : World) (g : Nat) (k : Lk) (L : Lg) (V : LV) : Prop where
  out : OutH w g k L.o L.sent L.got L.wrong V.vt V.vc V.vr
  ins : IsStv w 0 k.sg (!k.masks) (most16 k) L.part L.serr V.vs
  mac : IsMv w 0 k.mg k.mcu L.m V.vm
  good : L.m.good
  sm : Apart V.vs V.vm
  st : Apart V.vs V.vt
  sr : V.vs.ownBlock ≠ some k.rb
  mt : Apart V.vm V.vt
  mr : V.vm.ownBlock ≠ some k.rb
  cr : Apart V.vc V.vr
structure LLoc (w : World) (V V' : LV) : Prop where
  s : Loc w V.vs V'.vs
  m : Loc w V.vm V'.vm
  t : Loc w V.vt V'.vt
  c : Loc w V.vc V'.vc
  r : Loc w V.vr V'.vr
theorem LLoc.refl (w : World) (V : LV) : LLoc w V V := ⟨Loc.refl _ _, Loc.refl _ _, Loc.refl _ _, Loc.refl _ _, Loc.refl _ _⟩
theorem LLoc.trans {w w1 : World} {V V1 V2 : LV} (h : LLoc w V V1) (k : LLoc w1 V1 V2) (hs : w.heap.size ≤ w1.heap.size) : LLoc w V V2 :=
  ⟨h.s.trans k.s hs, h.m.trans k.m hs, h.t.trans k.t hs, h.c.trans k.c hs, h.r.trans k.r hs⟩
section
variable {w w' w0 : World} {g : Nat} {k : Lk} {L : Lg} {V V' : LV}
theorem LF_loc (h : LLoc w V V') {b : Nat} (hb : LF g k V' b) : LF g k V b ∨ w.heap.size ≤ b := by
  unfold LF at hb ⊢
  rcases hb with hb | hb | hb | hb | hb | hb | hb | hb | hb | hb | hb
  · simp [hb]
  · simp [hb]
  · simp [hb]
  · simp [hb]
  · simp [hb]
  · simp [hb]
  · rcases h.s b hb with h | h
    · simp [h]
    · exact .inr h
  · rcases h.m b hb with h | h
    · simp [h]
    · exact .inr h
  · rcases h.t b hb with h | h
    · simp [h]
    · exact .inr h
  · rcases h.c b hb with h | h
    · simp [h]
    · exact .inr h
  · rcases h.r b hb with h | h
    · simp [h]
    · exact .inr h
theorem OutH.touch {S : Nat → Prop} {o : Ou} {sent got : Bool} {wrong : Int} {vt vc vr : Value} (h : OutH w g k o sent got wrong vt vc vr) (t : Touch S w w') (h1 : ¬ S g) (h2 : ¬ S k.rg) (h3 : ¬ S k.rb) (h4 : ∀ b, vt.ownBlock = some b → ¬ S b) (h5 : ∀ b, vc.ownBlock = some b → ¬ S b) (h6 : ∀ b, vr.ownBlock = some b → ¬ S b) : OutH w' g k o sent got wrong vt vc vr :=
  ⟨h.blk.touch t h1, h.ring.touch t h2 h3, h.tail.touch t h4, h.ctl.touch t h5, h.rest.touch t h6, h.bytes, h.good, h.apart⟩
theorem IsL.touch {S : Nat → Prop} (h : IsL w g k L V) (t : Touch S w w') (hS : ∀ b, LF g k V b → ¬ S b) : IsL w' g k L V :=
  ⟨h.out.touch t (hS _ (by simp [LF])) (hS _ (by simp [LF])) (hS _ (by simp [LF])) (fun b hb => hS b (by simp [LF, hb])) (fun b hb => hS b (by simp [LF, hb])) (fun b hb => hS b (by simp [LF, hb])),
   h.ins.touch t (hS _ (by simp [LF])) (fun b hb => hS b (by simp [LF, hb])),
   h.mac.touch t (hS _ (by simp [LF])) (hS _ (by simp [LF])) (fun b hb => hS b (by simp [LF, hb])),
   h.good, h.sm, h.st, h.sr, h.mt, h.mr, h.cr⟩
theorem IsL.no (h : IsL w g k L V) (t : Touch NoS w w') : IsL w' g k L V := h.touch t fun _ _ h => h
theorem Win.lt {e : TypeId} {size n : Nat} {v : Value} {xs : List Value} (h : Win w e size v n xs) {b : Nat} (hb : v.ownBlock = some b) : b < w.heap.size := by
  obtain ⟨cs, hc⟩ := h.type hb
  exact hc.lt
/-- The type of each of its blocks. -/
theorem IsL.type (h : IsL w g k L V) {b : Nat} (hb : LF g k V b) : ∃ t cs, Blk w b t cs ∧ (t = 109 ∨ t = 139 ∨ t = 143 ∨ t = 165 ∨ t = 145 ∨ t = 5 ∨ t = 42) := by
  obtain ⟨c1, c2, q1, q2⟩ := h.out.ring.blk
  unfold LF at hb
  rcases hb with rfl | rfl | rfl | rfl | rfl | rfl | hb | hb | hb | hb | hb
  · exact ⟨_, _, h.out.blk, by simp⟩
  · exact ⟨_, _, h.ins.1, by simp⟩
  · exact ⟨_, _, h.mac.1, by simp⟩
  · exact ⟨_, _, h.mac.2.2, by simp⟩
  · exact ⟨_, _, q1, by simp⟩
  · exact ⟨_, _, q2, by simp⟩
  · obtain ⟨cs, hc⟩ := own_type h.ins.2 hb
    exact ⟨_, _, hc, by simp⟩
  · obtain ⟨cs, hc⟩ := own_type h.mac.2.1 hb
    exact ⟨_, _, hc, by simp⟩
  · obtain ⟨cs, hc⟩ := h.out.tail.type hb
    exact ⟨_, _, hc, by simp⟩
  · obtain ⟨cs, hc⟩ := h.out.ctl.type hb
    exact ⟨_, _, hc, by simp⟩
  · obtain ⟨cs, hc⟩ := h.out.rest.type hb
    exact ⟨_, _, hc, by simp⟩
theorem IsL.lt (h : IsL w g k L V) {b : Nat} (hb : LF g k V b) : b < w.heap.size := by
  obtain ⟨t, cs, hc, _⟩ := h.type hb
  exact hc.lt
theorem Loc.apart_l {u v u' : Value} (h : Apart u v) (k : Loc w u u') (hb : ∀ b, v.ownBlock = some b → b < w.heap.size) : Apart u' v := fun b hu hv => by
  rcases k b hu with h1 | h1
  · exact h b h1 hv
  · have := hb b hv
    omega
theorem Loc.apart_r {u v v' : Value} (h : Apart u v) (k : Loc w v v') (hb : ∀ b, u.ownBlock = some b → b < w.heap.size) : Apart u v' := fun b hu hv => by
  rcases k b hv with h1 | h1
  · exact h b hu h1
  · have := hb b hu
    omega
theorem Loc.ne {v v' : Value} {r : Nat} (h : v.ownBlock ≠ some r) (k : Loc w v v') (hr : r < w.heap.size) : v'.ownBlock ≠ some r := fun hv => by
  rcases k r hv with h1 | h1
  · exact h h1
  · omega
/-- The output's acts keep the stream and the machine. -/
theorem IsL.out_act (h : IsL w g k L V) {o' : Ou} {sent' got' : Bool} {wrong' : Int} {vt' vc' vr' : Value} (h' : OutH w' g k o' sent' got' wrong' vt' vc' vr') (ht : Touch (OA g k V.vc) w w') (l1 : Loc w V.vt vt') (l2 : Loc w V.vc vc') (l3 : Loc w V.vr vr') (ha : Apart vc' vr') :
    ∃ V', IsL w' g k { L with o := o', sent := sent', got := got', wrong := wrong' } V' ∧ LLoc w V V' ∧ Touch (LF g k V) w w' := by
  obtain ⟨c1, c2, q1, q2⟩ := h.out.ring.blk
  have hT : ∀ (t : TypeId) (cs : Array Value) (b : Nat), Blk w b t cs → t ≠ 109 → t ≠ 145 → t ≠ 42 → (t = 5 → b ≠ k.rb) → ¬ OA g k V.vc b := by
    intro t cs b hb t1 t2 t3 t4 hS
    rcases hS with (hS | hS | hS) | hS
    · exact hb.ne_ h.out.blk t1 hS
    · exact hb.ne_ q1 t2 hS
    · by_cases ht : t = 5
      · exact t4 ht hS
      · exact hb.ne_ q2 ht hS
    · obtain ⟨cs', hc⟩ := h.out.ctl.type hS
      exact hb.ne_ hc t3 rfl
  refine ⟨{ V with vt := vt', vc := vc', vr := vr' }, ⟨h', ?_, ?_, h.good, h.sm, ?_, h.sr, ?_, h.mr, ha⟩, ⟨Loc.refl _ _, Loc.refl _ _, l1, l2, l3⟩, ?_⟩
  · refine h.ins.touch ht (hT _ _ _ h.ins.1 (by decide) (by decide) (by decide) (fun e => absurd e (by decide))) fun b hb => ?_
    obtain ⟨cs, hc⟩ := own_type h.ins.2 hb
    exact hT _ _ _ hc (by decide) (by decide) (by decide) fun _ e => h.sr (by rw [← e]; exact hb)
  · refine h.mac.touch ht (hT _ _ _ h.mac.1 (by decide) (by decide) (by decide) (fun e => absurd e (by decide))) (hT _ _ _ h.mac.2.2 (by decide) (by decide) (by decide) (fun e => absurd e (by decide))) fun b hb => ?_
    obtain ⟨cs, hc⟩ := own_type h.mac.2.1 hb
    exact hT _ _ _ hc (by decide) (by decide) (by decide) fun _ e => h.mr (by rw [← e]; exact hb)
  · exact l1.apart_r h.st fun b hb => h.lt (by simp [LF, hb])
  · exact l1.apart_r h.mt fun b hb => h.lt (by simp [LF, hb])
  · refine ht.mono fun b hb => ?_
    rcases hb with (hb | hb | hb) | hb
    · simp [LF, hb]
    · simp [LF, hb]
    · simp [LF, hb]
    · simp [LF, hb]
theorem IsL.in_act (h : IsL w g k L V) {part' : List Int} {e' : Int} {v1 : Value} (h' : IsStv w' 0 k.sg (!k.masks) (most16 k) part' e' v1) (l : Loc w V.vs v1) (ht : Touch (SO k.sg V.vs) w w') :
    ∃ V', IsL w' g k { L with part := part', serr := e' } V' ∧ LLoc w V V' ∧ Touch (LF g k V) w w' := by
  obtain ⟨c1, c2, q1, q2⟩ := h.out.ring.blk
  have hT : ∀ (t : TypeId) (cs : Array Value) (b : Nat), Blk w b t cs → t ≠ 139 → (t = 5 → V.vs.ownBlock ≠ some b) → ¬ SO k.sg V.vs b := by
    intro t cs b hb t1 t4 hS
    rcases hS with hS | hS
    · exact hb.ne_ h.ins.1 t1 hS
    · by_cases ht : t = 5
      · exact t4 ht hS
      · obtain ⟨cs', hc⟩ := own_type h.ins.2 hS
        exact hb.ne_ hc ht rfl
  refine ⟨{ V with vs := v1 }, ⟨?_, h', ?_, h.good, ?_, ?_, ?_, h.mt, h.mr, h.cr⟩, ⟨l, Loc.refl _ _, Loc.refl _ _, Loc.refl _ _, Loc.refl _ _⟩, ?_⟩
  · refine h.out.touch ht (hT _ _ _ h.out.blk (by decide) (fun e => absurd e (by decide))) (hT _ _ _ q1 (by decide) (fun e => absurd e (by decide))) (hT _ _ _ q2 (by decide) (fun _ => h.sr)) ?_ ?_ ?_
    · intro b hb
      obtain ⟨cs, hc⟩ := h.out.tail.type hb
      exact hT _ _ _ hc (by decide) fun _ e => h.st b e hb
    · intro b hb
      obtain ⟨cs, hc⟩ := h.out.ctl.type hb
      exact hT _ _ _ hc (by decide) (fun e => absurd e (by decide))
    · intro b hb
      obtain ⟨cs, hc⟩ := h.out.rest.type hb
      exact hT _ _ _ hc (by decide) (fun e => absurd e (by decide))
  · refine h.mac.touch ht (hT _ _ _ h.mac.1 (by decide) (fun e => absurd e (by decide))) (hT _ _ _ h.mac.2.2 (by decide) (fun e => absurd e (by decide))) fun b hb => ?_
    obtain ⟨cs, hc⟩ := own_type h.mac.2.1 hb
    exact hT _ _ _ hc (by decide) fun _ e => h.sm b e hb
  · exact l.apart_l h.sm fun b hb => h.lt (by simp [LF, hb])
  · exact l.apart_l h.st fun b hb => h.lt (by simp [LF, hb])
  · exact l.ne h.sr q2.lt
  · refine ht.mono fun b hb => ?_
    rcases hb with hb | hb
    · simp [LF, hb]
    · simp [LF, hb]
theorem IsL.m_act (h : IsL w g k L V) {c' : Mc} {v1 : Value} (h' : IsMv w' 0 k.mg k.mcu c' v1) (hg : c'.good) (l : Loc w V.vm v1) (ht : Touch (MO k.mg k.mcu V.vm) w w') :
    ∃ V', IsL w' g k { L with m := c' } V' ∧ LLoc w V V' ∧ Touch (LF g k V) w w' := by
  obtain ⟨c1, c2, q1, q2⟩ := h.out.ring.blk
  have hT : ∀ (t : TypeId) (cs : Array Value) (b : Nat), Blk w b t cs → t ≠ 143 → t ≠ 165 → (t = 5 → V.vm.ownBlock ≠ some b) → ¬ MO k.mg k.mcu V.vm b := by
    intro t cs b hb t1 t2 t4 hS
    rcases hS with hS | hS | hS
    · exact hb.ne_ h.mac.1 t1 hS
    · exact hb.ne_ h.mac.2.2 t2 hS
    · by_cases ht : t = 5
      · exact t4 ht hS
      · obtain ⟨cs', hc⟩ := own_type h.mac.2.1 hS
        exact hb.ne_ hc ht rfl
  refine ⟨{ V with vm := v1 }, ⟨?_, ?_, h', hg, ?_, h.st, h.sr, ?_, ?_, h.cr⟩, ⟨Loc.refl _ _, l, Loc.refl _ _, Loc.refl _ _, Loc.refl _ _⟩, ?_⟩
  · refine h.out.touch ht (hT _ _ _ h.out.blk (by decide) (by decide) (fun e => absurd e (by decide))) (hT _ _ _ q1 (by decide) (by decide) (fun e => absurd e (by decide))) (hT _ _ _ q2 (by decide) (by decide) (fun _ => h.mr)) ?_ ?_ ?_
    · intro b hb
      obtain ⟨cs, hc⟩ := h.out.tail.type hb
      exact hT _ _ _ hc (by decide) (by decide) fun _ e => h.mt b e hb
    · intro b hb
      obtain ⟨cs, hc⟩ := h.out.ctl.type hb
      exact hT _ _ _ hc (by decide) (by decide) (fun e => absurd e (by decide))
    · intro b hb
      obtain ⟨cs, hc⟩ := h.out.rest.type hb
      exact hT _ _ _ hc (by decide) (by decide) (fun e => absurd e (by decide))
  · refine h.ins.touch ht (hT _ _ _ h.ins.1 (by decide) (by decide) (fun e => absurd e (by decide))) fun b hb => ?_
    obtain ⟨cs, hc⟩ := own_type h.ins.2 hb
    exact hT _ _ _ hc (by decide) (by decide) fun _ e => h.sm b hb e
  · exact l.apart_r h.sm fun b hb => h.lt (by simp [LF, hb])
  · exact l.apart_l h.mt fun b hb => h.lt (by simp [LF, hb])
  · exact l.ne h.mr q2.lt
  · refine ht.mono fun b hb => ?_
    rcases hb with hb | hb | hb
    · simp [LF, hb]
    · simp [LF, hb]
    · simp [LF, hb]
end
end Go.Proofs.YtlnabpoohnphiaaGreat
