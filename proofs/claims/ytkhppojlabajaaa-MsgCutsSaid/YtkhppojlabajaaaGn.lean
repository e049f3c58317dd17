/- law12: MsgCuts: plain laws, the walk. -/
import Derived.Test.YtkhppojlabajaaaGh
namespace Go.Proofs.Ytkhppojlabajaaa
open Go.RowKit
set_option linter.unusedSimpArgs false
set_option linter.unusedVariables false

/-- The checker behind a message's beginning. -/
def Uof (op : Int) (p : ByteArray) : Uc := if op = 1 then (ufeed Uc.new (sb p)).1 else Uc.new
/-- What a message's one frame comes to. -/
def whole12 (op : Int) (a : ByteArray) : Ev × Bool × Int := if op = 1 ∧ badText (Uof op a) true = true then (Ev.zero, false, 122) else (⟨op, 0, a⟩, true, 0)
def Cst (op : Int) (p : ByteArray) (i : Nat) (c : Mc) : Prop := c = (if i = 0 then Mc.new 2000 else ⟨2000, op, p, Uof op p, false, 0⟩) ∧ (i = 0 → p = ⟨#[]⟩) ∧ (Uof op p).bad = false
theorem Uof_nil (op : Int) : Uof op ⟨#[]⟩ = Uc.new := by
  unfold Uof
  split <;> rfl
theorem Uof_append (op : Int) (h : op = 1) (p d : ByteArray) : (ufeed (Uof op p) (sb d)).1 = Uof op (p ++ d) := by
  unfold Uof
  rw [if_pos h, if_pos h, sb_append, (ufeed_append _ _ _).1]
theorem Uof_two (op : Int) (h : op = 2) (p : ByteArray) : Uof op p = Uc.new := if_neg (by omega)
theorem ufeed_stays (l : List Int) : ∀ (c : Uc), c.bad = true → (ufeed c l).1.bad = true := by
  intro c h
  cases l with
  | nil => exact h
  | cons b l => unfold ufeed; rw [if_pos h]; exact h
theorem Uof_bad (op : Int) (p d : ByteArray) (h : (Uof op p).bad = true) : (Uof op (p ++ d)).bad = true := by
  by_cases h1 : op = 1
  · rw [← Uof_append op h1]
    exact ufeed_stays _ _ h
  · unfold Uof at h
    rw [if_neg h1] at h
    cases h
theorem cst_go {op : Int} (hop : op = 1 ∨ op = 2) {p : ByteArray} {i : Nat} {c : Mc} (h : Cst op p i c) (fin : Bool) (d : ByteArray) :
    mtake c ⟨fin, if i = 0 then op else 0, false, 0, 0, 0, 0, d⟩ = mgo ⟨2000, op, p, Uof op p, false, 0⟩ ⟨fin, if i = 0 then op else 0, false, 0, 0, 0, 0, d⟩ := by
  obtain ⟨rfl, h0, _⟩ := h
  by_cases hi : i = 0
  · subst hi
    obtain rfl := h0 rfl
    rw [if_pos rfl, if_pos rfl, mt_data rfl rfl (.inr hop) (.inr rfl), Uof_nil]
    unfold mdata
    rw [if_neg (show ¬ op = 0 by omega), if_pos (show (Mc.new 2000).op = 0 from rfl)]
    rfl
  · rw [if_neg hi, if_neg hi, mt_data rfl rfl (.inl rfl) (.inr rfl)]
    unfold mdata
    rw [if_pos rfl, if_neg (show ¬ op = 0 by omega)]
theorem cst_step {op : Int} (hop : op = 1 ∨ op = 2) {p : ByteArray} {i : Nat} {c : Mc} (h : Cst op p i c) (d : ByteArray) (hz : p.size + d.size ≤ 2000) :
    ((Uof op (p ++ d)).bad = true ∧ ∃ c', mtake c ⟨false, if i = 0 then op else 0, false, 0, 0, 0, 0, d⟩ = (c', Ev.zero, false, 122)) ∨
    (∃ c', mtake c ⟨false, if i = 0 then op else 0, false, 0, 0, 0, 0, d⟩ = (c', Ev.zero, false, 0) ∧ Cst op (p ++ d) (i + 1) c') := by
  rw [cst_go hop h]
  have hb : ∀ q : ByteArray, badText (Uof op q) false = (Uof op q).bad := fun q => by simp [badText]
  rcases hop with rfl | rfl
  · by_cases hbad : (Uof 1 (p ++ d)).bad = true
    · exact .inl ⟨hbad, _, mgo_bad (u1 := Uof 1 (p ++ d)) (by show ¬ (2000 : Int) < p.size + d.size; omega) rfl (Uof_append 1 rfl p d).symm (by rw [hb]; exact hbad)⟩
    · have hbad : (Uof 1 (p ++ d)).bad = false := by simpa using hbad
      refine .inr ⟨⟨2000, 1, p ++ d, Uof 1 (p ++ d), false, 0⟩, ?_, ?_⟩
      · rw [mgo_text (u1 := Uof 1 (p ++ d)) (by show ¬ (2000 : Int) < p.size + d.size; omega) rfl (Uof_append 1 rfl p d).symm (by rw [hb]; exact hbad)]
        rfl
      · exact ⟨by rw [if_neg (by omega)], fun h => by omega, hbad⟩
  · refine .inr ⟨⟨2000, 2, p ++ d, Uof 2 (p ++ d), false, 0⟩, ?_, ?_⟩
    · rw [mgo_bin (by show ¬ (2000 : Int) < p.size + d.size; omega) (by show ¬ (2 : Int) = 1; omega), Uof_two 2 rfl, Uof_two 2 rfl]
      rfl
    · exact ⟨by rw [if_neg (by omega)], fun h => by omega, by rw [Uof_two 2 rfl]; rfl⟩
theorem cst_last {op : Int} (hop : op = 1 ∨ op = 2) {p : ByteArray} {i : Nat} {c : Mc} (h : Cst op p i c) (d : ByteArray) (hz : p.size + d.size ≤ 2000) :
    ∃ c', mtake c ⟨true, if i = 0 then op else 0, false, 0, 0, 0, 0, d⟩ = (c', (whole12 op (p ++ d)).1, (whole12 op (p ++ d)).2.1, (whole12 op (p ++ d)).2.2) := by
  rw [cst_go hop h]
  rcases hop with rfl | rfl
  · by_cases hbad : badText (Uof 1 (p ++ d)) true = true
    · have hw : whole12 1 (p ++ d) = (Ev.zero, false, 122) := if_pos ⟨rfl, hbad⟩
      rw [hw]
      exact ⟨_, mgo_bad (u1 := Uof 1 (p ++ d)) (by show ¬ (2000 : Int) < p.size + d.size; omega) rfl (Uof_append 1 rfl p d).symm hbad⟩
    · have hw : whole12 1 (p ++ d) = (⟨1, 0, p ++ d⟩, true, 0) := if_neg (fun h => hbad h.2)
      rw [hw, mgo_text (u1 := Uof 1 (p ++ d)) (by show ¬ (2000 : Int) < p.size + d.size; omega) rfl (Uof_append 1 rfl p d).symm (by simpa using hbad)]
      exact ⟨_, if_neg (show ¬ true = false by simp)⟩
  · have hw : whole12 2 (p ++ d) = (⟨2, 0, p ++ d⟩, true, 0) := if_neg (fun h => absurd h.1 (by omega))
    rw [hw, mgo_bin (by show ¬ (2000 : Int) < p.size + d.size; omega) (by show ¬ (2 : Int) = 1; omega)]
    exact ⟨_, if_neg (show ¬ true = false by simp)⟩
theorem whole12_bad (op : Int) (hop : op = 1 ∨ op = 2) (p d : ByteArray) (h : (Uof op p).bad = true) : whole12 op (p ++ d) = (Ev.zero, false, 122) := by
  rcases hop with rfl | rfl
  · refine if_pos ⟨rfl, ?_⟩
    unfold badText
    rw [Uof_bad 1 p d h]
    rfl
  · rw [Uof_two 2 rfl] at h
    cases h
theorem whole12_is (op : Int) (a : ByteArray) : (whole12 op a).2.1 = ((whole12 op a).2.2 == 0) := by
  unfold whole12
  split <;> rfl
theorem cst_new (op : Int) : Cst op ⟨#[]⟩ 0 (Mc.new 2000) := ⟨by rw [if_pos rfl], fun _ => rfl, by rw [Uof_nil]; rfl⟩
theorem cst_live {op : Int} {p : ByteArray} {i : Nat} {c : Mc} (h : Cst op p i c) : c.err = 0 ∧ c.over = false := by
  obtain ⟨rfl, _⟩ := h
  split <;> exact ⟨rfl, rfl⟩
theorem extract_split (r : ByteArray) (k : Nat) : r = r.extract 0 k ++ r.extract k r.size := by
  apply sb_inj
  rw [sb_append, sb_extract, sb_extract, List.drop_zero, List.take_of_length_le (i := r.size) (by rw [sb_length]; exact Nat.le_refl _), List.take_append_drop]

set_option maxHeartbeats 12800000 in
set_option maxRecDepth 100000 in
theorem cuts12_op (w : World) (t : Bool) (op : Int) (hop : op = if t = true then 1 else 2) (a : ByteArray) (ha : a.size ≤ maxLen) (C : Option Addr) (ks : List Int) (cc : Nat) (hc : Rd w C (u8s ks)) (hcg : bytesIn ks) (hkl : ks.length ≤ maxLen)
    (B : Option Addr) (ps : List Fr) (cb : Nat) (hp : Rd w B (frs ps)) (hpg : ∀ x ∈ ps, x.good) (hpm : ps.length ≤ maxLen) :
    Calls Try.prog 10 #[.bool t, .string a, .slice C ks.length cc, .slice B ps.length cb] w fun e w' => e = .returned (.bool true) ∧ Touch NoS w w' := by
  have HC := Lib.hid hc
  have HCG := Lib.hid hcg
  have HP := Lib.hid hp
  have HPG := Lib.hid hpg
  obtain ⟨n, hn⟩ : ∃ n, n = ks.length := ⟨_, rfl⟩
  obtain ⟨q, hq⟩ : ∃ n, n = ps.length := ⟨_, rfl⟩
  rw [← hn] at hkl ⊢
  rw [← hq] at hpm ⊢
  have HN := Lib.hid hn.symm
  have HQ := Lib.hid hq.symm
  have hop2 : op = 1 ∨ op = 2 := by rw [hop]; cases t; exact .inr rfl; exact .inl rfl
  have HOP := Lib.hid hop2
  unfold maxLen at ha hkl hpm
  have HOT := Lib.hid hop
  clear hc hcg hp hpg hn hq hop2 hop
  go_enter Try.func10, Try.ntmps10
  go_wp2_with fail
  refine (m_new 2000 (by omega) (by omega) _).mono ?_
  rintro e w1 ⟨g, cu, rfl, hg, hcu, hm, ht⟩
  have HM1 := Lib.hid hm
  have HT1 := Lib.hid ht
  clear hm ht
  go_wp2_with fail
  refine (m_new 2000 (by omega) (by omega) _).mono ?_
  rintro e w2 ⟨g', cu', rfl, hg', hcu', hm, ht⟩
  have hsz1 := HT1.out.size
  have HN2 := Lib.hid (hm.lower hsz1)
  have HM2 := Lib.hid (HM1.out.no ht)
  have HT2 := Lib.hid (HT1.out.trans ht)
  have hgg : g ≠ g' := by have := HM1.out.lt; omega
  have hcc : cu ≠ cu' := by have := HM1.out.lt; omega
  have hgw' : w.heap.size ≤ g' := by omega
  have hcw' : w.heap.size ≤ cu' := by omega
  clear hm ht HM1 HT1 hg' hcu'
  go_wp2_with fail
  refine (aw12 _).mono ?_
  rintro e w3 ⟨rfl, ht⟩
  have HN3 := Lib.hid (HN2.out.no ht)
  have HM3 := Lib.hid (HM2.out.no ht)
  have HT3 := Lib.hid (HT2.out.trans ht)
  clear ht HM2 HT2 HN2
  by_cases h500 : 500 < a.size
  · go_wp2_with fail
    refine (aw12 _).mono ?_
    rintro e w4 ⟨rfl, ht⟩
    have HT4 := Lib.hid (HT3.out.trans ht)
    clear ht
    go_wp2
    go_ret
    exact ⟨rfl, HT4.out⟩
  have h500' : a.size ≤ 500 := by omega
  by_cases h30 : 30 < n
  · go_wp2_with fail
    refine (aw12 _).mono ?_
    rintro e w4 ⟨rfl, ht⟩
    have HT4 := Lib.hid (HT3.out.trans ht)
    clear ht
    go_wp2
    go_ret
    exact ⟨rfl, HT4.out⟩
  have h30' : n ≤ 30 := by omega
  have HGD := Lib.hid (Mc.new_good 2000 (by omega) (by omega))
  obtain ⟨m1, hk1⟩ := cst_last HOP.out (cst_new op) a (by show 0 + a.size ≤ 2000; omega)
  rw [empty_append, if_pos rfl] at hk1
  obtain ⟨E, IS, ER, hW⟩ : ∃ E IS ER, whole12 op a = (E, IS, ER) := ⟨_, _, _, rfl⟩
  have hIS := whole12_is op a
  rw [hW] at hk1 hIS
  simp only at hk1 hIS
  have HK1 := Lib.hid hk1
  have HW := Lib.hid hW
  have HIS := Lib.hid hIS
  clear h500 h30 hk1 hW hIS
  go_upto_if 66 with (fail)
  go_cut [13] (fun ov wx => ov = .int .i64 op ∧ IsMv wx w.heap.size g cu (Mc.new 2000) (.slice none 0 0) ∧ IsMv wx w.heap.size g' cu' (Mc.new 2000) (.slice none 0 0) ∧ Touch NoS w wx)
  case first =>
    cases t with
    | true =>
      go_wp2_with fail
      go_meet
      exact ⟨by rw [HOT.out]; rfl, HM3.out, HN3.out, HT3.out⟩
    | false =>
      go_wp2_with fail
      go_meet
      exact ⟨by rw [HOT.out]; rfl, HM3.out, HN3.out, HT3.out⟩
  case rest =>
  obtain ⟨rfl, hm, hn, ht⟩ := hcut
  obtain ⟨w4, rfl⟩ : ∃ w4 : World, w4 = wc := ⟨_, rfl⟩
  have HM4 := Lib.hid hm
  have HN4 := Lib.hid hn
  have HT4 := Lib.hid ht
  have hs4 := ht.size
  have hopb : -9 ≤ op ∧ op ≤ 9 := by have := HOP.out; omega
  clear hm hn ht HM3 HN3 HT3
  go_wp2_with fail
  refine (im_take HM4.out HGD.out ⟨true, op, false, 0, 0, 0, 0, a⟩ (fr_good _ _ (by have := HOP.out; omega) _ (by unfold maxLen; omega)) (by show a.size ≤ _; omega) hs4 _ _ _ _ HK1.out).mono ?_
  rintro e w5 ⟨rfl, ⟨v5, hm, hl⟩, ht, _⟩
  have hn6 := (MO_other HM4.out HN4.out ht hgg hcc (fun b h => by cases h)).no ((Touch.refl NoS w5).alloc (.cells #[.int .i64 E.op, .int .i64 E.code, .string E.data] 57))
  have ht6 := (MO_old HT4.out HM4.out ht (Nat.le_refl _) hg hcu).alloc (.cells #[.int .i64 E.op, .int .i64 E.code, .string E.data] 57)
  have hx6 := Blk.new w5 57 #[.int .i64 E.op, .int .i64 E.code, .string E.data]
  clear hm hl ht HM4 HN4 HT4
  go_upto_region 9 with (fail)
  obtain ⟨w6, hw6⟩ : ∃ w6, w6 = w5.alloc (.cells #[.int .i64 E.op, .int .i64 E.code, .string E.data] 57) := ⟨_, rfl⟩
  obtain ⟨gx, hgx⟩ : ∃ gx, gx = w5.heap.size := ⟨_, rfl⟩
  rw [← hw6] at hn6 ht6 hx6 ⊢
  rw [← hgx] at hx6 ⊢
  have HN6 := Lib.hid hn6
  have HT6 := Lib.hid ht6
  have HX6 := Lib.hid hx6
  clear hn6 ht6 hx6 hw6 hgx
  go_wp2_with fail
  go_loopw [13, 17, 18] (fun ov rv iv wr => ∃ (i : Nat) (p r : ByteArray) (c : Mc) (v : Value), i ≤ n ∧ iv = .int .i64 i ∧ rv = .string r ∧ ov = .int .i64 (if i = 0 then op else 0) ∧ Hid (a = p ++ r) ∧ r.size ≤ 500 ∧ p.size ≤ 500 ∧ Cst op p i c ∧ c.good ∧ IsMv wr w.heap.size g' cu' c v ∧ Blk wr gx 57 #[.int .i64 E.op, .int .i64 E.code, .string E.data] ∧ Touch NoS w wr) (fun _ _ iv _ => n - (intOf iv).toNat)
  case atStart => exact ⟨0, ⟨#[]⟩, a, _, _, by omega, rfl, rfl, by rw [if_pos rfl], (empty_append a).symm, h500', by decide, cst_new op, HGD.out, HN6.out, HX6.out, HT6.out⟩
  case round =>
    obtain ⟨i, p, r, c, v, hi, rfl, rfl, rfl, hpr, hrz, hpz, hcs, hgd, hm, hx, ht⟩ := hrel
    have HPR := Lib.hid hpr.out
    have HCS := Lib.hid hcs
    have HG := Lib.hid hgd
    have HM := Lib.hid hm
    have HX := Lib.hid hx
    have HT := Lib.hid ht
    have hsz := ht.size
    have HSUM : Hid (p.size + r.size ≤ 500) := by show p.size + r.size ≤ 500; rw [← ByteArray.size_append, ← HPR.out]; exact h500'
    obtain ⟨oi, hoi⟩ : ∃ oi : Int, oi = if i = 0 then op else 0 := ⟨_, rfl⟩
    have hoib : 0 ≤ oi ∧ oi ≤ 2 := by have := HOP.out; rw [hoi]; split <;> omega
    rw [← hoi]
    have HOI := Lib.hid hoi
    clear hpr hcs hgd hm hx ht hoi HN6 HX6 HT6
    by_cases hlt : i < n
    · have hk1 : i < ks.length := by rw [HN.out]; exact hlt
      obtain ⟨gC, oC, rfl, hgC, c0⟩ := u8s_at (HC.out.touch_no HT.out) i hk1
      obtain ⟨hx0, hx1⟩ := HCG.out ks[i] (List.getElem_mem hk1)
      obtain ⟨x, hxx⟩ : ∃ x, x = ks[i] := ⟨_, rfl⟩
      rw [← hxx] at c0 hx0 hx1
      obtain ⟨k, hk⟩ : ∃ k : Nat, (k : Int) = min x (r.size : Int) := ⟨(min x (r.size : Int)).toNat, by omega⟩
      have hkr : k ≤ r.size := by omega
      have hw1 : IntKind.i64.wrap x = x := IntWalk.i64_in _ (by omega)
      have hmin : min x (r.size : Int) = k := hk.symm
      have hsp := extract_split r k
      obtain ⟨d, hd⟩ : ∃ d, d = r.extract 0 k := ⟨_, rfl⟩
      obtain ⟨r2, hr2⟩ : ∃ d, d = r.extract k r.size := ⟨_, rfl⟩
      rw [← hd, ← hr2] at hsp
      have hdz : d.size = k := by rw [hd, ByteArray.size_extract]; omega
      have hr2z : r2.size = r.size - k := by rw [hr2, ByteArray.size_extract]; omega
      have HSP := Lib.hid hsp
      have hsum := HSUM.out
      have hpd : p.size + d.size ≤ 2000 := by omega
      have hstep := cst_step HOP.out HCS.out d hpd
      rw [← HOI.out] at hstep
      have HD := Lib.hid hd
      have HR2 := Lib.hid hr2
      have hd500 : d.size ≤ 500 := by omega
      have hr500 : r2.size ≤ 500 := by omega
      have HPD : Hid ((p ++ d).size ≤ 500) := by show (p ++ d).size ≤ 500; rw [ByteArray.size_append]; omega
      clear hk1 hxx hk hsp hd hr2 hdz hr2z hsum
      rcases hstep with ⟨hbad, c', htk⟩ | ⟨c', htk, hcst⟩
      · have HTK := Lib.hid htk
        have hwb := whole12_bad op HOP.out (p ++ d) r2 hbad
        rw [ByteArray.append_assoc, ← HSP.out, ← HPR.out, HW.out] at hwb
        have hER : ER = 122 := by injection hwb with _ h; injection h
        clear htk hbad hwb
        subst hER
        go_wp2_with fail
        rw [← HD.out]
        refine (im_take HM.out HG.out ⟨false, oi, false, 0, 0, 0, 0, d⟩ (fr_good _ _ (by omega) _ (by unfold maxLen; omega)) (by show d.size ≤ _; omega) hsz _ _ _ _ HTK.out).mono ?_
        rintro e w7 ⟨rfl, ⟨v7, hm, hl⟩, ht, _⟩
        have HT7 := Lib.hid (MO_old HT.out HM.out ht (Nat.le_refl _) hgw' hcw')
        clear hm hl ht
        simp only [Ev.zero]
        go_wp2
        go_ret
        exact ⟨rfl, HT7.out.alloc _⟩
      · have HTK := Lib.hid htk
        have HCN := Lib.hid hcst
        clear htk hcst
        go_wp2_with fail
        rw [← HD.out]
        refine (im_take HM.out HG.out ⟨false, oi, false, 0, 0, 0, 0, d⟩ (fr_good _ _ (by omega) _ (by unfold maxLen; omega)) (by show d.size ≤ _; omega) hsz _ _ _ _ HTK.out).mono ?_
        rintro e w7 ⟨rfl, ⟨v7, hm, hl⟩, ht, hgd⟩
        have HG7 := Lib.hid hgd
        have HM7 := Lib.hid (hm.no ((Touch.refl NoS w7).alloc (.cells #[.int .i64 0, .int .i64 0, .string ⟨#[]⟩] 57)))
        have HX7 := Lib.hid ((MO_keep HX.out HM.out ht (by decide) (by decide) (by decide)).alloc (.cells #[.int .i64 0, .int .i64 0, .string ⟨#[]⟩] 57))
        have HT7 := Lib.hid ((MO_old HT.out HM.out ht (Nat.le_refl _) hgw' hcw').alloc (.cells #[.int .i64 0, .int .i64 0, .string ⟨#[]⟩] 57))
        clear hm hl ht hgd HM HT HX HG HTK c0 hgC
        simp only [Ev.zero]
        go_wp2_with fail
        obtain ⟨w8, hw8⟩ : ∃ w8, w8 = w7.alloc (.cells #[.int .i64 0, .int .i64 0, .string ⟨#[]⟩] 57) := ⟨_, rfl⟩
        rw [← hw8] at HM7 HX7 HT7 ⊢
        clear hw8
        have hsl : ∀ W, (Instr.slice 9 (.string r) (some (.int .i64 k)) none none).run Try.prog W = .ok (.string r2) W := fun W => by
          rw [HR2.out]
          exact run_slice_string_l (P := Try.prog) W 9 r Try.underlying9 .i64 k (by omega) (by omega)
        go_quiet (fail)
        have HM9 := Lib.hid (HM7.out.no ((Touch.refl NoS w8).drewN nq))
        have HX9 := Lib.hid (HX7.out.drewN nq)
        have HT9 := Lib.hid (HT7.out.drewN nq)
        obtain ⟨w9, hw9⟩ : ∃ w9, w9 = w8.drewN nq := ⟨_, rfl⟩
        rw [← hw9] at HM9 HX9 HT9 ⊢
        have hs9 := HT9.out.size
        have HPR9 : Hid (a = (p ++ d) ++ r2) := by show a = (p ++ d) ++ r2; rw [ByteArray.append_assoc, ← HSP.out, ← HPR.out]
        have hlive := cst_live HCN.out
        have HLV := Lib.hid hlive
        have HSL := Lib.hid hsl
        clear hw9 HM7 HX7 HT7 hsl hlive
        by_cases hiq : i < q
        · have hk3 : i < ps.length := by rw [HQ.out]; exact hiq
          obtain ⟨gp, op', rfl, hgp, z0, z1, z2, z3, z4, z5, z6, d7⟩ := fr_cells (HP.out.touch_no HT9.out) i hk3
          obtain ⟨gw, ow, he, hgw0, y0, y1, y2, y3, y4, y5, y6, cw⟩ := fr_cells HP.out i hk3
          injection he with he
          injection he with e1 e2
          subst e1 e2
          have h4 := (HPG.out ps[i] (List.getElem_mem hk3)).2.2
          obtain ⟨pd, hpd⟩ : ∃ p, p = ps[i].data := ⟨_, rfl⟩
          rw [← hpd] at d7 h4 cw
          have HDW := Lib.hid cw
          have HGP := Lib.hid hgw0
          unfold maxLen at h4
          clear z0 z1 z2 z3 z4 z5 z6 y0 y1 y2 y3 y4 y5 y6 hpd cw hgw0
          clear hk3
          by_cases hps : pd.size ≤ 125
          · have hk4 := mt_ctl (c := c') (f := ⟨true, 9, false, 0, 0, 0, 0, pd⟩) HLV.out.1 HLV.out.2 (.inl rfl) rfl hps (.inr rfl)
            have HK4 := Lib.hid hk4
            have kne : (pd.toList != pd.toList) = false := bne_self_eq_false _
            clear hk4
            go_wp2_with fail
            refine (im_take HM9.out HG7.out ⟨true, 9, false, 0, 0, 0, 0, pd⟩ (fr_good _ _ (by omega) _ (by unfold maxLen; omega)) (by show pd.size ≤ _; omega) hs9 _ _ _ _ HK4.out).mono ?_
            rintro e w10 ⟨rfl, ⟨v10, hm, hl⟩, ht, _⟩
            have hm7 := hm.no ((Touch.refl NoS w10).alloc (.cells #[.int .i64 9, .int .i64 0, .string pd] 57))
            have hx7 := (MO_keep HX9.out HM9.out ht (by decide) (by decide) (by decide)).alloc (.cells #[.int .i64 9, .int .i64 0, .string pd] 57)
            have ht7 := (MO_old HT9.out HM9.out ht (Nat.le_refl _) hgw' hcw').alloc (.cells #[.int .i64 9, .int .i64 0, .string pd] 57)
            have hb7 := Blk.new w10 57 #[.int .i64 9, .int .i64 0, .string pd]
            clear hm ht hl HM9 HX9 HT9 d7 hgp
            go_upto_region 20 with (fail)
            obtain ⟨w11, hw11⟩ : ∃ w7, w7 = w10.alloc (.cells #[.int .i64 9, .int .i64 0, .string pd] 57) := ⟨_, rfl⟩
            obtain ⟨gd, hgd⟩ : ∃ gb, gb = w10.heap.size := ⟨_, rfl⟩
            rw [← hw11] at hm7 hx7 ht7 hb7 ⊢
            rw [← hgd] at hb7 ⊢
            have HM11 := Lib.hid hm7
            have HX11 := Lib.hid hx7
            have HT11 := Lib.hid ht7
            have x2 := hb7.cell 2
            have xl := hb7.lt
            simp at x2
            have d7 := ht7.cell HDW.out
            have hgp := Nat.lt_of_lt_of_le HGP.out ht7.size
            clear hm7 hx7 ht7 hb7 hw11 hgd
            go_quiet (fail)
            go_wp2_with fail
            go_roundw
            · exact ⟨i + 1, p ++ d, r2, c', v10, by omega, by go_num, rfl, by rw [if_neg (by omega)], HPR9.out, by omega, HPD.out, HCN.out, HG7.out, HM11.out.no ((Touch.refl NoS w11).drewN _), HX11.out.drewN _, HT11.out.drewN _⟩
            · simp [intOf]; omega
          · go_wp2_with fail
            go_roundw
            · exact ⟨i + 1, p ++ d, r2, c', v7, by omega, by go_num, rfl, by rw [if_neg (by omega)], HPR9.out, by omega, HPD.out, HCN.out, HG7.out, HM9.out, HX9.out, HT9.out⟩
            · simp [intOf]; omega
        · go_wp2_with fail
          go_roundw
          · exact ⟨i + 1, p ++ d, r2, c', v7, by omega, by go_num, rfl, by rw [if_neg (by omega)], HPR9.out, by omega, HPD.out, HCN.out, HG7.out, HM9.out, HX9.out, HT9.out⟩
          · simp [intOf]; omega
    · have hin : i = n := by omega
      subst hin
      obtain ⟨c', htk⟩ := cst_last HOP.out HCS.out r (by have := HSUM.out; omega)
      rw [← HPR.out, HW.out, ← HOI.out] at htk
      simp only at htk
      have HTK := Lib.hid htk
      have HISX := Lib.hid HIS.out
      clear htk hlt
      go_wp2_with fail
      refine (im_take HM.out HG.out ⟨true, oi, false, 0, 0, 0, 0, r⟩ (fr_good _ _ (by omega) _ (by unfold maxLen; omega)) (by show r.size ≤ _; omega) hsz _ _ _ _ HTK.out).mono ?_
      rintro e w7 ⟨rfl, ⟨v7, hm, hl⟩, ht, hgd⟩
      have hx8 := (MO_keep HX.out HM.out ht (by decide) (by decide) (by decide)).alloc (.cells #[.int .i64 E.op, .int .i64 E.code, .string E.data] 57)
      have hy8 := Blk.new w7 57 #[.int .i64 E.op, .int .i64 E.code, .string E.data]
      have HT8 := Lib.hid ((MO_old HT.out HM.out ht (Nat.le_refl _) hgw' hcw').alloc (.cells #[.int .i64 E.op, .int .i64 E.code, .string E.data] 57))
      clear hm hl ht hgd HM HT HX HG HTK
      go_upto_region 23 with (fail)
      obtain ⟨w8, hw8⟩ : ∃ w8, w8 = w7.alloc (.cells #[.int .i64 E.op, .int .i64 E.code, .string E.data] 57) := ⟨_, rfl⟩
      obtain ⟨gy, hgy⟩ : ∃ gx, gx = w7.heap.size := ⟨_, rfl⟩
      rw [← hw8] at hx8 hy8 HT8 ⊢
      rw [← hgy] at hy8 ⊢
      have x0 := hx8.cell 0
      have x1 := hx8.cell 1
      have x2 := hx8.cell 2
      have y0 := hy8.cell 0
      have y1 := hy8.cell 1
      have y2 := hy8.cell 2
      have lx := hx8.lt
      have ly := hy8.lt
      simp at x0 x1 x2 y0 y1 y2
      have ke := eql_ev_all E E true (Ev.same_self _)
      have q1 : (IS == IS) = true := beq_self_eq_true _
      have q2 : (ER == ER) = true := beq_self_eq_true _
      have q3 : (IS == (ER == 0)) = true := by rw [HIS.out]; exact beq_self_eq_true _
      clear hx8 hy8 hw8 hgy
      go_wp2
      go_ret
      exact ⟨rfl, HT8.out⟩
theorem cuts12_row (w : World) (t : Bool) (a : ByteArray) (ha : a.size ≤ maxLen) (C : Option Addr) (ks : List Int) (cc : Nat) (hc : Rd w C (ks.flatMap fun x => [.int .u8 x])) (hcg : ∀ x ∈ ks, (Lit.int .u8 x).wf = true) (hkl : ks.length ≤ cc) (hkc : cc ≤ maxLen)
    (B : Option Addr) (ps : List Fr) (cb : Nat) (hp : Rd w B (ps.flatMap Fr.cl)) (hpg : ∀ x ∈ ps, x.good) (hpl : ps.length ≤ cb) (hpm : cb ≤ maxLen) :
    Calls Try.prog 10 #[.bool t, .string a, .slice C ks.length cc, .slice B ps.length cb] w fun e w' => e = .returned (.bool true) ∧ Touch NoS w w' := by
  have hf : ∀ l : List Int, (l.flatMap fun x => [Value.int .u8 x]) = u8s l := fun l => by induction l <;> simp_all [u8s]
  rw [hf] at hc
  exact cuts12_op w t _ rfl a ha C ks cc hc (fun x hx => u8_bounds (hcg x hx)) (by omega) B ps cb hp hpg (by omega)
end Go.Proofs.Ytkhppojlabajaaa
