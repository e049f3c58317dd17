/- law13: CutThrough: plain laws. | stream: look. -/
import Derived.Test.YtkhppojlabajaaaZ31
import Derived.Test.YtkhppojlabajaaaZ33
import Derived.Test.YtkhppojlabajaaaZ43
import Derived.Test.YtkhppojlabajaaaZ44
import Derived.OwnWalk
/- law13: CutThrough: plain laws. -/
namespace Go.Proofs.Ytkhppojlabajaaa
open Go.RowKit
set_option linter.unusedSimpArgs false
set_option linter.unusedVariables false

theorem scan_idem {mk : Bool} {most : Int} {a part : List Int} {fs : List Fr} (hb : bytesIn a) (hl : a.length ≤ maxLen) (h : scan mk most a = (fs, part, 0)) : scan mk most part = ([], part, 0) := by
  have hs := (scan_append mk most a.length a [] (Nat.le_refl _) (by rw [List.append_nil]; exact hb) (by rw [List.append_nil]; exact hl)).1 (by rw [h])
  rw [List.append_nil, h] at hs
  simp only [List.append_nil] at hs
  obtain ⟨g, p, e, h2⟩ : ∃ g p e, scan mk most part = (g, p, e) := ⟨_, _, _, rfl⟩
  rw [h2] at hs ⊢
  injection hs with h3 h4
  injection h4 with h5 h6
  have hg : g = [] := by
    have := congrArg List.length h3
    simp at this
    exact this
  rw [hg, ← h5, ← h6]
theorem through_step {mk : Bool} {most : Int} {part b c : List Int} {G : List Fr} (hb : bytesIn (part ++ (b ++ c))) (hl : (part ++ (b ++ c)).length ≤ maxLen) (h : scan mk most (part ++ (b ++ c)) = (G, [], 0)) :
    ∃ fs part2 gs, scan mk most (part ++ b) = (fs, part2, 0) ∧ scan mk most (part2 ++ c) = (gs, [], 0) ∧ fs ++ gs = G ∧ scan mk most part2 = ([], part2, 0) := by
  rw [← List.append_assoc] at hb hl h
  obtain ⟨fs, part2, gs, h1, h2, h3⟩ := scan_split mk most part b c G hb hl h
  refine ⟨fs, part2, gs, h1, h2, h3, scan_idem (fun x hx => hb x (by simp only [List.mem_append] at hx ⊢; exact .inl hx)) (by rw [List.length_append] at hl; omega) h1⟩
section
variable {op : Int} {s : ByteArray} {m n : Nat} (hop : op = 1 ∨ op = 2) (hs : s.size ≤ 500) (h1 : 1 ≤ m) (f1 : 1 ≤ n) (f3 : s.size ≤ n * m) (f4 : (n - 1) * m ≤ s.size) (f5 : n ≠ 1 → (n - 1) * m < s.size)
include hop hs h1 f3 f4 f5 in
theorem cut_fine (f : Fr) (hf : f ∈ cutFs op s m n) : f.good ∧ form9 f = true ∧ f.masked = false ∧ f.key = [0, 0, 0, 0] ∧ f.data.size ≤ 500 := by
  obtain ⟨i, hi, rfl⟩ := List.getElem_of_mem hf
  rw [cutFs_length] at hi
  rw [cutFs_get]
  have hz := cutF_size op s m n i (cutF_facts op s m n i hi h1 f3 f4 f5).1
  have hz' : (cutF op s m n i).data.size ≤ 500 := by omega
  have hopi : (cutF op s m n i).op = if i = 0 then op else 0 := rfl
  have ho : (cutF op s m n i).op = 0 ∨ (cutF op s m n i).op = 1 ∨ (cutF op s m n i).op = 2 := by
    rw [hopi]; split <;> omega
  refine ⟨?_, ?_, rfl, rfl, hz'⟩
  · have := fr_good (decide (i + 1 = n)) (cutF op s m n i).op (by omega) (cutF op s m n i).data (by unfold maxLen; omega)
    exact this
  · have hc : control9 (cutF op s m n i).op = false := decide_eq_false (by omega)
    have hk : known9 (cutF op s m n i).op = true := decide_eq_true (by omega)
    unfold form9
    rw [hk, hc]
    have : (cutF op s m n i).key = [0, 0, 0, 0] := rfl
    rw [this]
    simp
theorem maskAll_get (l : List Fr) (ds : List Int) (k : Nat) (h : k < (maskAll l ds).length) (h1 : k < l.length) (h2 : k < ds.length) : (maskAll l ds)[k] = mask1 l[k] ds[k] := by simp [maskAll]
include hop hs h1 f3 f4 f5 in
theorem mask_fits (ds : List Int) (hd : ∀ x ∈ ds, 0 ≤ x ∧ x ≤ 4294967295) (hn : n ≤ ds.length) (f : Fr) (hf : f ∈ maskAll (cutFs op s m n) ds) : fits true 65536 f ∧ check9 f = 0 := by
  obtain ⟨i, hi, rfl⟩ := List.getElem_of_mem hf
  have hl := maskAll_length (cutFs op s m n) ds (by rw [cutFs_length]; exact hn)
  rw [cutFs_length] at hl
  have hi1 : i < (cutFs op s m n).length := by rw [cutFs_length]; omega
  have hi2 : i < ds.length := by omega
  rw [maskAll_get _ _ i hi hi1 hi2]
  obtain ⟨a1, a2, a3, a4, a5⟩ := cut_fine hop hs h1 f3 f4 f5 _ (List.getElem_mem hi1)
  obtain ⟨d0, d1⟩ := hd ds[i] (List.getElem_mem hi2)
  have hfm := mask_form a3 a4 ds[i]
  refine ⟨⟨mask_good a1 _ d0 d1, by rw [hfm]; exact a2, rfl, ?_⟩, ?_⟩
  · show ((cutFs op s m n)[i].data.size : Int) ≤ 65536
    omega
  · rw [mask_check a3 a4]
    unfold check9
    rw [if_pos a2, if_neg (by omega)]
include h1 f3 f4 f5 in
theorem cut_upto (k : Nat) (hk : k ≤ n) : (dstr ((cutFs op s m n).take k)).size ≤ s.size := by
  rw [dstr_size, cut_take h1 f3 f4 f5 k hk, List.length_take]
  show min _ s.data.toList.length ≤ s.size
  have : s.data.toList.length = s.size := by simp
  omega
/-- What the machine has come to behind i frames. -/
def ThR (op : Int) (s : ByteArray) (m n i : Nat) (c : Mc) (told : List Ev) : Prop :=
  (i < n ∧ Cst 1000 op (dstr ((cutFs op s m n).take i)) i c ∧ told = []) ∨ (i = n ∧ told = [⟨op, 0, s⟩])
include hop hs h1 f3 f4 f5 in
/-- The next frame: the message is on its way, or whole, or no letters. -/
theorem thr_step {i : Nat} {c : Mc} {told : List Ev} (h : ThR op s m n i c told) (hi : i < n) (x : Int) :
    (op = 1 ∧ ∃ c', mtake c (mask1 (cutF op s m n i) x) = (c', Ev.zero, false, 122)) ∨
    (∃ c', mtake c (mask1 (cutF op s m n i) x) = (c', Ev.zero, false, 0) ∧ ThR op s m n (i + 1) c' told) ∨
    (∃ c', mtake c (mask1 (cutF op s m n i) x) = (c', ⟨op, 0, s⟩, true, 0) ∧ told = [] ∧ ThR op s m n (i + 1) c' [⟨op, 0, s⟩]) := by
  rcases h with ⟨_, hc, ht⟩ | ⟨h, _⟩
  case inr => omega
  have hil : i < (cutFs op s m n).length := by rw [cutFs_length]; exact hi
  have hst := dstr_take (cutFs op s m n) i hil
  rw [cutFs_get] at hst
  have hup := cut_upto h1 f3 f4 f5 (op := op) (i + 1) (by omega)
  have hsum : ((dstr ((cutFs op s m n).take i)).size : Int) + (cutF op s m n i).data.size ≤ 1000 := by
    have := congrArg ByteArray.size hst
    rw [ByteArray.size_append] at this
    omega
  have hmk : ∀ fin, decide (i + 1 = n) = fin → mtake c (mask1 (cutF op s m n i) x) = mtake c ⟨fin, if i = 0 then op else 0, false, 0, 0, 0, 0, (cutF op s m n i).data⟩ := fun fin hfin => by
    rw [← hfin]
    exact mtake_mask c _ _ _ _ _ _ _
  by_cases hl : i + 1 = n
  · rw [hmk true (decide_eq_true hl)]
    obtain ⟨c', h2⟩ := cst_last hop hc (cutF op s m n i).data hsum
    rw [← hst] at h2
    have hfull : dstr ((cutFs op s m n).take (i + 1)) = s := by
      rw [List.take_of_length_le (by rw [cutFs_length]; omega)]
      exact cut_str h1 f3 f4 f5
    rw [hfull] at h2
    by_cases hb : op = 1 ∧ badText (Uof op s) true = true
    · have hw : whole12 op s = (Ev.zero, false, 122) := if_pos hb
      rw [hw] at h2
      exact .inl ⟨hb.1, c', h2⟩
    · have hw : whole12 op s = (⟨op, 0, s⟩, true, 0) := if_neg hb
      rw [hw] at h2
      exact .inr (.inr ⟨c', h2, ht, .inr ⟨hl, rfl⟩⟩)
  · rw [hmk false (decide_eq_false hl)]
    rcases cst_step hop hc (cutF op s m n i).data hsum with ⟨hb, c', h2⟩ | ⟨c', h2, h3⟩
    · refine .inl ⟨?_, c', h2⟩
      rcases hop with h | h
      · exact h
      · rw [Uof_two op h] at hb
        cases hb
    · rw [← hst] at h3
      exact .inr (.inl ⟨c', h2, .inl ⟨by omega, h3, ht⟩⟩)
end
end Go.Proofs.Ytkhppojlabajaaa
/- stream: look. -/
namespace Go.Proofs.Ytkhppojlabajaaa
open Go.RowKit
set_option linter.unusedSimpArgs false
set_option linter.unusedVariables false

theorem farz8 {w : World} {g b : Nat} {t : TypeId} {cs : Array Value} (h : Blk w g t cs) (hne : g ≠ b) (u0 u1 u2 u3 u4 u5 u6 u7 : Value) :
    Blk ((((((((w.setCell ⟨b, 0, none⟩ u0).setCell ⟨b, 1, none⟩ u1).setCell ⟨b, 2, none⟩ u2).setCell ⟨b, 3, none⟩ u3).setCell ⟨b, 4, none⟩ u4).setCell ⟨b, 5, none⟩ u5).setCell ⟨b, 6, none⟩ u6).setCell ⟨b, 7, none⟩ u7) g t cs :=
  (((((((h.far hne _).far hne _).far hne _).far hne _).far hne _).far hne _).far hne _).far hne _
theorem setz8 {a w : World} {b : Nat} {S : Nat → Prop} (h : Touch S a w) (hb : a.heap.size ≤ b) (u0 u1 u2 u3 u4 u5 u6 u7 : Value) :
    Touch S a ((((((((w.setCell ⟨b, 0, none⟩ u0).setCell ⟨b, 1, none⟩ u1).setCell ⟨b, 2, none⟩ u2).setCell ⟨b, 3, none⟩ u3).setCell ⟨b, 4, none⟩ u4).setCell ⟨b, 5, none⟩ u5).setCell ⟨b, 6, none⟩ u6).setCell ⟨b, 7, none⟩ u7) :=
  (((((((h.setNew hb _).setNew hb _).setNew hb _).setNew hb _).setNew hb _).setNew hb _).setNew hb _).setNew hb _

set_option maxHeartbeats 12800000 in
set_option maxRecDepth 100000 in
theorem s_look_long (g : Nat) (mk : Bool) (most : Int) (gA off : Nat) (l : List Int) (n cap : Nat) (hn : l.length = n) (er : Int) (w : World)
    (hb : Blk w g 94 (stCells mk most (.slice (some ⟨gA, off, none⟩) n cap) er)) (hr : Rd w (some ⟨gA, off, none⟩) (u8s l)) (hin : bytesIn l) (hlc : n ≤ cap) (hcm : cap ≤ maxLen) (hl : 1 < n) (hl2 : n ≤ 70368744177664) (hm : (Lit.int .i64 most).wf = true) :
    Calls Try.prog 53 #[.pointer (some ⟨g, 0, none⟩)] w fun e w' => e = .returned (.tuple #[.agg (slook mk most l).1.cs, .int .i64 (slook mk most l).2.1, .int .i64 (slook mk most l).2.2]) ∧ Touch NoS w w' := by
  have hgl := hb.lt
  have b1 := hb.cell 1
  have b2 := hb.cell 2
  simp [stCells] at b1 b2
  have HB0 := Lib.hid hb
  obtain ⟨R, hR⟩ : ∃ R, R = slook mk most l := ⟨_, rfl⟩
  rw [← hR]
  unfold slook at hR
  obtain ⟨g', off', he, hgA, hcell⟩ := hr (by intro h; have := congrArg List.length h; simp [u8s] at this; rw [this] at hn; simp at hn; omega)
  injection he with he
  injection he with he1 he2
  subst he1 he2
  obtain ⟨v, hv⟩ : ∃ v, v = l.getD 1 0 := ⟨_, rfl⟩
  have hv1 : w.cell? ⟨gA, off + 1, none⟩ = some (.int .u8 v) := by
    apply hcell
    rw [u8s, List.getElem?_map, List.getElem?_eq_getElem (by omega), hv, List.getD_eq_getElem?_getD, List.getElem?_eq_getElem (by omega)]
    rfl
  have hv8 : 0 ≤ v ∧ v ≤ 255 := by rw [hv]; exact getD_in hin 0 (by omega) 1
  obtain ⟨y, hy⟩ : ∃ y, y = bits .and .u8 v 128 := ⟨_, rfl⟩
  obtain ⟨mb, hmb⟩ : ∃ mb, mb = decide (128 ≤ v) := ⟨_, rfl⟩
  have hyf : (y != 0) = mb := by
    rw [hy, and128 v hv8.1 hv8.2, hmb]
    by_cases h : 128 ≤ v
    · rw [if_pos h, decide_eq_true h]; rfl
    · rw [if_neg h, decide_eq_false h]; rfl
  obtain ⟨nb, hnb⟩ : ∃ nb, nb = (mb != mk) := ⟨_, rfl⟩
  have hy' := hy.symm
  have hnb' : (!(mb == mk)) = nb := hnb.symm
  rw [← hv, ← hmb] at hR
  have hne : (decide (128 ≤ v) ≠ mk) ↔ nb = true := by rw [hnb, ← hmb, bne_iff_ne]
  have hR2 : R = if (fget (l.take 1) most).2.2 = 91 then (Fr.zero, 0, 91) else if nb = true then (Fr.zero, 0, 100) else fget l most := by
    rw [hR]
    have hl1 : 1 < l.length := by omega
    simp only [hl1, true_and]
    rw [hmb]
    by_cases h : decide (128 ≤ v) ≠ mk
    · simp only [if_pos h, if_pos (hne.1 h)]
    · simp only [if_neg h, if_neg (fun k => h (hne.2 k))]
  obtain ⟨f, k, e, hG⟩ : ∃ f k e, fget l most = (f, k, e) := ⟨_, _, _, rfl⟩
  have HG : Hid (∀ W, Touch NoS w W → Calls Try.prog 67 #[.slice (some ⟨gA, off, none⟩) n cap, .int .i64 most] W fun e' w' => e' = .returned (.tuple #[.agg f.cs, .int .i64 k, .int .i64 e]) ∧ Touch NoS W w') := fun W h => by
    have := f_get _ l n cap hn most hm W (hr.touch_no h) hin hlc hcm (by omega)
    rw [hG] at this
    exact this
  obtain ⟨f1, kk, e1, hG1⟩ : ∃ f k e, fget (l.take 1) most = (f, k, e) := ⟨_, _, _, rfl⟩
  have HG1 : Hid (∀ W, Touch NoS w W → Calls Try.prog 67 #[.slice (some ⟨gA, off, none⟩) 1 cap, .int .i64 most] W fun e' w' => e' = .returned (.tuple #[.agg f1.cs, .int .i64 kk, .int .i64 e1]) ∧ Touch NoS W w') := fun W h => by
    have := f_get (some ⟨gA, off, none⟩) (l.take 1) 1 cap (by rw [List.length_take]; omega) most hm W (by
      have h1 := rd_window (hr.touch_no h) 0 1
      simpa using h1) (hin.take 1) (by omega) hcm (by omega)
    rw [hG1] at this
    exact this
  rw [hG, hG1] at hR2
  simp only at hR2
  have HR := Lib.hid hR2
  have HV1 := Lib.hid hv1
  have hcap0 : ¬ cap = 0 := by omega
  have i1 : (1 : Int) ≤ cap := by omega
  clear hb hr hG hG1 hin hn hm hcm hR hR2 hne hcell hy hv hmb hnb hv1
  obtain ⟨fin, op, masked, k0, k1, k2, k3, d⟩ := f
  obtain ⟨fin1, op1, masked1, k01, k11, k21, k31, d1⟩ := f1
  simp only [Fr.cs] at *
  go_enter Try.func53, Try.ntmps53
  go_wp2_with fail
  clear b1 b2 hgl
  obtain ⟨w1, hw1⟩ : ∃ w1, w1 = w.alloc (.cells #[.bool false, .int .i64 0, .bool false, .int .u8 0, .int .u8 0, .int .u8 0, .int .u8 0, .string ⟨#[]⟩] 44) := ⟨_, rfl⟩
  rw [← hw1]
  have HTW : Hid (Touch NoS w w1) := by rw [hw1]; exact (Touch.refl _ _).alloc _
  have HBR : Hid (Blk w1 w.heap.size 44 Fr.zero.cs) := by rw [hw1]; exact Blk.new _ _ _
  have HBS : Hid (Blk w1 g 94 (stCells mk most (.slice (some ⟨gA, off, none⟩) n cap) er)) := by rw [hw1]; exact HB0.out.alloc _
  have hgl := HBS.out.lt
  have b1 := HBS.out.cell 1
  have b2 := HBS.out.cell 2
  simp [stCells] at b1 b2
  clear hw1
  have HZ2 : Hid (Blk (w1.alloc (.cells #[.bool false, .int .i64 0, .bool false, .int .u8 0, .int .u8 0, .int .u8 0, .int .u8 0, .string ⟨#[]⟩] 44)) w1.heap.size 44 #[.bool false, .int .i64 0, .bool false, .int .u8 0, .int .u8 0, .int .u8 0, .int .u8 0, .string ⟨#[]⟩]) := Blk.new _ _ _
  have hs1 : w.heap.size ≤ w1.heap.size := HTW.out.size
  have HSZ := Lib.hid hs1
  clear hs1
  go_cut [7] (fun u wx => u = .int .i64 e1 ∧ Blk wx w.heap.size 44 Fr.zero.cs ∧ Blk wx g 94 (stCells mk most (.slice (some ⟨gA, off, none⟩) n cap) er) ∧ Touch NoS w wx)
  case first =>
    go_region_with (first
      | (go_at_call 67; refine (HG1.out _ HTW.out.drew).mono ?_; rintro e' w2 ⟨rfl, ht⟩; have HT2 := Lib.hid (HTW.out.drew.trans ht); have HR2 := Lib.hid (HBR.out.drew.touch ht (fun h => h)); have HS2 := Lib.hid (HBS.out.drew.touch ht (fun h => h)); clear ht)
      | (go_at_call 67; refine (HG1.out _ (HTW.out.alloc _).drew).mono ?_; rintro e' w2 ⟨rfl, ht⟩; have HT2 := Lib.hid ((HTW.out.alloc _).drew.trans ht); have HR2 := Lib.hid ((HBR.out.alloc _).drew.touch ht (fun h => h)); have HS2 := Lib.hid ((HBS.out.alloc _).drew.touch ht (fun h => h)); have hnb := HZ2.out.drew.touch ht (fun h => h); have d0 := hnb.cell 0; have d1 := hnb.cell 1; have d2 := hnb.cell 2; have d3 := hnb.cell 3; have d4 := hnb.cell 4; have d5 := hnb.cell 5; have d6 := hnb.cell 6; have d7 := hnb.cell 7; simp at d0 d1 d2 d3 d4 d5 d6 d7; have f0 := hnb.frozen 0; have f1 := hnb.frozen 1; have f2 := hnb.frozen 2; have f3 := hnb.frozen 3; have f4 := hnb.frozen 4; have f5 := hnb.frozen 5; have f6 := hnb.frozen 6; have f7 := hnb.frozen 7; have nl := hnb.lt; clear hnb; clear ht))
    all_goals
      go_wp2_with fail
      go_meet
      first
        | with_reducible exact ⟨rfl, HR2.out.alloc _, HS2.out.alloc _, HT2.out.alloc _⟩
        | with_reducible exact ⟨rfl, farz8 HR2.out (Nat.ne_of_lt HBR.out.lt) _ _ _ _ _ _ _ _, farz8 HS2.out (Nat.ne_of_lt hgl) _ _ _ _ _ _ _ _, setz8 HT2.out HSZ.out _ _ _ _ _ _ _ _⟩
  case rest =>
    obtain ⟨rfl, hbr, hbs, ht⟩ := hcut
    clear HTW HBR HBS HZ2 HSZ hgl b1 b2
    have HTC := Lib.hid ht
    have HBC := Lib.hid hbr
    have HSC := Lib.hid hbs
    have b0 := hbs.cell 0
    have b1 := hbs.cell 1
    have b2 := hbs.cell 2
    have hgl := hbs.lt
    simp [stCells] at b0 b1 b2
    have hcv1 := ht.cell HV1.out
    have hgAl : gA < wc.heap.size := by have := ht.size; omega
    clear ht hbr hbs HV1
    by_cases he1 : e1 = 91
    · subst he1
      have hR := HR.out
      rw [if_pos rfl] at hR
      subst hR
      go_wp2_with (refine wpList_store_row rfl 44 (.tmp 2) (.tmp 30) rfl w.heap.size Fr.zero.cs rfl rfl 44 Fr.zero.cs HBC.out fr_info rfl (fr_one _) ?_; rw [setRow_same HBC.out])
      refine bodyPost_ret (v := .tuple #[.agg Fr.zero.cs, .int .i64 0, .int .i64 91]) (look_results _ _ _ _ _ _ rfl rfl rfl HBC.out) rfl ⟨rfl, HTC.out⟩
    have hq1 : (e1 == 91) = false := by rw [beq_eq_false_iff_ne]; exact he1
    have hR := HR.out
    rw [if_neg he1] at hR
    have HRd := Lib.hid hR
    clear hR he1
    go_wp2_with fail
    go_quiet (fail)
    obtain ⟨wd, hwd⟩ : ∃ wd, wd = wc.drewN nq := ⟨_, rfl⟩
    rw [← hwd]
    have HTD : Hid (Touch NoS w wd) := by rw [hwd]; exact HTC.out.drewN _
    have HBD : Hid (Blk wd w.heap.size 44 Fr.zero.cs) := by rw [hwd]; exact HBC.out.drewN _
    have HSD : Hid (Blk wd g 94 (stCells mk most (.slice (some ⟨gA, off, none⟩) n cap) er)) := by rw [hwd]; exact HSC.out.drewN _
    clear hwd hcv1 hgAl b0 b1 b2 hgl HTC HBC HSC
    have hgl := HSD.out.lt
    have b1 := HSD.out.cell 1
    have b2 := HSD.out.cell 2
    simp [stCells] at b1 b2
    cases nb with
    | true =>
      have hR := HRd.out
      rw [if_pos rfl] at hR
      subst hR
      go_upto_region 6 with (fail)
      go_wp2_with (refine wpList_store_row rfl 44 (.tmp 2) (.tmp 45) rfl w.heap.size Fr.zero.cs rfl rfl 44 Fr.zero.cs HBD.out fr_info rfl (fr_one _) ?_; rw [setRow_same HBD.out])
      refine bodyPost_ret (v := .tuple #[.agg Fr.zero.cs, .int .i64 0, .int .i64 100]) (look_results _ _ _ _ _ _ rfl rfl rfl HBD.out) rfl ⟨rfl, HTD.out⟩
    | false =>
      have hR := HRd.out
      rw [if_neg (by simp)] at hR
      subst hR
      go_wp2_with fail
      go_region_with ((go_at_call 67; refine (HG.out _ HTD.out.drew).mono ?_; rintro e' w5 ⟨rfl, ht⟩; have hbr := HBD.out.drew.touch ht (fun h => h); have f0 := hbr.frozen 0; have f1 := hbr.frozen 1; have f2 := hbr.frozen 2; have f3 := hbr.frozen 3; have f4 := hbr.frozen 4; have f5 := hbr.frozen 5; have f6 := hbr.frozen 6; have f7 := hbr.frozen 7; have c0 := hbr.cell 0; have c1 := hbr.cell 1; have c2 := hbr.cell 2; have c3 := hbr.cell 3; have c4 := hbr.cell 4; have c5 := hbr.cell 5; have c6 := hbr.cell 6; have c7 := hbr.cell 7; simp [Fr.zero, Fr.cs] at c0 c1 c2 c3 c4 c5 c6 c7; have rl := hbr.lt; have HBR5 := Lib.hid hbr; clear hbr))
      all_goals
        obtain ⟨w6, hw6⟩ : ∃ w6, w6 = (((((((w5.setCell ⟨w.heap.size, 0, none⟩ (.bool fin)).setCell ⟨w.heap.size, 1, none⟩ (.int .i64 op)).setCell ⟨w.heap.size, 2, none⟩ (.bool masked)).setCell ⟨w.heap.size, 3, none⟩ (.int .u8 k0)).setCell ⟨w.heap.size, 4, none⟩ (.int .u8 k1)).setCell ⟨w.heap.size, 5, none⟩ (.int .u8 k2)).setCell ⟨w.heap.size, 6, none⟩ (.int .u8 k3)).setCell ⟨w.heap.size, 7, none⟩ (.string d) := ⟨_, rfl⟩
        rw [← hw6]
        have HB6 : Hid (Blk w6 w.heap.size 44 (Fr.cs ⟨fin, op, masked, k0, k1, k2, k3, d⟩)) := by rw [hw6]; exact (((((((HBR5.out.set_ 0 _).set_ 1 _).set_ 2 _).set_ 3 _).set_ 4 _).set_ 5 _).set_ 6 _).set_ 7 _
        have HT6 : Hid (Touch NoS w w6) := by rw [hw6]; exact ((((((((HTD.out.drew.trans ht).setNew (Nat.le_refl _) _).setNew (Nat.le_refl _) _).setNew (Nat.le_refl _) _).setNew (Nat.le_refl _) _).setNew (Nat.le_refl _) _).setNew (Nat.le_refl _) _).setNew (Nat.le_refl _) _).setNew (Nat.le_refl _) _
        clear hw6 ht f0 f1 f2 f3 f4 f5 f6 f7 c0 c1 c2 c3 c4 c5 c6 c7 rl HBR5
        go_wp2
        refine bodyPost_ret (v := .tuple #[.agg (Fr.cs ⟨fin, op, masked, k0, k1, k2, k3, d⟩), .int .i64 k, .int .i64 e]) (look_results _ _ _ _ _ _ rfl rfl rfl HB6.out) rfl ⟨rfl, HT6.out⟩
end Go.Proofs.Ytkhppojlabajaaa
