/- law13: CutThrough: the walk. -/
import Derived.Test.YtkhppojlabajaaaZ45
import Derived.Test.YtkhppojlabajaaaZ47
import Derived.Test.YtkhppojlabajaaaZ48
/- law13: CutThrough: the walk. -/
namespace Go.Proofs.Ytkhppojlabajaaa
open Go.RowKit
set_option linter.unusedSimpArgs false
set_option linter.unusedVariables false

/-- A machine's act leaves a stream be, and the other way round. -/
theorem MO_stv {w w' : World} {base g cu base' g' : Nat} {c : Mc} {v v' : Value} {mk : Bool} {most er : Int} {part : List Int} (hs : IsMv w base g cu c v) (h' : IsStv w base' g' mk most part er v') (k : Touch (MO g cu v) w w') (hv : ∀ b, v'.ownBlock = some b → v.ownBlock ≠ some b) : IsStv w' base' g' mk most part er v' := by
  refine h'.touch k ?_ ?_
  · rintro (h | h | h)
    · exact h'.1.ne_ hs.1 (by decide) h
    · exact (Blk.ne_ h'.1 hs.2.2 (by decide)) h
    · obtain ⟨cs, hc⟩ := own_type hs.2.1 h
      exact h'.1.ne_ hc (by decide) rfl
  · intro b hb hS
    rcases hS with rfl | rfl | h
    · exact own_ne h'.2 hs.1 (by decide) hb
    · exact own_ne h'.2 hs.2.2 (by decide) hb
    · exact hv b hb h
theorem SO_mv {w w' : World} {base g cu base' g' : Nat} {c : Mc} {v v' : Value} {mk : Bool} {most er : Int} {part : List Int} (hs : IsMv w base g cu c v) (h' : IsStv w base' g' mk most part er v') (k : Touch (SO g' v') w w') (hv : ∀ b, v'.ownBlock = some b → v.ownBlock ≠ some b) : IsMv w' base g cu c v := by
  refine hs.touch k ?_ ?_ ?_
  · rintro (h | h)
    · exact h'.1.ne_ hs.1 (by decide) h.symm
    · obtain ⟨cs, hc⟩ := own_type h'.2 h
      exact hs.1.ne_ hc (by decide) rfl
  · rintro (h | h)
    · exact (Blk.ne_ h'.1 hs.2.2 (by decide)) h.symm
    · obtain ⟨cs, hc⟩ := own_type h'.2 h
      exact (Blk.ne_ hs.2.2 hc (by decide)) rfl
  · intro b hb hS
    rcases hS with rfl | h
    · exact own_ne hs.2.1 h'.1 (by decide) hb
    · exact hv b h hb
theorem IsStv.grown {w w' : World} {base g : Nat} {mk : Bool} {most er : Int} {part : List Int} {v u : Value} {b0 n size : Nat} {e : TypeId} {xs : List Value} (h : IsStv w base g mk most part er v) (hu : w.ownsRow b0 e size u n xs) (h1 : 5 ≠ e) (h2 : e ≠ 94) (hg : w.grownBy w' u.ownBlock) : IsStv w' base g mk most part er v :=
  ⟨h.1.grown hg (own_ne hu h.1 h2), own_apart h.2 hu h1 hg⟩
theorem IsMv.grown {w w' : World} {base g cu : Nat} {c : Mc} {v u : Value} {b0 n size : Nat} {e : TypeId} {xs : List Value} (h : IsMv w base g cu c v) (hu : w.ownsRow b0 e size u n xs) (h1 : 5 ≠ e) (h2 : e ≠ 90) (h3 : e ≠ 108) (hg : w.grownBy w' u.ownBlock) : IsMv w' base g cu c v :=
  ⟨h.1.grown hg (own_ne hu h.1 h2), own_apart h.2.1 hu h1 hg, Blk.grown h.2.2 hg (own_ne hu h.2.2 h3)⟩
def lenV (v : Value) : Nat := match v with
  | .slice _ n _ => n
  | _ => 0

set_option maxHeartbeats 12800000 in
set_option maxRecDepth 100000 in
theorem through13_op (w : World) (t : Bool) (op : Int) (hop : op = if t = true then 1 else 2) (a : ByteArray) (ha : a.size ≤ maxLen) (x : Int) (hx0 : 0 ≤ x) (hx1 : x ≤ 65535)
    (B : Option Addr) (ds : List Int) (cb : Nat) (hd : Rd w B (ds.flatMap fun x => [.int .u32 x])) (hdw : ∀ x ∈ ds, 0 ≤ x ∧ x ≤ 4294967295) (hdc : ds.length ≤ cb) (hdm : cb ≤ maxLen) (y : Int) (hy0 : 0 ≤ y) (hy1 : y ≤ 255) :
    Calls Try.prog 16 #[.bool t, .string a, .int .u16 x, .slice B ds.length cb, .int .u8 y] w fun e w' => e = .returned (.bool true) ∧ Touch NoS w w' := by
  have HD := Lib.hid hd
  have HDW := Lib.hid hdw
  obtain ⟨q, hq⟩ : ∃ n, n = ds.length := ⟨_, rfl⟩
  rw [← hq] at hdc ⊢
  have HQ := Lib.hid hq.symm
  unfold maxLen at ha hdm
  clear hd hdw hq
  by_cases hbad : 500 < a.size ∨ q < 600
  · rcases hbad with hbad | hbad
    · go_enter Try.func16, Try.ntmps16
      go_wp2_with fail
      refine (aw13 _).mono ?_
      rintro e w2 ⟨rfl, ht⟩
      have HT := Lib.hid ht
      clear ht hop
      go_wp2_with fail
      refine (aw13 _).mono ?_
      rintro e w3 ⟨rfl, ht⟩
      have HT3 := Lib.hid (HT.out.trans ht)
      clear ht
      go_wp2
      go_ret
      exact ⟨rfl, HT3.out⟩
    · by_cases hz5 : 500 < a.size
      all_goals
        go_enter Try.func16, Try.ntmps16
        go_wp2_with fail
        refine (aw13 _).mono ?_
        rintro e w2 ⟨rfl, ht⟩
        have HT := Lib.hid ht
        clear ht hop
        go_wp2_with fail
        refine (aw13 _).mono ?_
        rintro e w3 ⟨rfl, ht⟩
        have HT3 := Lib.hid (HT.out.trans ht)
        clear ht
        go_wp2
        go_ret
        exact ⟨rfl, HT3.out⟩
  have hz : a.size ≤ 500 := by omega
  have hq6 : 600 ≤ q := by omega
  obtain ⟨m, hm⟩ : ∃ m : Nat, (m : Int) = 1 + x := ⟨(1 + x).toNat, by omega⟩
  have h1 : 1 ≤ m := by omega
  have h2 : m ≤ 65536 := by omega
  obtain ⟨n, hn, f1, _, f3, f4, f5⟩ := count_facts a.size m (by omega) h1 h2
  have f2 : n ≤ 501 := by have := Nat.le_mul_of_pos_right (n - 1) (show 0 < m by omega); omega
  have hop2 : op = 1 ∨ op = 2 := by rw [hop]; cases t; exact .inr rfl; exact .inl rfl
  have HA := Lib.hid (fun W => k_frames op hop2 a (by omega) m h1 h2 n hn W)
  have hw1 : IntKind.i64.wrap x = x := IntWalk.i64_in _ (by omega)
  have hw2 : IntKind.i64.wrap (1 + x) = m := by rw [hm]; exact IntWalk.i64_in _ (by omega)
  have hw3 : IntKind.i64.wrap y = y := IntWalk.i64_in _ (by omega)
  have hw4 : IntKind.i64.wrap (1 + y) = 1 + y := IntWalk.i64_in _ (by omega)
  have hfit := mask_fits hop2 hz h1 f3 f4 f5 ds HDW.out (by rw [HQ.out]; omega)
  have hstep := fun (i : Nat) (c : Mc) (told : List Ev) h hi x => thr_step hop2 hz h1 f3 f4 f5 (i := i) (c := c) (told := told) h hi x
  have hll : (cutFs op a m n).length = n := cutFs_length op a m n
  have hml : (maskAll (cutFs op a m n) ds).length = n := by rw [maskAll_length _ ds (by rw [hll, HQ.out]; omega), hll]
  have hmg : ∀ k (hk : k < (maskAll (cutFs op a m n) ds).length) (hk2 : k < ds.length), (maskAll (cutFs op a m n) ds)[k] = mask1 (cutF op a m n k) ds[k] := fun k hk hk2 => by
    have hk1 : k < (cutFs op a m n).length := by rw [hll]; omega
    rw [maskAll_get _ _ k hk hk1 hk2, cutFs_get]
  obtain ⟨M, hM⟩ : ∃ M, M = maskAll (cutFs op a m n) ds := ⟨_, rfl⟩
  rw [← hM] at hfit hml hmg
  have hgood : ∀ f ∈ M, f.good := fun f hf => (hfit f hf).1.1
  have herr : err13 M = 0 := (err13_zero M).2 fun f hf => (hfit f hf).2
  have hsz : (puts M).length ≤ n * 520 := by
    have : ∀ l : List Fr, (∀ f ∈ l, (fput f).length ≤ 520) → (puts l).length ≤ l.length * 520 := by
      intro l
      induction l with
      | nil => intro _; simp [puts]
      | cons f l ih =>
        intro h
        have e : puts (f :: l) = fput f ++ puts l := by simp [puts]
        rw [e, List.length_append, List.length_cons]
        have h1 := h f (by simp)
        have h2 := ih (fun g hg => h g (by simp [hg]))
        omega
    rw [← hml]
    refine this M fun f hf => ?_
    obtain ⟨i, hi, rfl⟩ := List.getElem_of_mem hf
    have hi2 : i < ds.length := by rw [HQ.out]; omega
    rw [hmg i hi hi2, fput_length]
    have h3 := size9_le (mask1 (cutF op a m n i) ds[i])
    have h4 : (mask1 (cutF op a m n i) ds[i]).data.size ≤ 500 := by
      show (cutF op a m n i).data.size ≤ 500
      rw [cutF_size op a m n i (cutF_facts op a m n i (by omega) h1 f3 f4 f5).1]
      omega
    omega
  have hscan := scan_puts M (fun f hf => (hfit f hf).1) (by show (puts M).length ≤ maxLen; unfold maxLen; omega)
  have hin : bytesIn (puts M) := fits_in M (fun f hf => (hfit f hf).1)
  have HFIT := Lib.hid hfit
  have HSTEP := Lib.hid hstep
  have HML := Lib.hid hml
  have HMG := Lib.hid hmg
  have HGOOD := Lib.hid hgood
  have HERR := Lib.hid herr
  have HSCAN : Hid (scan true 65536 (puts M) = (M, [], 0)) := hscan
  have HIN := Lib.hid hin
  have HLL := Lib.hid hll
  have HM := Lib.hid hM
  have HOT := Lib.hid hop
  have HZ := Lib.hid hz
  have HOP2 := Lib.hid hop2
  have HF1 := Lib.hid f1
  have HC0 : Hid (ThR op a m n 0 (Mc.new 1000) []) := .inl ⟨by omega, cst_new 1000 op, rfl⟩
  obtain ⟨N, hN⟩ : ∃ N, N = (puts M).length := ⟨_, rfl⟩
  have HN := Lib.hid hN.symm
  rw [← hN] at hsz
  obtain ⟨i, hi, hz0, hz1, hz2⟩ := info_parts info_ev
  clear hbad hn f3 f4 f5 hm hop hop2 hfit hstep hll hml hmg hM hgood herr hscan hin hN
  go_enter Try.func16, Try.ntmps16
  go_wp2_with fail
  refine (aw13 _).mono ?_
  rintro e w1 ⟨rfl, ht⟩
  have HT1 := Lib.hid ht
  clear ht
  go_upto_if 43 with (fail)
  go_cut [11] (fun ov wx => ov = .int .i64 op ∧ Touch NoS w wx)
  case first =>
    cases t with
    | true =>
      go_wp2_with fail
      go_meet
      exact ⟨by rw [HOT.out]; rfl, HT1.out⟩
    | false =>
      go_wp2_with fail
      go_meet
      exact ⟨by rw [HOT.out]; rfl, HT1.out⟩
  case rest =>
  obtain ⟨rfl, ht⟩ := hcut
  have HT2 := Lib.hid ht
  clear ht HT1
  obtain ⟨w2, rfl⟩ : ∃ w2 : World, w2 = wc := ⟨_, rfl⟩
  go_wp2_with fail
  refine (HA.out _).mono ?_
  rintro e w3 ⟨v3, rfl, ho, ht⟩
  obtain ⟨A3, c3, rfl, hlc3, hcm3, hrd, _, _⟩ := own_cases ho
  have HR3 := Lib.hid hrd
  have HT3 := Lib.hid (HT2.out.trans ht)
  clear ht ho hrd HT2
  go_wp2_with fail
  refine (k_masked A3 (cutFs op a m n) n c3 HLL.out B ds q cb HQ.out (by omega) _ HR3.out (HD.out.touch_no HT3.out) HDW.out (by omega) (by unfold maxLen; omega)).mono ?_
  rintro e w4 ⟨v4, rfl, ho, ht⟩
  rw [← HM.out] at ho
  obtain ⟨A4, c4, rfl, hlc4, hcm4, hrd, _, _⟩ := own_cases ho
  have HR4 := Lib.hid hrd
  have HT4 := Lib.hid (HT3.out.trans ht)
  clear ht ho hrd HT3 HR3
  go_wp2_with fail
  refine (k_bytes_ok A4 M n c4 HML.out _ HR4.out HGOOD.out (by omega) HERR.out).mono ?_
  rintro e w5 ⟨A5, c5, rfl, ho, ht⟩
  rw [HN.out] at ho ⊢
  obtain ⟨_, _, hv, hlc5, hcm5, hrd, _, _⟩ := own_cases ho
  injection hv with e1 _ e2
  subst e1 e2
  have HR5 := Lib.hid hrd
  have HT5 := Lib.hid (HT4.out.trans ht)
  unfold maxLen at hcm5
  clear ht ho hrd HT4 HR4
  go_wp2_with fail
  refine (stv_new true 65536 (by omega) (by omega) _).mono ?_
  rintro e w6 ⟨rfl, hs, ht⟩
  have HS6 := Lib.hid hs
  have HT6 := Lib.hid ht
  clear hs ht
  go_wp2_with fail
  refine (m_new 1000 (by omega) (by omega) _).mono ?_
  rintro e w7 ⟨g, cu, rfl, hg, hcu, hm, ht⟩
  have hs6 := HT6.out.size
  have hg5 : w5.heap.size ≤ g := by omega
  have hcu5 : w5.heap.size ≤ cu := by omega
  have HM7 := Lib.hid (hm.lower hs6)
  have HS7 := Lib.hid (HS6.out.no ht)
  have HT7 := Lib.hid (HT6.out.trans ht)
  have hs7 := HT7.out.size
  have hwf : (Lit.int .i64 65536).wf = true := wf_i64 (by omega) (by omega)
  have HWF := Lib.hid hwf
  clear hm ht HS6 HT6 hg hcu hwf
  go_wp2_with fail
  go_loopw [16, 22] (fun bv tv wr => ∃ (j k : Nat) (Ab : Option Addr) (part : List Int) (G : List Fr) (vs vm : Value) (c : Mc) (told : List Ev) (At : Option Addr) (ct : Nat),
      j ≤ N ∧ k ≤ n ∧ bv = .slice Ab (N - j) (c5 - j) ∧ tv = .slice At told.length ct ∧ told.length ≤ 1 ∧ Hid (Rd w5 Ab (u8s ((puts M).drop j))) ∧ Hid (scan true 65536 (part ++ (puts M).drop j) = (G, [], 0)) ∧ Hid (scan true 65536 part = ([], part, 0)) ∧ Hid (bytesIn part) ∧ part.length ≤ j ∧ Hid (M.drop k = G) ∧ Hid (ThR op a m n k c told) ∧ c.good ∧
      IsStv wr w5.heap.size w5.heap.size true 65536 part 0 vs ∧ IsMv wr w5.heap.size g cu c vm ∧ Hid (∀ b, vs.ownBlock = some b → vm.ownBlock ≠ some b) ∧ wr.ownsRow w5.heap.size 57 3 (.slice At told.length ct) told.length (evCells told) ∧ Touch NoS w5 wr) (fun bv _ _ => lenV bv)
  case atStart =>
    exact ⟨0, 0, A5, [], M, _, _, _, [], some ⟨w7.heap.size, 0, none⟩, 0, by omega, by omega, by rfl, rfl, by simp, HR5.out, HSCAN.out, rfl, fun x hx => (by cases hx), by simp, rfl, HC0.out, Mc.new_good 1000 (by omega) (by omega), HS7.out.no ((Touch.refl _ _).alloc _), HM7.out.no ((Touch.refl _ _).alloc _), fun b h => (by cases h), own_empty hs7 _ _, HT7.out.alloc _⟩
  case round =>
    obtain ⟨j, k, Ab, part, G, vs, vm, c, told, At, ct, hj, hk, rfl, rfl, htl, hrb, hsc, hid, hpi, hpl, hG, hth, hgd, hst, hmm, hvv, hto, ht⟩ := hrel
    have HRB := Lib.hid hrb.out
    have HSC := Lib.hid hsc.out
    have HID := Lib.hid hid.out
    have HPI := Lib.hid hpi.out
    have HG := Lib.hid hG.out
    have HTH := Lib.hid hth.out
    have HGD := Lib.hid hgd
    have HST := Lib.hid hst
    have HMM := Lib.hid hmm
    have HVV := Lib.hid hvv.out
    have HTO := Lib.hid hto
    have HTR := Lib.hid ht
    have hszr := ht.size
    clear hrb hsc hid hpi hG hth hgd hst hmm hvv hto ht HS7 HM7 HT7
    by_cases hlt : j < N
    · obtain ⟨wo, rfl⟩ : ∃ wo : World, wo = wr := ⟨_, rfl⟩
      obtain ⟨RL, hRL⟩ : ∃ R, R = N - j := ⟨_, rfl⟩
      obtain ⟨CL, hCL⟩ : ∃ R, R = c5 - j := ⟨_, rfl⟩
      rw [← hRL, ← hCL]
      have hRC : RL ≤ CL := by omega
      have hCm : (CL : Int) ≤ 9223372036854775807 := by omega
      obtain ⟨e, he⟩ : ∃ e : Nat, (e : Int) = min (1 + y) (RL : Int) := ⟨(min (1 + y) (RL : Int)).toNat, by omega⟩
      have he1 : 1 ≤ e := by omega
      have heR : e ≤ RL := by omega
      have heC : e ≤ CL := by omega
      have hmin : min (1 + y) (RL : Int) = e := he.symm
      have hdl : (u8s ((puts M).drop j)).length = RL * 1 := by rw [u8s_length, List.length_drop, HN.out, hRL, Nat.mul_one]
      obtain ⟨A9, _, hsl, hr9⟩ := sl_any (T := 36) Try.underlying36 size_u8 HRB.out hdl hRC (e : Int) (RL : Int) e RL rfl rfl heR (Nat.le_refl _)
      have hsl := hsl rfl
      have hdr : ((u8s ((puts M).drop j)).take (RL * 1)).drop (e * 1) = u8s ((puts M).drop (j + e)) := by
        rw [List.take_of_length_le (by rw [hdl]; exact Nat.le_refl _), Nat.mul_one]
        unfold u8s
        rw [← List.map_drop, List.drop_drop]
      rw [hdr] at hr9
      have HR9 := Lib.hid hr9
      have hsplit : (puts M).drop j = ((puts M).drop j).take e ++ (puts M).drop (j + e) := by rw [← List.drop_drop, List.take_append_drop]
      have hinp : bytesIn (part ++ (puts M).drop j) := fun x hx => (List.mem_append.1 hx).elim (fun h => HPI.out x h) (fun h => HIN.out x (List.mem_of_mem_drop h))
      have hlen : (part ++ (puts M).drop j).length ≤ maxLen := by rw [List.length_append, List.length_drop, HN.out]; unfold maxLen; omega
      have hsc := HSC.out
      rw [hsplit] at hinp hlen hsc
      obtain ⟨fs, part2, gs, t1, t2, t3, t4⟩ := through_step hinp hlen hsc
      obtain ⟨bs, hbs⟩ : ∃ b, b = ((puts M).drop j).take e := ⟨_, rfl⟩
      rw [← hbs] at t1 hinp
      have hbl : bs.length = e := by rw [hbs, List.length_take, List.length_drop, HN.out]; omega
      have hrbs : Rd w5 Ab (u8s bs) := by
        rw [hbs]
        have := HRB.out.take e
        unfold u8s at this ⊢
        rw [← List.map_take] at this
        exact this
      have hin1 : bytesIn (part ++ bs) := fun x hx => hinp x (by simp only [List.mem_append] at hx ⊢; rcases hx with h | h; exact .inl h; exact .inr (.inl h))
      have hq := scan_in true 65536 (part ++ bs).length (part ++ bs) (Nat.le_refl _) hin1 (by rw [List.length_append, hbl]; unfold maxLen; omega)
      rw [t1, List.length_append, hbl] at hq
      simp only at hq
      obtain ⟨p1, p2, p3⟩ := hq
      have hG := HG.out
      rw [← t3] at hG
      have hQ : k + fs.length ≤ n := by
        have := congrArg List.length hG
        rw [List.length_drop, HML.out, List.length_append] at this
        omega
      have hfs : ∀ r (h : r < fs.length) (h2 : k + r < M.length), fs[r] = M[k + r] := fun r h h2 => by
        have h3 : (M.drop k)[r]'(by rw [List.length_drop]; omega) = (fs ++ gs)[r]'(by rw [List.length_append]; omega) := by simp only [hG]
        rw [List.getElem_append_left h, List.getElem_drop] at h3
        exact h3.symm
      have hG2 : M.drop (k + fs.length) = gs := by
        rw [← List.drop_drop, hG, List.drop_left']
        rfl
      have HT1 := Lib.hid t1
      have HT2 := Lib.hid t2
      have HT4' := Lib.hid t4
      have HBL := Lib.hid hbl
      have HRBS := Lib.hid hrbs
      have HIN1 := Lib.hid hin1
      have HP1 := Lib.hid p1
      have HFS := Lib.hid hfs
      have HG2 := Lib.hid hG2
      have HRL := Lib.hid hRL
      have HCL := Lib.hid hCL
      obtain ⟨Q, hQQ⟩ : ∃ Q, Q = fs.length := ⟨_, rfl⟩
      rw [← hQQ] at hQ HG2
      have HQQ := Lib.hid hQQ.symm
      have hpb : part2.length ≤ part.length + e := p2
      have hpN : part2.length ≤ j + e := by omega
      clear he hdl hr9 hdr hsplit hinp hlen hsc t1 t2 t3 t4 hbs hbl hrbs hin1 p1 p2 p3 hG hfs hG2 hRL hCL hQQ hpb
      have i1 : (e : Int) ≤ CL := by omega
      have i2 : (e : Int) ≤ RL := by omega
      go_wp2_with fail
      refine (stv_feed HST.out HWF.out hszr bs Ab e CL HBL.out (HRBS.out.touch_no HTR.out) HIN1.out (by omega) fs part2 0 HT1.out).mono ?_
      rintro e' w8 ⟨A8, c8, v8, rfl, ho8, hs8, hl8, ht8⟩
      rw [HQQ.out] at ho8 ⊢
      have HO8 := Lib.hid ho8
      have HS8 := Lib.hid hs8
      have hm8 := SO_mv HMM.out HST.out ht8 HVV.out
      have HM8 := Lib.hid hm8
      have HTO8 := Lib.hid (SO_own HTO.out HST.out ht8 (by decide) (by decide))
      have HV8 : Hid (∀ b, vm.ownBlock = some b → v8.ownBlock ≠ some b) := Loc.apart hl8 (fun b h h' => HVV.out b h' h) (fun b h => (HMM.out.row_lt h).2)
      have HTR8 := Lib.hid (SO_old HTR.out HST.out ht8 (Nat.le_refl _) (Nat.le_refl _))
      have hws8 : wo.heap.size ≤ w8.heap.size := ht8.size
      clear ho8 hs8 hl8 ht8 hm8 HST HMM HVV HTO HTR
      go_wp2_with fail
      go_loopw [22, 26] (fun tv kv wx => ∃ (r : Nat) (c1 : Mc) (vm1 : Value) (told1 : List Ev) (At1 : Option Addr) (ct1 : Nat), r ≤ Q ∧ kv = .int .i64 r ∧ tv = .slice At1 told1.length ct1 ∧ told1.length ≤ 1 ∧ Hid (ThR op a m n (k + r) c1 told1) ∧ c1.good ∧
        IsStv wx w5.heap.size w5.heap.size true 65536 part2 0 v8 ∧ IsMv wx w5.heap.size g cu c1 vm1 ∧ Hid (∀ b, vm1.ownBlock = some b → v8.ownBlock ≠ some b) ∧ wx.ownsRow w5.heap.size 57 3 (.slice At1 told1.length ct1) told1.length (evCells told1) ∧ wx.ownsRow wo.heap.size 44 8 (.slice A8 Q c8) Q (frs fs) ∧ Touch NoS w5 wx) (fun _ kv _ => Q - (intOf kv).toNat)
      case atStart => exact ⟨0, c, vm, told, At, ct, by omega, rfl, rfl, htl, HTH.out, HGD.out, HS8.out, HM8.out, HV8.out, HTO8.out, HO8.out, HTR8.out⟩
      case round =>
        obtain ⟨r, c1, vm1, told1, At1, ct1, hr, rfl, rfl, htl1, hth1, hgd1, hs1, hm1, hv1, hto1, ho1, ht1⟩ := hrel
        have HTH1 := Lib.hid hth1.out
        have HGD1 := Lib.hid hgd1
        have HS1 := Lib.hid hs1
        have HM1 := Lib.hid hm1
        have HV1 := Lib.hid hv1.out
        have HTO1 := Lib.hid hto1
        have HO1 := Lib.hid ho1
        have HTR1 := Lib.hid ht1
        have hsx := ht1.size
        clear hth1 hgd1 hs1 hm1 hv1 hto1 ho1 ht1 HS8 HM8 HV8 HTO8 HO8 HTR8
        by_cases hrq : r < Q
        · have hr1 : r < fs.length := by rw [HQQ.out]; exact hrq
          have hkr : k + r < M.length := by rw [HML.out]; omega
          have hkd : k + r < ds.length := by rw [HQ.out]; omega
          have hfr := HFS.out r hr1 hkr
          rw [HMG.out (k + r) hkr hkd] at hfr
          obtain ⟨_, _, hv5, _, _, hrd5, _, _⟩ := own_cases HO1.out
          injection hv5 with e5 _ e6
          subst e5 e6
          obtain ⟨g5, o5, rfl, hg5', a0, a1, a2, a3, a4, a5, a6, a7⟩ := fr_cells hrd5 r hr1
          have hfit := HFIT.out M[k + r] (List.getElem_mem hkr)
          rw [HMG.out (k + r) hkr hkd] at hfit
          have hst := HSTEP.out (k + r) c1 told1 HTH1.out (by omega) ds[k + r]
          obtain ⟨f, hf⟩ : ∃ f, f = mask1 (cutF op a m n (k + r)) ds[k + r] := ⟨_, rfl⟩
          rw [hfr, ← hf] at a0 a1 a2 a3 a4 a5 a6 a7
          rw [← hf] at hfit hst
          have hfg := hfit.1.1
          have hfz := hfit.1.2.2.2
          have HFG := Lib.hid hfg
          have hfz' : f.data.size ≤ 100000000 := by omega
          obtain ⟨fin, fop, masked, k0, k1, k2, k3, d⟩ := f
          simp only at a0 a1 a2 a3 a4 a5 a6 a7 hfz'
          clear hr1 hkr hfr hrd5 hfit hf hfg hfz hkd
          rcases hst with ⟨hop1, c', htk⟩ | ⟨c', htk, hth⟩ | ⟨c', htk, htold, hth⟩
          · have HTK := Lib.hid htk
            have ht' : t = true := by
              have := HOT.out
              cases t with
              | true => rfl
              | false => rw [hop1] at this; exact absurd this (by decide)
            subst ht'
            clear hop1 htk
            go_wp2_with fail
            refine (im_take HM1.out HGD1.out ⟨fin, fop, masked, k0, k1, k2, k3, d⟩ HFG.out hfz' hsx _ _ _ _ HTK.out).mono ?_
            rintro e' w9 ⟨rfl, ⟨v9, hm, hl⟩, ht, hgd⟩
            have HT9 := Lib.hid (MO_old HTR1.out HM1.out ht (Nat.le_refl _) hg5 hcu5)
            clear hm hl ht hgd
            simp only [Ev.zero]
            go_wp2
            go_ret
            exact ⟨rfl, HT5.out.trans (HT9.out.alloc _)⟩
          · have HTK := Lib.hid htk
            have HTHN := Lib.hid hth
            clear htk hth
            go_wp2_with fail
            refine (im_take HM1.out HGD1.out ⟨fin, fop, masked, k0, k1, k2, k3, d⟩ HFG.out hfz' hsx _ _ _ _ HTK.out).mono ?_
            rintro e' w9 ⟨rfl, ⟨v9, hm, hl⟩, ht, hgd⟩
            have HM9 := Lib.hid (hm.no ((Touch.refl NoS w9).alloc (.cells #[.int .i64 0, .int .i64 0, .string ⟨#[]⟩] 57)))
            have HS9 := Lib.hid ((MO_stv HM1.out HS1.out ht (fun b h h' => HV1.out b h' h)).no ((Touch.refl NoS w9).alloc (.cells #[.int .i64 0, .int .i64 0, .string ⟨#[]⟩] 57)))
            have HV9 : Hid (∀ b, v9.ownBlock = some b → v8.ownBlock ≠ some b) := fun b h h' => Loc.apart hl (fun b h h' => HV1.out b h' h) (fun b h => (HS1.out.row_lt h).2) b h' h
            have HTO9 := Lib.hid (own_no (MO_own HTO1.out HM1.out ht (by decide) (by decide) (by decide)) ((Touch.refl NoS w9).alloc (.cells #[.int .i64 0, .int .i64 0, .string ⟨#[]⟩] 57)))
            have HO9 := Lib.hid (own_no (MO_own HO1.out HM1.out ht (by decide) (by decide) (by decide)) ((Touch.refl NoS w9).alloc (.cells #[.int .i64 0, .int .i64 0, .string ⟨#[]⟩] 57)))
            have HT9 := Lib.hid ((MO_old HTR1.out HM1.out ht (Nat.le_refl _) hg5 hcu5).alloc (.cells #[.int .i64 0, .int .i64 0, .string ⟨#[]⟩] 57))
            have HGD9 := Lib.hid hgd
            clear hm hl ht hgd HM1 HS1 HV1 HTO1 HO1 HTR1
            simp only [Ev.zero]
            go_wp2_with fail
            go_roundw
            · exact ⟨r + 1, c', v9, told1, At1, ct1, by omega, by go_num, rfl, htl1, by rw [← Nat.add_assoc]; exact HTHN.out, HGD9.out, HS9.out, HM9.out, HV9.out, HTO9.out, HO9.out, HT9.out⟩
            · simp [intOf]; omega
          · have HTK := Lib.hid htk
            have HTHN := Lib.hid hth
            subst htold
            clear htk hth
            go_wp2_with fail
            refine (im_take HM1.out HGD1.out ⟨fin, fop, masked, k0, k1, k2, k3, d⟩ HFG.out hfz' hsx _ _ _ _ HTK.out).mono ?_
            rintro e' w9 ⟨rfl, ⟨v9, hm, hl⟩, ht, hgd⟩
            have hm10 := hm.no ((Touch.refl NoS w9).alloc (.cells #[.int .i64 op, .int .i64 0, .string a] 57))
            have hs10 := (MO_stv HM1.out HS1.out ht (fun b h h' => HV1.out b h' h)).no ((Touch.refl NoS w9).alloc (.cells #[.int .i64 op, .int .i64 0, .string a] 57))
            have HV9 : Hid (∀ b, v9.ownBlock = some b → v8.ownBlock ≠ some b) := fun b h h' => Loc.apart hl (fun b h h' => HV1.out b h' h) (fun b h => (HS1.out.row_lt h).2) b h' h
            have hto10 := own_no (MO_own HTO1.out HM1.out ht (by decide) (by decide) (by decide)) ((Touch.refl NoS w9).alloc (.cells #[.int .i64 op, .int .i64 0, .string a] 57))
            have ho10 := own_no (MO_own HO1.out HM1.out ht (by decide) (by decide) (by decide)) ((Touch.refl NoS w9).alloc (.cells #[.int .i64 op, .int .i64 0, .string a] 57))
            have ht10 := (MO_old HTR1.out HM1.out ht (Nat.le_refl _) hg5 hcu5).alloc (.cells #[.int .i64 op, .int .i64 0, .string a] 57)
            have hx10 := Blk.new w9 57 #[.int .i64 op, .int .i64 0, .string a]
            have HGD9 := Lib.hid hgd
            clear hm hl ht hgd HM1 HS1 HV1 HTO1 HO1 HTR1
            go_upto_if 144 with (fail)
            obtain ⟨w10, hw10⟩ : ∃ w10, w10 = w9.alloc (.cells #[.int .i64 op, .int .i64 0, .string a] 57) := ⟨_, rfl⟩
            obtain ⟨gx, hgx⟩ : ∃ gx, gx = w9.heap.size := ⟨_, rfl⟩
            rw [← hw10] at hm10 hs10 hto10 ho10 ht10 hx10 ⊢
            rw [← hgx] at hx10 ⊢
            have x0 := hx10.cell 0
            have x1 := hx10.cell 1
            have x2 := hx10.cell 2
            have xl := hx10.lt
            simp at x0 x1 x2
            have HM10 := Lib.hid hm10
            have HS10 := Lib.hid hs10
            have HTO10 := Lib.hid hto10
            have HO10 := Lib.hid ho10
            have HT10 := Lib.hid ht10
            have hs10' := ht10.size
            clear hm10 hs10 hto10 ho10 ht10 hx10 hw10 hgx
            go_wp2_with (at_builtin; refine wpList_app_row _ rfl (.tmp 145) (.tmp 147) 71 rfl w5.heap.size 57 i _ 3 32 Try.underlying71 hi hz0 hz1 hz2 rfl (by decide) _ 0 (evCells []) rfl (own_no HTO10.out ((Touch.refl NoS w10).alloc (.cells #[.int .i64 op, .int .i64 0, .string a] 57))) (some ⟨w10.heap.size, 0, none⟩) 1 1 (Ev.cs ⟨op, 0, a⟩) rfl rfl (Rd.new w10 (Ev.cs ⟨op, 0, a⟩) 57 (0, 0)) (by intro u hu; simp [Ev.cs] at hu; rcases hu with rfl | rfl | rfl <;> rfl) (by unfold maxLen; omega) (by omega) (by simp; omega) ?_)
            intro v11 w11 ho11 hgr _
            obtain ⟨A11, c11, rfl, _, _, _, _, _⟩ := own_cases ho11
            have HTO11 := Lib.hid ho11
            have HM11 := Lib.hid ((HM10.out.no ((Touch.refl NoS w10).alloc (.cells #[.int .i64 op, .int .i64 0, .string a] 57))).grown (own_no HTO10.out ((Touch.refl NoS w10).alloc (.cells #[.int .i64 op, .int .i64 0, .string a] 57))) (by decide) (by decide) (by decide) hgr)
            have HS11 := Lib.hid ((HS10.out.no ((Touch.refl NoS w10).alloc (.cells #[.int .i64 op, .int .i64 0, .string a] 57))).grown (own_no HTO10.out ((Touch.refl NoS w10).alloc (.cells #[.int .i64 op, .int .i64 0, .string a] 57))) (by decide) (by decide) hgr)
            have HO11 := Lib.hid (own_apart (own_no HO10.out ((Touch.refl NoS w10).alloc (.cells #[.int .i64 op, .int .i64 0, .string a] 57))) (own_no HTO10.out ((Touch.refl NoS w10).alloc (.cells #[.int .i64 op, .int .i64 0, .string a] 57))) (by decide) hgr)
            have HT11 := Lib.hid ((HT10.out.alloc (.cells #[.int .i64 op, .int .i64 0, .string a] 57)).grown hgr (fun q hq hl => absurd (own_base HTO10.out hq) (by omega)))
            clear ho11 hgr HM10 HS10 HTO10 HO10 HT10
            go_wp2_with fail
            go_roundw
            · exact ⟨r + 1, c', v9, [⟨op, 0, a⟩], A11, c11, by omega, by go_num, rfl, by simp, by rw [← Nat.add_assoc]; exact HTHN.out, HGD9.out, HS11.out, HM11.out, HV9.out, HTO11.out, HO11.out, HT11.out⟩
            · simp [intOf]; omega
        · have hrq' : r = Q := by omega
          subst hrq'
          go_wp2_with fail
          go_roundw
          · exact ⟨j + e, k + r, A9, part2, gs, v8, vm1, c1, told1, At1, ct1, by have := HRL.out; omega, by omega, by rw [show N - (j + e) = RL - e from by have := HRL.out; omega, show c5 - (j + e) = CL - e from by have := HCL.out; omega], rfl, htl1, HR9.out, HT2.out, HT4'.out, HP1.out, hpN, HG2.out, HTH1.out, HGD1.out, HS1.out, HM1.out, fun b h h' => HV1.out b h' h, HTO1.out, HTR1.out⟩
          · simp [lenV]; omega
    · have hjn : j = N := by omega
      subst hjn
      have hnil : (puts M).drop j = [] := List.drop_of_length_le (by rw [HN.out]; exact Nat.le_refl _)
      have hsc := HSC.out
      rw [hnil, List.append_nil, HID.out] at hsc
      injection hsc with hg1 hg2
      injection hg2 with hg3 _
      subst hg3
      have hkn : k = n := by
        have := congrArg List.length HG.out
        rw [List.length_drop, HML.out, ← hg1] at this
        simp at this
        omega
      subst hkn
      have htold : told = [⟨op, 0, a⟩] := by
        rcases HTH.out with ⟨h, _⟩ | ⟨_, h⟩
        · omega
        · exact h
      subst htold
      obtain ⟨_, _, hv5, _, _, hrd5, _, _⟩ := own_cases HTO.out
      injection hv5 with e5 _ e6
      subst e5 e6
      have HRD := Lib.hid hrd5
      clear hnil hg1 hrd5
      go_wp2_with fail
      refine (r12_same At (some ⟨wr.heap.size, 0, none⟩) [⟨op, 0, a⟩] [⟨op, 0, a⟩] 1 1 ct 1 rfl rfl _ (HRD.out.touch_no ((Touch.refl _ _).alloc _)) (Rd.new wr (Ev.cs ⟨op, 0, a⟩) 57 (0, 0)) (by omega) (by omega)).mono ?_
      rintro e w8 ⟨rfl, ht⟩
      rw [show decide (([⟨op, 0, a⟩] : List Ev) = [⟨op, 0, a⟩]) = true from decide_eq_true rfl]
      have HS8 := Lib.hid ((HST.out.no ((Touch.refl _ _).alloc (.cells #[.int .i64 op, .int .i64 0, .string a] 57))).no ht)
      have HT8 := Lib.hid ((HTR.out.alloc (.cells #[.int .i64 op, .int .i64 0, .string a] 57)).trans ht)
      clear ht
      go_wp2_with fail
      refine (stv_part HS8.out 0 rfl).mono ?_
      rintro e w9 ⟨rfl, rfl⟩
      go_wp2
      go_ret
      exact ⟨rfl, HT5.out.trans HT8.out⟩
theorem through13_row (w : World) (t : Bool) (a : ByteArray) (ha : a.size ≤ maxLen) (x : Int) (hx : (Lit.int .u16 x).wf = true)
    (B : Option Addr) (ds : List Int) (cb : Nat) (hd : Rd w B (ds.flatMap fun x => [.int .u32 x])) (hdg : ∀ x ∈ ds, (Lit.int .u32 x).wf = true) (hdc : ds.length ≤ cb) (hdm : cb ≤ maxLen) (y : Int) (hy : (Lit.int .u8 y).wf = true) :
    Calls Try.prog 16 #[.bool t, .string a, .int .u16 x, .slice B ds.length cb, .int .u8 y] w fun e w' => e = .returned (.bool true) ∧ Touch NoS w w' := by
  obtain ⟨h1, h2⟩ := (Lit.wf_int_iff .u16 x).1 hx
  rw [show IntKind.u16.min = 0 from rfl] at h1
  rw [show IntKind.u16.max = 65535 from rfl] at h2
  obtain ⟨hy0, hy1⟩ := u8_bounds hy
  refine through13_op w t _ rfl a ha x h1 h2 B ds cb hd (fun z hz => ?_) hdc hdm y hy0 hy1
  obtain ⟨h1, h2⟩ := (Lit.wf_int_iff .u32 z).1 (hdg z hz)
  rw [show IntKind.u32.min = 0 from rfl] at h1
  rw [show IntKind.u32.max = 4294967295 from rfl] at h2
  exact ⟨h1, h2⟩
end Go.Proofs.Ytkhppojlabajaaa
