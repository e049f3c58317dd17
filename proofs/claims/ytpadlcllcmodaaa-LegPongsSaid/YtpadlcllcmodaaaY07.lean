/- ring: Put. | leg: push. | rows of frames. -/
import Derived.Test.YtpadlcllcmodaaaY06
import Derived.Test.YtpadlcllcmodaaaY05
import Derived.Test.YtpadlcllcmodaaaY02
import Derived.Deep.RegionWith
import Derived.OwnWalk
/- ring: Put. -/
namespace Go.Proofs.Ytpadlcllcmodaaa
open Go.RowKit
set_option linter.unusedSimpArgs false
set_option linter.unusedVariables false

set_option maxHeartbeats 3200000 in
set_option maxRecDepth 100000 in
theorem rg_put (g b M : Nat) (l bs : List Int) (hin : bytesIn bs) (A : Option Addr) (n cap : Nat) (hn : bs.length = n) (hnc : n ≤ cap) (hcm : cap ≤ maxLen) (w : World) (h : IsR w g b M l) (hr : Rd w A (u8s bs)) (hA : ∀ a, A = some a → a.block ≠ b) :
    Calls Try.prog 74 #[.pointer (some ⟨g, 0, none⟩), .slice A n cap] w fun e w' => e = .returned (.int .i64 (min n (M - l.length) : Nat)) ∧ IsR w' g b M (l ++ bs.take (M - l.length)) ∧ Touch (RO g b) w w' := by
  obtain ⟨s, buf, hb, hrow, hM, hbin, hs, hMm, hl, hrc⟩ := h
  obtain ⟨K, hK⟩ : ∃ K, K = l.length := ⟨_, rfl⟩
  rw [← hK] at hb hl hrc ⊢
  have HKK := Lib.hid hK
  obtain ⟨k, hk⟩ : ∃ k, k = min n (M - K) := ⟨_, rfl⟩
  rw [← hk]
  have hmn : min (n : Int) ((M : Int) - K) = (k : Int) := by omega
  have HKM := Lib.hid hk
  have hkn : k ≤ n := by omega
  obtain ⟨bt, hbt⟩ : ∃ bt, bt = bs.take (M - K) := ⟨_, rfl⟩
  rw [← hbt]
  have hbtl : bt.length = k := by rw [hbt, List.length_take]; omega
  have HBTR : Hid (Rd w A (u8s bt)) := by
    show Rd w A (u8s bt)
    intro hx
    obtain ⟨g2, o2, e1, e2, e3⟩ := hr (by rintro e; apply hx; have := congrArg List.length e; simp [u8s] at this; rw [hbt, this]; simp [u8s])
    refine ⟨g2, o2, e1, e2, fun j u hu => e3 j u ?_⟩
    rw [hbt] at hu
    simp only [u8s, List.map_take, List.getElem?_take] at hu
    split at hu
    · exact hu
    · cases hu
  have HBTI : Hid (bytesIn bt) := by show bytesIn bt; rw [hbt]; exact hin.take _
  obtain ⟨E, hE⟩ : ∃ E, E = wrp M (s + K) := ⟨_, rfl⟩
  have HEE := Lib.hid hE
  have hEM : E < M := by rw [hE]; exact wrp_lt (by omega) (by omega)
  have hmod : ((s : Int) + K).tmod M = (E : Int) := by
    rw [hE, ← wrp_mod (by omega) (by omega)]
    exact (Int.ofNat_tmod (s + K) M).symm
  have HRC := Lib.hid hrc
  obtain ⟨n1, hn1⟩ : ∃ n1, n1 = min k (M - E) := ⟨_, rfl⟩
  have hn1k : n1 ≤ k := by omega
  have hn1M : E + n1 ≤ M := by omega
  have HN1 := Lib.hid hn1
  have HBTL := Lib.hid hbtl
  have HMM := Lib.hid hM
  obtain ⟨C1, hC1⟩ : ∃ C1, C1 = u8s (bt.take n1) := ⟨_, rfl⟩
  have HC1 := Lib.hid hC1
  have HC1L : Hid (C1.length = n1) := by show C1.length = n1; rw [hC1, u8s_length, List.length_take, hbtl]; omega
  obtain ⟨C2, hC2⟩ : ∃ C2, C2 = u8s (bt.drop n1) := ⟨_, rfl⟩
  have HC2 := Lib.hid hC2
  have HC2L : Hid (C2.length = k - n1) := by show C2.length = k - n1; rw [hC2, u8s_length, List.length_drop, hbtl]
  clear hn1 hC1 hC2 hbtl hbt hM
  have c0 := hb.cell 0
  have c1 := hb.cell 1
  have c2 := hb.cell 2
  have f2 := hb.frozen 2
  have glt := hb.lt
  simp [rgCells] at c0 c1 c2
  clear hK hk hE hrc
  have HRM := Lib.hid (rg_room g b M s K hMm hl w hb)
  have HB := Lib.hid hb
  have HROW := Lib.hid hrow
  have HR := Lib.hid hr
  clear hb hrow hr
  go_enter Try.func74, Try.ntmps74
  go_wp2_with fail
  refine HRM.out.mono ?_
  rintro e w1 ⟨rfl, ht⟩
  have c0 := HB.out.touch ht (fun h => h) |>.cell 0
  have c1 := HB.out.touch ht (fun h => h) |>.cell 1
  have c2 := HB.out.touch ht (fun h => h) |>.cell 2
  have f2 := HB.out.touch ht (fun h => h) |>.frozen 2
  have glt := (HB.out.touch ht (fun h => h)).lt
  simp [rgCells] at c0 c1 c2
  go_wp2_with fail
  go_quiet (fail)
  have HRD1 : Hid (Rd (w1.drewN nq) A C1) := by
    show Rd (w1.drewN nq) A C1
    rw [HC1.out]
    have := rd_take (HBTR.out.touch_no (ht.drewN nq)) n1
    simpa [u8s] using this
  have HROW1 : Hid (Blk (w1.drewN nq) b 5 (u8s buf).toArray) := (HROW.out.touch ht (fun h => h)).drewN nq
  go_wp2_with (with_reducible refine wpList_copy_at (o := ⟨some 38, _, _, _, _, _⟩) rfl (.tmp 36) (.tmp 37) 36 36 rfl 5 Try.underlying36 u8_info1r (some ⟨b, E, none⟩) A (M - E) (M - E) k n (by simp [Act.eval, Act.put]) (by simp [Act.eval, Act.put]) b E (u8s buf) 5 HROW1.out C1 (by rw [HC1L.out]; exact HN1.out) (fun _ => rfl) HRD1.out (by rw [HC1L.out, u8s_length, HMM.out]; exact hn1M) (by rw [HC1.out]; exact u8s_one _) ?_; intro w2 hrow2 ht2)
  have htt : Touch (At b) w w2 := (ht.drewN nq).of_no.trans ht2
  have hbg : g ≠ b := HB.out.ne_ HROW.out (by decide)
  have hb2 : Blk w2 g 99 (rgCells b M s K) := HB.out.touch htt (fun h => hbg h)
  have c0 := hb2.cell 0
  have c1 := hb2.cell 1
  have c2 := hb2.cell 2
  have f2 := hb2.frozen 2
  have glt := hb2.lt
  simp [rgCells] at c0 c1 c2
  rw [HC1L.out]
  go_wp2_with fail
  have HBUF : Hid ((splice (u8s buf) E C1).length = M) := by show (splice (u8s buf) E C1).length = M; rw [length_splice _ _ _ (by rw [HC1L.out, u8s_length, HMM.out]; exact hn1M), u8s_length, HMM.out]
  have HROW2 := Lib.hid hrow2
  have HT2 := Lib.hid htt
  clear hrow2 htt ht2 HROW1 HRD1 ht HRM
  have HFIN : Hid (∀ w3, Blk w3 b 5 (splice (splice (u8s buf) E C1) 0 C2).toArray → Touch (At b) w w3 → Blk w3 g 99 (rgCells b M s K) → IsR (w3.setCell ⟨g, 2, none⟩ (.int .i64 ((K : Int) + k))) g b M (l ++ bt) ∧ Touch (RO g b) w (w3.setCell ⟨g, 2, none⟩ (.int .i64 ((K : Int) + k)))) := by
    show ∀ w3, _
    intro w3 hrow3 ht3 hb3
    rw [HC1.out, HC2.out, u8s_splice, u8s_splice] at hrow3
    have hlen : (l ++ bt).length = K + k := by rw [List.length_append, ← HKK.out, HBTL.out]
    have hM := HMM.out
    have hkl := HKM.out
    have hf1 : E + (bt.take n1).length ≤ buf.length := by rw [List.length_take, HBTL.out, hM]; omega
    have hl1 : (splice buf E (bt.take n1)).length = M := by rw [length_splice _ _ _ hf1, hM]
    have hf2 : 0 + (bt.drop n1).length ≤ (splice buf E (bt.take n1)).length := by rw [hl1, List.length_drop, HBTL.out]; omega
    refine ⟨⟨s, splice (splice buf E (bt.take n1)) 0 (bt.drop n1), ?_, ?_, ?_, ?_, hs, hMm, by rw [hlen]; omega, ?_⟩, (ht3.mono (fun k h => .inr h)).setCell (p := ⟨g, 2, none⟩) (fun _ => .inl rfl) _⟩
    · rw [hlen]
      have := hb3.set_ 2 (.int .i64 ((K : Int) + k))
      simpa [rgCells] using this
    · exact hrow3.far (Ne.symm hbg) _
    · rw [length_splice _ _ _ hf2, hl1]
    · exact bytesIn_splice (bytesIn_splice hbin (HBTI.out.take _) _) (HBTI.out.drop _) _
    · rw [hlen]
      have hb := HBTL.out
      have := rc_put buf bt M s K E n1 hM hs (by omega) HEE.out (by rw [hb]; exact HN1.out)
      rw [hb, HRC.out] at this
      exact this
  by_cases hk0 : k = 0
  · obtain rfl : n1 = 0 := by omega
    subst hk0
    have HC20 : Hid (C2 = []) := by show C2 = []; exact List.eq_nil_of_length_eq_zero HC2L.out
    have hfin := HFIN.out
    rw [HC20.out] at hfin
    have HFIN2 := Lib.hid hfin
    clear hfin
    go_region_law (refine step_copy_at rfl (.tmp 42) (.tmp 45) 36 36 rfl 5 Try.underlying36 u8_info1r (some ⟨b, 0, none⟩) _ M M 0 _ rfl rfl b 0 (splice (u8s buf) E C1) 5 HROW2.out.drew [] (by simp) (fun _ => rfl) (Rd.nil_ _ _) (by simp) (by simp) ?_; intro w3 hrow3 ht3)
    all_goals
      have htt3 : Touch (At b) w w3 := HT2.out.drew.trans ht3
      have hb3 : Blk w3 g 99 (rgCells b M s K) := HB.out.touch htt3 (fun h => hbg h)
      have c2 := hb3.cell 2
      have f2 := hb3.frozen 2
      have glt := hb3.lt
      simp [rgCells] at c2
      have HB3 := Lib.hid hb3
      have HT3 := Lib.hid htt3
      have HROW3 := Lib.hid hrow3
      clear hb3 htt3 hrow3 ht3 hb2
      go_wp2_with fail
      go_ret
      exact ⟨rfl, HFIN2.out w3 HROW3.out HT3.out HB3.out⟩
  · obtain ⟨gA, off, rfl, hgA, _⟩ := HBTR.out (by intro e; have := congrArg List.length e; rw [u8s_length, HBTL.out] at this; simp at this; omega)
    have hab : gA ≠ b := hA _ rfl
    have HRD2 : Hid (Rd w2.drew (some ⟨gA, off + n1, none⟩) C2) := by
      show Rd w2.drew _ _
      rw [HC2.out]
      have := rd_drop (rd_at (HBTR.out) HT2.out.drew (fun h => hab h)) n1
      simpa [u8s] using this
    by_cases hnn : n1 = n
    · subst hnn
      obtain rfl : k = n1 := by omega
      have HC20 : Hid (C2 = []) := by show C2 = []; exact List.eq_nil_of_length_eq_zero (by rw [HC2L.out]; omega)
      have hfin := HFIN.out
      rw [HC20.out] at hfin
      have HFIN2 := Lib.hid hfin
      clear hfin
      go_region_law (refine step_copy_at rfl (.tmp 42) (.tmp 45) 36 36 rfl 5 Try.underlying36 u8_info1r (some ⟨b, 0, none⟩) _ M M 0 _ rfl rfl b 0 (splice (u8s buf) E C1) 5 HROW2.out.drew [] (by simp) (fun _ => rfl) (Rd.nil_ _ _) (by simp) (by simp) ?_; intro w3 hrow3 ht3)
      all_goals
        have htt3 : Touch (At b) w w3 := HT2.out.drew.trans ht3
        have hb3 : Blk w3 g 99 (rgCells b M s K) := HB.out.touch htt3 (fun h => hbg h)
        have c2 := hb3.cell 2
        have f2 := hb3.frozen 2
        have glt := hb3.lt
        simp [rgCells] at c2
        have HB3 := Lib.hid hb3
        have HT3 := Lib.hid htt3
        have HROW3 := Lib.hid hrow3
        clear hb3 htt3 hrow3 ht3 hb2
        go_wp2_with fail
        go_ret
        exact ⟨rfl, HFIN2.out w3 HROW3.out HT3.out HB3.out⟩
    · have hnn2 : ¬ n = n1 := fun h => hnn h.symm
      go_region_law (refine step_copy_at rfl (.tmp 42) (.tmp 45) 36 36 rfl 5 Try.underlying36 u8_info1r (some ⟨b, 0, none⟩) (some ⟨gA, off + n1, none⟩) M M (k - n1) (n - n1) rfl rfl b 0 (splice (u8s buf) E C1) 5 HROW2.out.drew C2 (by rw [HC2L.out]; exact (Nat.min_eq_left (by omega)).symm) (fun _ => rfl) HRD2.out (by rw [HC2L.out, HBUF.out]; omega) (by rw [HC2.out]; exact u8s_one _) ?_; intro w3 hrow3 ht3)
      all_goals
        have htt3 : Touch (At b) w w3 := HT2.out.drew.trans ht3
        have hb3 : Blk w3 g 99 (rgCells b M s K) := HB.out.touch htt3 (fun h => hbg h)
        have c2 := hb3.cell 2
        have f2 := hb3.frozen 2
        have glt := hb3.lt
        simp [rgCells] at c2
        have HB3 := Lib.hid hb3
        have HT3 := Lib.hid htt3
        have HROW3 := Lib.hid hrow3
        clear hb3 htt3 hrow3 ht3 hb2
        go_wp2_with fail
        go_ret
        exact ⟨rfl, HFIN.out w3 HROW3.out HT3.out HB3.out⟩
end Go.Proofs.Ytpadlcllcmodaaa
/- leg: push. -/
namespace Go.Proofs.Ytpadlcllcmodaaa
open Go.RowKit
set_option linter.unusedSimpArgs false
set_option linter.unusedVariables false

set_option maxHeartbeats 3200000 in
set_option maxRecDepth 100000 in
theorem l_push (g rg rb M : Nat) (ring tail : List Int) (hin : bytesIn tail) (v : Value) (cs : Array Value) (w : World) (hb : Blk w g 71 cs) (h14 : cs[14]? = some (.pointer (some ⟨rg, 0, none⟩))) (h15 : cs[15]? = some v)
    (hr : IsR w rg rb M ring) (ht : Win w 5 1 v tail.length (u8s tail)) (hA : v.ownBlock ≠ some rb) :
    Calls Try.prog 54 #[.pointer (some ⟨g, 14, none⟩)] w fun e w' => ∃ v', e = .returned (.bool (decide (tail.drop (M - ring.length) = []))) ∧ Blk w' g 71 (cs.setIfInBounds 15 v') ∧
      IsR w' rg rb M (ring ++ tail.take (M - ring.length)) ∧ Win w' 5 1 v' (tail.drop (M - ring.length)).length (u8s (tail.drop (M - ring.length))) ∧ (v'.ownBlock = v.ownBlock) ∧ Touch (fun k => k = g ∨ RO rg rb k) w w' := by
  obtain ⟨n, hn⟩ : ∃ n, n = tail.length := ⟨_, rfl⟩
  obtain ⟨k, hk⟩ : ∃ k, k = min n (M - ring.length) := ⟨_, rfl⟩
  have hkn : k ≤ n := by omega
  have hd : tail.drop (M - ring.length) = tail.drop k := by
    by_cases h : n ≤ M - ring.length
    · rw [List.drop_eq_nil_of_le (by omega), List.drop_eq_nil_of_le (by omega)]
    · rw [hk, Nat.min_eq_right (by omega)]
  have hdl : (tail.drop k).length = n - k := by rw [List.length_drop, hn]
  have hde : decide (tail.drop (M - ring.length) = []) = decide (n - k = 0) := by
    rw [hd, decide_eq_decide, ← hdl, List.length_eq_zero_iff]
  rw [hde, hd, hdl]
  have HD2 : Hid (u8s (tail.drop k) = (u8s tail).drop k) := by show u8s (tail.drop k) = (u8s tail).drop k; simp [u8s]
  obtain ⟨A, c, hv, hnc, hcm, hrd, hsp, hno⟩ := ht.cases
  rw [← hn] at hv hnc hno ht
  have hput := fun (W : World) (HT : Touch NoS w W) => rg_put rg rb M ring tail hin A n c hn.symm hnc hcm W (hr.no HT) (hrd.touch_no HT) (fun a ha => fun e => hA (by rw [hv, ha, ← e]; rfl))
  rw [← hk] at hput
  have HPUT := Lib.hid hput
  have hgr : g ≠ rg ∧ g ≠ rb := by
    obtain ⟨c1, c2, q1, q2⟩ := hr.blk
    exact ⟨hb.ne_ q1 (by decide), hb.ne_ q2 (by decide)⟩
  have HGR := Lib.hid hgr
  have c14 := (hb.cell 14).trans h14
  have c15 := (hb.cell 15).trans h15
  have f15 := hb.frozen 15
  have glt := hb.lt
  have HB := Lib.hid hb
  have HW := Lib.hid ht
  have HAE := Lib.hid hA
  have HN := Lib.hid hn
  have HK := Lib.hid hk
  have HR0 := Lib.hid hr
  subst hv
  rcases A with _ | ⟨gA, off, sp⟩
  · obtain ⟨rfl, rfl⟩ := hno rfl
    obtain rfl : k = 0 := by omega
    clear hput hr hrd hsp hno ht hb h14 h15 hd hde hdl hn hk hA hgr
    go_enter Try.func54, Try.ntmps54
    go_wp2_with fail
    go_region_with ((go_at_call 74; refine (HPUT.out _ ((Touch.refl _ _).drew)).mono ?_; rintro e w5 ⟨rfl, hr5, ht5⟩; have hb5 := HB.out.drew.touch ht5 (fun h => h.elim HGR.out.1 HGR.out.2); have f15 := hb5.frozen 15; have c14 := (hb5.cell 14).trans ((HB.out.cell 14).symm.trans c14); have c15 := (hb5.cell 15).trans ((HB.out.cell 15).symm.trans c15); have glt := hb5.lt; have HB5 := Lib.hid hb5; have HR5 := Lib.hid hr5; have HT5 := Lib.hid ht5; clear hb5 hr5 ht5))
    all_goals
      go_wp2_with fail
      go_ret
      refine ⟨_, by simp, HB5.out.set_ 15 _, HR5.out.touch ((Touch.refl (At g) _).setAt 15 _) (fun h => HGR.out.1 h.symm) (fun h => HGR.out.2 h.symm), ?_, rfl, (((Touch.refl (RO rg rb) w).drew.trans HT5.out).mono (fun k h => .inr h)).setCell (p := ⟨g, 15, none⟩) (fun _ => .inl rfl) _⟩
      have h0 : tail = [] := List.eq_nil_of_length_eq_zero HN.out.symm
      rw [h0]
      exact Win.nil_ _ _ _
  · obtain ⟨rfl, hlt⟩ := hsp _ rfl
    have HFIN : Hid (∀ w5 V, V = .slice (if c = k then some ⟨gA, off, none⟩ else some ⟨gA, off + k, none⟩) (n - k) (c - k) → Blk w5 g 71 cs → IsR w5 rg rb M (ring ++ tail.take (M - ring.length)) → Touch (RO rg rb) w w5 →
        Blk (w5.setCell ⟨g, 15, none⟩ V) g 71 (cs.setIfInBounds 15 V) ∧ IsR (w5.setCell ⟨g, 15, none⟩ V) rg rb M (ring ++ tail.take (M - ring.length)) ∧ Win (w5.setCell ⟨g, 15, none⟩ V) 5 1 V (n - k) (u8s (tail.drop k)) ∧ V.ownBlock = (Value.slice (some ⟨gA, off, none⟩) n c).ownBlock ∧ Touch (fun k => k = g ∨ RO rg rb k) w (w5.setCell ⟨g, 15, none⟩ V)) := by
      show ∀ w5 V, _
      intro w5 V hV hb5 hr5 htw
      have hw5 : Win w5 5 1 (.slice (some ⟨gA, off, none⟩) n c) n (u8s tail) := HW.out.touch htw (fun b hb hS => by
        rcases hS with rfl | rfl
        · obtain ⟨ds, q⟩ := HW.out.type hb
          obtain ⟨c1, c2, q1, q2⟩ := HR0.out.blk
          exact q.ne_ q1 (by decide) rfl
        · exact HAE.out hb)
      have hVo : V.ownBlock = (Value.slice (some ⟨gA, off, none⟩) n c).ownBlock := by rw [hV]; split <;> rfl
      refine ⟨hb5.set_ 15 _, hr5.touch ((Touch.refl (At g) _).setAt 15 _) (fun h => HGR.out.1 h.symm) (fun h => HGR.out.2 h.symm), ?_, hVo, (htw.mono (fun k h => .inr h)).setCell (p := ⟨g, 15, none⟩) (fun _ => .inl rfl) _⟩
      rw [HD2.out]
      have hc := hw5.cut k hkn
      rw [Nat.mul_one, ← hV] at hc
      exact hc.touch ((Touch.refl (At g) w5).setAt 15 V) (fun b hbo h => by
          have h : b = g := h
          rw [hVo, h] at hbo
          obtain ⟨ds, q⟩ := hw5.type hbo
          exact q.ne_ hb5 (by decide) rfl)
    clear hput hr hrd hsp hno ht hb h14 h15 hd hde hdl hn hk hA hgr
    have HQ : Hid ((((n - k : Nat) : Int) == 0) = decide (n - k = 0)) := by show (((n - k : Nat) : Int) == 0) = decide (n - k = 0); rw [Bool.eq_iff_iff]; simp
    by_cases hck : c = k
    · subst hck
      obtain rfl : n = c := by omega
      go_enter Try.func54, Try.ntmps54
      go_wp2_with fail
      go_region_with ((go_at_call 74; refine (HPUT.out _ ((Touch.refl _ _).drew)).mono ?_; rintro e w5 ⟨rfl, hr5, ht5⟩; have hb5 := HB.out.drew.touch ht5 (fun h => h.elim HGR.out.1 HGR.out.2); have f15 := hb5.frozen 15; have c14 := (hb5.cell 14).trans ((HB.out.cell 14).symm.trans c14); have c15 := (hb5.cell 15).trans ((HB.out.cell 15).symm.trans c15); have glt := hb5.lt; have HB5 := Lib.hid hb5; have HR5 := Lib.hid hr5; have HT5 := Lib.hid ht5; clear hb5 hr5 ht5))
      all_goals
        go_wp2_with fail
        go_ret
        refine ⟨_, by simp, HFIN.out w5 _ (by simp) HB5.out HR5.out ((Touch.refl (RO rg rb) w).drew.trans HT5.out)⟩
    · go_enter Try.func54, Try.ntmps54
      go_wp2_with fail
      go_region_with ((go_at_call 74; refine (HPUT.out _ ((Touch.refl _ _).drew)).mono ?_; rintro e w5 ⟨rfl, hr5, ht5⟩; have hb5 := HB.out.drew.touch ht5 (fun h => h.elim HGR.out.1 HGR.out.2); have f15 := hb5.frozen 15; have c14 := (hb5.cell 14).trans ((HB.out.cell 14).symm.trans c14); have c15 := (hb5.cell 15).trans ((HB.out.cell 15).symm.trans c15); have glt := hb5.lt; have HB5 := Lib.hid hb5; have HR5 := Lib.hid hr5; have HT5 := Lib.hid ht5; clear hb5 hr5 ht5))
      all_goals
        go_wp2_with fail
        go_ret
        refine ⟨_, by simp [HQ.out], HFIN.out w5 _ (by simp [hck]) HB5.out HR5.out ((Touch.refl (RO rg rb) w).drew.trans HT5.out)⟩
end Go.Proofs.Ytpadlcllcmodaaa
/- rows of frames. -/
namespace Go.Proofs.Ytpadlcllcmodaaa
open Go.RowKit
set_option linter.unusedSimpArgs false
set_option linter.unusedVariables false

/-- The cells of frames. -/
def frs (l : List Fr) : List Value := l.flatMap Fr.cl
theorem frs_length (l : List Fr) : (frs l).length = l.length * 8 := by
  induction l with
  | nil => rfl
  | cons e l ih => simp [frs, Fr.cl] at ih ⊢; omega
theorem frs_append (a b : List Fr) : frs (a ++ b) = frs a ++ frs b := by simp [frs]
theorem frs_one (l : List Fr) : ∀ u ∈ frs l, u.oneCell' = true := by
  intro u hu
  simp only [frs, List.mem_flatMap] at hu
  obtain ⟨e, _, he⟩ := hu
  simp [Fr.cl] at he
  rcases he with rfl | rfl | rfl | rfl | rfl | rfl | rfl | rfl <;> rfl
theorem frs_single (f : Fr) : frs [f] = f.cl := by simp [frs]
theorem info_fr : (Try.prog.info? 59).map (fun i => (i.zero, i.size, i.bytes)) = some (some (.agg #[.bool false, .int .i64 0, .bool false, .int .u8 0, .int .u8 0, .int .u8 0, .int .u8 0, .string ⟨#[]⟩]), 8, 40) := by kernel_rfl
theorem own_ne {w : World} {base : Nat} {e t : TypeId} {size n : Nat} {v : Value} {xs : List Value} {b : Nat} {cs : Array Value} (h : w.ownsRow base e size v n xs) (hb : Blk w b t cs) (hne : e ≠ t) : v.ownBlock ≠ some b := fun hv => by
  obtain ⟨cs', hb'⟩ := own_type h hv
  exact hb'.ne_ hb hne rfl
theorem own_apart {w w' : World} {base base' : Nat} {e t : TypeId} {size size' n n' : Nat} {v u : Value} {xs ys : List Value} (h : w.ownsRow base e size v n xs) (hu : w.ownsRow base' t size' u n' ys) (hne : e ≠ t) (hg : w.grownBy w' u.ownBlock) : w'.ownsRow base e size v n xs :=
  own_touch (S := fun b => u.ownBlock = some b) h ((Touch.refl _ w).grown hg (fun k hk _ => hk)) fun b hb hk => by
    obtain ⟨cs, hc⟩ := own_type hu hk
    exact own_ne h hc hne hb
theorem own_far {w : World} {base g : Nat} {e t : TypeId} {size n : Nat} {v : Value} {xs : List Value} {cs : Array Value} (h : w.ownsRow base e size v n xs) (hb : Blk w g t cs) (hne : e ≠ t) (i : Nat) (u : Value) : (w.setCell ⟨g, i, none⟩ u).ownsRow base e size v n xs :=
  own_touch h ((Touch.refl (At g) w).setAt i u) fun b hb' (he : b = g) => own_ne h hb hne (he ▸ hb')

theorem flat_at {α : Type} (cells : α → List Value) (s : Nat) (hs : ∀ x, (cells x).length = s) : ∀ (l : List α) (k : Nat) (hk : k < l.length) (j : Nat), j < s → (l.flatMap cells)[k * s + j]? = (cells l[k])[j]? := by
  intro l
  induction l with
  | nil => intro k hk; simp at hk
  | cons e l ih =>
    intro k hk j hj
    rw [List.flatMap_cons]
    cases k with
    | zero => simp only [Nat.zero_mul, Nat.zero_add]; rw [List.getElem?_append_left (by rw [hs]; exact hj)]; rfl
    | succ k =>
      rw [List.getElem?_append_right (by rw [hs, Nat.succ_mul]; omega), hs, show (k + 1) * s + j - s = k * s + j from by rw [Nat.succ_mul]; omega]
      exact ih k (by simpa using hk) j hj
theorem fr_cells {w : World} {A : Option Addr} {l : List Fr} (h : Rd w A (frs l)) (k : Nat) (hk : k < l.length) : ∃ g off, A = some ⟨g, off, none⟩ ∧ g < w.heap.size ∧
    w.cell? ⟨g, off + k * 8, none⟩ = some (.bool l[k].fin) ∧ w.cell? ⟨g, off + k * 8 + 1, none⟩ = some (.int .i64 l[k].op) ∧ w.cell? ⟨g, off + k * 8 + 2, none⟩ = some (.bool l[k].masked) ∧
    w.cell? ⟨g, off + k * 8 + 3, none⟩ = some (.int .u8 l[k].k0) ∧ w.cell? ⟨g, off + k * 8 + 4, none⟩ = some (.int .u8 l[k].k1) ∧ w.cell? ⟨g, off + k * 8 + 5, none⟩ = some (.int .u8 l[k].k2) ∧ w.cell? ⟨g, off + k * 8 + 6, none⟩ = some (.int .u8 l[k].k3) ∧
    w.cell? ⟨g, off + k * 8 + 7, none⟩ = some (.string l[k].data) := by
  have hf := flat_at Fr.cl 8 (fun _ => rfl) l k hk
  obtain ⟨g, off, hA, hg, hc⟩ := h (by intro he; have := hf 0 (by omega); unfold frs at he; rw [he] at this; simp [Fr.cl] at this)
  have hc' : ∀ j (hj : j < 8) u, (Fr.cl l[k])[j]? = some u → w.cell? ⟨g, off + k * 8 + j, none⟩ = some u := fun j hj u hu => by
    rw [Nat.add_assoc]; exact hc _ u ((hf j hj).trans hu)
  exact ⟨g, off, hA, hg, hc' 0 (by omega) _ rfl, hc' 1 (by omega) _ rfl, hc' 2 (by omega) _ rfl, hc' 3 (by omega) _ rfl, hc' 4 (by omega) _ rfl, hc' 5 (by omega) _ rfl, hc' 6 (by omega) _ rfl, hc' 7 (by omega) _ rfl⟩
theorem take_succ_eq {α : Type} (l m : List α) (k : Nat) (hl : k < l.length) (hm : k < m.length) (h : l.take k = m.take k) : l.take (k + 1) = m.take (k + 1) ↔ l[k] = m[k] := by
  have e1 : l.take (k + 1) = l.take k ++ [l[k]] := by simp
  have e2 : m.take (k + 1) = m.take k ++ [m[k]] := by simp
  rw [e1, e2, h]
  constructor
  · intro h'; have := List.append_cancel_left h'; simpa using this
  · intro h'; rw [h']

end Go.Proofs.Ytpadlcllcmodaaa
