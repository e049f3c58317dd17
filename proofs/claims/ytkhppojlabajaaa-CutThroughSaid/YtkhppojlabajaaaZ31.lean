/- law13: CutMasks: the walk. -/
import Derived.Test.YtkhppojlabajaaaZ30
/- law13: CutMasks: the walk. -/
namespace Go.Proofs.Ytkhppojlabajaaa
open Go.RowKit
set_option linter.unusedSimpArgs false
set_option linter.unusedVariables false

theorem mask_form {f : Fr} (hm : f.masked = false) (hk : f.key = [0, 0, 0, 0]) (x : Int) : form9 (mask1 f x) = form9 f := by
  unfold form9
  rw [hm, hk]
  simp [mask1]
  rfl
theorem mask_check {f : Fr} (hm : f.masked = false) (hk : f.key = [0, 0, 0, 0]) (x : Int) : check9 (mask1 f x) = check9 f := by
  unfold check9
  rw [mask_form hm hk]
  rfl
theorem mask_key (f : Fr) (x : Int) (h0 : 0 ≤ x) (h1 : x ≤ 4294967295) : bytesIn (mask1 f x).key := by
  intro y hy
  simp only [Fr.key, mask1, List.mem_cons, List.not_mem_nil, or_false] at hy
  omega
theorem mask_good {f : Fr} (hf : f.good) (x : Int) (h0 : 0 ≤ x) (h1 : x ≤ 4294967295) : (mask1 f x).good := ⟨hf.1, mask_key f x h0 h1, hf.2.2⟩
theorem mask_bytes (f : Fr) (hm : f.masked = false) (x : Int) : ∃ h t, 0 ≤ h ∧ h < 128 ∧ fput f = first9 f :: h :: (t ++ sb f.data) ∧ fput (mask1 f x) = first9 f :: (h + 128) :: (t ++ ((mask1 f x).key ++ turn (mask1 f x).key 0 (sb f.data))) ∧ t.length ≤ 8 := by
  obtain ⟨h, t, hl, h0, h1⟩ := lenB_head f.data.size
  refine ⟨h, t, h0, h1, ?_, ?_, by have := lenB_le f.data.size; rw [hl] at this; simpa using this⟩
  · unfold fput long9
    rw [hm, hl]
    simp
  · unfold fput long9
    have : (mask1 f x).masked = true := rfl
    rw [this]
    have e : lenB (mask1 f x).data.size = h :: t := hl
    rw [e]
    simp
    exact ⟨rfl, rfl⟩
theorem one_of {α : Type} (l : List α) (k : Nat) (h : k < l.length) : (l.take (k + 1)).drop k = [l[k]] := by
  rw [List.take_succ_eq_append_getElem h, List.drop_append_of_le_length (by rw [List.length_take]; omega), List.drop_of_length_le (by rw [List.length_take]; omega)]
  rfl
theorem frs_one_of (l : List Fr) (k : Nat) (h : k < l.length) : ((frs l).take ((k + 1) * 8)).drop (k * 8) = frs [l[k]] := by
  rw [← frs_take, ← frs_drop, one_of l k h]
theorem mb_take (f0 b : Int) (t r : List Int) (P : Nat) (hP : P = 2 + t.length) : ((u8s (f0 :: b :: (t ++ r))).take (P * 1)).drop (2 * 1) = u8s t := by
  have e : u8s (f0 :: b :: (t ++ r)) = [Value.int .u8 f0, .int .u8 b] ++ (u8s t ++ u8s r) := by simp [u8s]
  have hl : (u8s t).length = t.length := u8s_length t
  rw [e, hP, Nat.mul_one, Nat.mul_one, show 2 + t.length = ([Value.int .u8 f0, .int .u8 b] : List Value).length + (u8s t).length from by rw [hl]; rfl, ← List.append_assoc, List.take_left' (by rw [List.length_append]),
    show 2 = ([Value.int .u8 f0, .int .u8 b] : List Value).length from rfl, List.drop_left' rfl]
theorem mb_drop (f0 b : Int) (t K r : List Int) (P : Nat) (hP : P = 2 + t.length) (hK : K.length = 4) : (u8s (f0 :: b :: (t ++ (K ++ r)))).drop ((P + 4) * 1) = u8s r := by
  have e : u8s (f0 :: b :: (t ++ (K ++ r))) = u8s (f0 :: b :: (t ++ K)) ++ u8s r := by simp [u8s]
  rw [e, List.drop_left']
  rw [u8s_length, hP]
  simp
  omega

set_option maxHeartbeats 12800000 in
set_option maxRecDepth 100000 in
theorem masks13_row (w : World) (A : Option Addr) (ls : List Fr) (c : Nat) (hr : Rd w A (ls.flatMap Fr.cl)) (hg : ∀ x ∈ ls, x.good) (hlc : ls.length ≤ c) (hcc : c ≤ maxLen)
    (B : Option Addr) (ds : List Int) (cb : Nat) (hd : Rd w B (ds.flatMap fun x => [.int .u32 x])) (hdg : ∀ x ∈ ds, (Lit.int .u32 x).wf = true) (hdc : ds.length ≤ cb) (hdm : cb ≤ maxLen) :
    Calls Try.prog 6 #[.slice A ls.length c, .slice B ds.length cb] w fun e w' => e = .returned (.bool true) ∧ Touch NoS w w' := by
  have hr : Rd w A (frs ls) := hr
  have HR := Lib.hid hr
  have HG := Lib.hid hg
  have HD := Lib.hid hd
  have HDW : Hid (∀ x ∈ ds, 0 ≤ x ∧ x ≤ 4294967295) := fun x hx => by
    obtain ⟨h1, h2⟩ := (Lit.wf_int_iff .u32 x).1 (hdg x hx)
    rw [show IntKind.u32.min = 0 from rfl] at h1
    rw [show IntKind.u32.max = 4294967295 from rfl] at h2
    exact ⟨h1, h2⟩
  obtain ⟨n, hn⟩ : ∃ n, n = ls.length := ⟨_, rfl⟩
  rw [← hn] at hlc ⊢
  have HN := Lib.hid hn.symm
  obtain ⟨q, hq⟩ : ∃ n, n = ds.length := ⟨_, rfl⟩
  rw [← hq] at hdc ⊢
  have HQ := Lib.hid hq.symm
  have hnm : n ≤ maxLen := by omega
  have HNM := Lib.hid hnm
  unfold maxLen at hdm hcc
  clear hr hg hn hnm hd hdg hq
  go_enter Try.func6, Try.ntmps6
  go_wp2_with fail
  refine (aw13 _).mono ?_
  rintro e w1 ⟨rfl, ht⟩
  have HT1 := Lib.hid ht
  clear ht
  go_wp2_with fail
  refine (r12_few A ls n c HN.out w1 (HR.out.touch_no HT1.out) HNM.out HG.out).mono ?_
  rintro e w2 ⟨rfl, rfl⟩
  obtain ⟨fw, hfw⟩ : ∃ fw, fw = few12 ls := ⟨_, rfl⟩
  rw [← hfw]
  have HFW := Lib.hid hfw
  clear hfw
  cases fw with
  | false =>
    go_wp2_with fail
    refine (aw13 _).mono ?_
    rintro e w3 ⟨rfl, ht⟩
    have HT3 := Lib.hid (HT1.out.trans ht)
    clear ht
    go_wp2
    go_ret
    exact ⟨rfl, HT3.out⟩
  | true =>
    by_cases hq50 : 50 < q
    · go_wp2_with fail
      refine (aw13 _).mono ?_
      rintro e w3 ⟨rfl, ht⟩
      have HT3 := Lib.hid (HT1.out.trans ht)
      clear ht
      go_wp2
      go_ret
      exact ⟨rfl, HT3.out⟩
    have hq50' : q ≤ 50 := by omega
    have hfew := of_decide_eq_true HFW.out.symm
    obtain ⟨h300, h30⟩ := hfew
    rw [HN.out] at h30
    have H300 := Lib.hid h300
    obtain ⟨i, hi, hz0, hz1, hz2⟩ := info_parts info_fr
    clear h300 hq50
    go_wp2_with (at_builtin; refine wpList_app_row _ rfl (.tmp 27) (.tmp 28) 23 rfl w1.heap.size 44 i _ 8 40 Try.underlying23 hi hz0 hz1 hz2 rfl (by decide) _ 0 [] rfl (own_empty (Nat.le_refl _) _ _) A n c (frs ls) rfl (by rw [frs_length, HN.out]) ((HR.out.touch_no HT1.out).touch_no ((Touch.refl _ _).alloc _)) (frs_one ls) (by unfold maxLen; omega) (by omega) (by simp) ?_)
    intro v9 w9 ho9 hgr _
    obtain ⟨A9, c9, rfl, _, _, hrd, _, _⟩ := own_cases ho9
    have HR9 := Lib.hid hrd
    have HT9 := Lib.hid (HT1.out.trans (((Touch.refl _ _).alloc (.cells #[] 44)).grown hgr (fun q hq hl => absurd (own_base (own_empty (Nat.le_refl _) 44 8) hq) (by omega))))
    clear ho9 hgr hrd HT1
    by_cases hqn : q < n
    · go_wp2_with fail
      refine (k_masked_no A9 n c9 B q cb hqn _).mono ?_
      rintro e w10 ⟨rfl, rfl⟩
      go_wp2
      go_ret
      exact ⟨rfl, HT9.out⟩
    · have hqn' : n ≤ q := by omega
      go_wp2_with fail
      refine (k_masked A9 ls n c9 HN.out B ds q cb HQ.out hqn' _ HR9.out (HD.out.touch_no HT9.out) HDW.out (by omega) (by unfold maxLen; omega)).mono ?_
      rintro e w10 ⟨v10, rfl, ho, ht⟩
      obtain ⟨A10, c10, rfl, hlc10, hcm10, hrd, _, _⟩ := own_cases ho
      have HRM := Lib.hid hrd
      have HT10 := Lib.hid (HT9.out.trans ht)
      unfold maxLen at hcm10
      clear ho ht hrd HT9 HR9
      go_wp2_with fail
      go_loopw [7] (fun iv wr => ∃ k : Nat, k ≤ n ∧ iv = .int .i64 k ∧ Touch NoS w10 wr) (fun iv _ => n - (intOf iv).toNat)
      case atStart => exact ⟨0, by omega, rfl, Touch.refl _ _⟩
      case round =>
        obtain ⟨k, hk, rfl, ht⟩ := hrel
        have HTR := Lib.hid (HT10.out.trans ht)
        by_cases hlt : k < n
        · have hk1 : k < ls.length := by rw [HN.out]; exact hlt
          have hkd : k < ds.length := by rw [HQ.out]; omega
          have hML : (maskAll ls ds).length = n := by rw [maskAll_length ls ds (by rw [HN.out, HQ.out]; exact hqn'), HN.out]
          have hkm : k < (maskAll ls ds).length := by rw [hML]; exact hlt
          have hrA := HR.out.touch_no HTR.out
          have hrM := HRM.out.touch_no ht
          obtain ⟨A', hsA, _, hrA'⟩ := sl_any (T := 23) Try.underlying23 size_fr hrA (by rw [frs_length, HN.out]) hlc (k : Int) ((k : Int) + 1) k (k + 1) rfl (by omega) (by omega) (by omega)
          obtain ⟨M', hsM, _, hrM'⟩ := sl_any (T := 23) Try.underlying23 size_fr hrM (by rw [frs_length, hML]) hlc10 (k : Int) ((k : Int) + 1) k (k + 1) rfl (by omega) (by omega) (by omega)
          rw [frs_one_of ls k hk1] at hrA'
          rw [frs_one_of (maskAll ls ds) k hkm] at hrM'
          obtain ⟨gA, oA, rfl, hgA, a0, a1, a2, a3, a4, a5, a6, a7⟩ := fr_cells hrA k hk1
          obtain ⟨gM, oM, rfl, hgM, c0, c1, c2, c3, c4, c5, c6, c7⟩ := fr_cells hrM k hkm
          obtain ⟨hx0, hx1⟩ := HDW.out ds[k] (List.getElem_mem hkd)
          have hfg := HG.out ls[k] (List.getElem_mem hk1)
          have hfz := H300.out ls[k] (List.getElem_mem hk1)
          have hmk : (maskAll ls ds)[k] = mask1 ls[k] ds[k] := by simp [maskAll]
          rw [hmk] at c0 c1 c2 c3 c4 c5 c6 c7 hrM'
          obtain ⟨x, hx⟩ : ∃ x, x = ds[k] := ⟨_, rfl⟩
          obtain ⟨f, hf⟩ : ∃ f, f = ls[k] := ⟨_, rfl⟩
          rw [← hf] at a0 a1 a2 a3 a4 a5 a6 a7 c0 c1 c2 c3 c4 c5 c6 c7 hrA' hrM' hfg hfz
          rw [← hx] at c0 c1 c2 c3 c4 c5 c6 c7 hx0 hx1 hrM'
          have kk : k + 1 - k = 1 := by omega
          rw [kk] at hsA hsM
          by_cases hmask : f.masked = true
          · rw [hmask] at a2
            clear ht hk1 hkd hML hkm hrA hrM hrA' hrM' hmk hx hf hfg
            go_wp2
            go_ret
            exact ⟨rfl, HTR.out⟩
          have hmask : f.masked = false := by simpa using hmask
          obtain ⟨z, hz⟩ : ∃ z, z = ([f.k0, f.k1, f.k2, f.k3] == [(0 : Int), 0, 0, 0]) := ⟨_, rfl⟩
          have hneqk : ∀ w, (binOp .neq 42 (.agg #[.int .u8 f.k0, .int .u8 f.k1, .int .u8 f.k2, .int .u8 f.k3]) (.agg #[.int .u8 0, .int .u8 0, .int .u8 0, .int .u8 0])).run Try.prog w = .ok (.bool (!z)) w := fun w => by rw [hz]; exact neq_key w f.k0 f.k1 f.k2 f.k3 0 0 0 0
          rw [hmask] at a2
          cases z with
          | false =>
            clear ht hk1 hkd hML hkm hrA hrM hrA' hrM' hmk hx hf hfg hz
            go_wp2
            go_ret
            exact ⟨rfl, HTR.out⟩
          | true =>
            have hkey : f.key = [0, 0, 0, 0] := by have := hz.symm; rw [beq_iff_eq] at this; exact this
            have hck := mask_check hmask hkey x
            have hGA : ∀ y ∈ [f], y.good := fun y hy => by rw [List.mem_singleton.1 hy]; exact hfg
            have hGM : ∀ y ∈ [mask1 f x], y.good := fun y hy => by rw [List.mem_singleton.1 hy]; exact mask_good hfg x hx0 hx1
            have he1 : err13 [f] = check9 f := by unfold err13; split; exact (by rename_i h; rw [h]; rfl); rfl
            have he2 : err13 [mask1 f x] = check9 f := by rw [← hck]; unfold err13; split; exact (by rename_i h; rw [h]; rfl); rfl
            have hp1 : puts [f] = fput f := by simp [puts]
            have hp2 : puts [mask1 f x] = fput (mask1 f x) := by simp [puts]
            have HRA := Lib.hid hrA'
            have HRX := Lib.hid hrM'
            have HGA := Lib.hid hGA
            have HGM := Lib.hid hGM
            have HE1 := Lib.hid he1
            have HE2 := Lib.hid he2
            have HP1 := Lib.hid hp1
            have HP2 := Lib.hid hp2
            have HT := Lib.hid ht
            obtain ⟨h, t, t0, t1, t2, t3, t4⟩ := mask_bytes f hmask x
            have HB1 := Lib.hid t2
            have HB2 := Lib.hid t3
            have HKB := Lib.hid (mask_key f x hx0 hx1)
            by_cases hc0 : check9 f = 0
            · have HC0 := Lib.hid hc0
              clear ht hk1 hkd hML hkm hrA hrM hrA' hrM' hmk hx hf hfg hz hck hGA hGM he1 he2 hp1 hp2 hc0 t2 t3
              go_wp2_with fail
              refine (k_bytes_ok A' [f] 1 _ rfl _ HRA.out HGA.out (by omega) (HE1.out.trans HC0.out)).mono ?_
              rintro e w11 ⟨A11, c11, rfl, ho, ht⟩
              rw [HP1.out] at ho ⊢
              have HO11 := Lib.hid ho
              have HT11 := Lib.hid ht
              clear ho ht
              go_wp2_with fail
              refine (k_bytes_ok M' [mask1 f x] 1 _ rfl _ (HRX.out.touch_no HT11.out) HGM.out (by omega) (HE2.out.trans HC0.out)).mono ?_
              rintro e w12 ⟨A12, c12, rfl, ho, ht⟩
              rw [HP2.out] at ho ⊢
              obtain ⟨_, _, hv, hca, hcam, hra, _, _⟩ := own_cases (own_no HO11.out ht)
              injection hv with e1 _ e2
              subst e1 e2
              obtain ⟨_, _, hv, hcb, hcbm, hrb, _, _⟩ := own_cases ho
              injection hv with e1 _ e2
              subst e1 e2
              have HT12 := Lib.hid (HT.out.trans (HT11.out.trans ht))
              have ht2 : Touch NoS wr w12 := HT11.out.trans ht
              have a7 := ht2.cell a7
              have c3 := ht2.cell c3
              have c4 := ht2.cell c4
              have c5 := ht2.cell c5
              have c6 := ht2.cell c6
              have hgA := Nat.lt_of_lt_of_le hgA ht2.size
              have hgM := Nat.lt_of_lt_of_le hgM ht2.size
              have hAP := fun W => r8_apply (x / 16777216) (x / 65536 % 256) (x / 256 % 256) (x % 256) HKB.out f.data (by omega) W
              have hka : (mask1 f x).key = [x / 16777216, x / 65536 % 256, x / 256 % 256, x % 256] := rfl
              rw [HB1.out] at hra hca
              rw [HB2.out, hka] at hrb hcb
              obtain ⟨tk, htk⟩ : ∃ tk, tk = turn [x / 16777216, x / 65536 % 256, x / 256 % 256, x % 256] 0 (sb f.data) := ⟨_, rfl⟩
              have htkl : tk.length = f.data.size := by rw [htk, turn_length, sb_length]
              rw [← htk] at hrb hAP hcb
              obtain ⟨NA, hNA⟩ : ∃ N, N = (fput f).length := ⟨_, rfl⟩
              obtain ⟨NB, hNB⟩ : ∃ N, N = (fput (mask1 f x)).length := ⟨_, rfl⟩
              rw [← hNA, ← hNB]
              have hNA' : NA = 2 + t.length + f.data.size := by rw [hNA, HB1.out]; simp [sb_length]; omega
              have hNB' : NB = 2 + t.length + 4 + f.data.size := by rw [hNB, HB2.out, hka, ← htk]; simp [htkl]; omega
              obtain ⟨P, hP⟩ : ∃ P, P = 2 + t.length := ⟨_, rfl⟩
              obtain ⟨d, hd⟩ : ∃ d, d = f.data := ⟨_, rfl⟩
              obtain ⟨f0, hf0⟩ : ∃ y, y = first9 f := ⟨_, rfl⟩
              rw [← hd] at hNA' hNB' a7 hAP htkl hfz hra
              rw [← hf0] at hra hrb
              have hra2 : Rd w12 A11 (u8s (f0 :: h :: (t ++ sb d))) := hra
              obtain ⟨ga, oa, rfl, hga, xa⟩ := u8s_at hra2 1 (by simp)
              obtain ⟨gb, ob, rfl, hgb, xb⟩ := u8s_at hrb 1 (by simp)
              simp only [List.getElem_cons_succ, List.getElem_cons_zero] at xa xb
              have hcaN : NA ≤ c11 := by rw [hNA]; rw [HB1.out]; exact hca
              have hcbN : NB ≤ c12 := by rw [hNB]; rw [HB2.out, hka, ← htk]; exact hcb
              have hlA : (u8s (f0 :: h :: (t ++ sb d))).length = NA * 1 := by rw [u8s_length, hNA']; simp [sb_length]; omega
              have hlB : (u8s (f0 :: (h + 128) :: (t ++ ([x / 16777216, x / 65536 % 256, x / 256 % 256, x % 256] ++ tk)))).length = NB * 1 := by rw [u8s_length, hNB']; simp [htkl]; omega
              obtain ⟨A2, hs1, _, hr1⟩ := sl_any (T := 36) Try.underlying36 size_u8 hra2 hlA hcaN (2 : Int) (P : Int) 2 P rfl rfl (by omega) (by omega)
              obtain ⟨B2, hs2, _, hr2⟩ := sl_any (T := 36) Try.underlying36 size_u8 hrb hlB hcbN (2 : Int) (P : Int) 2 P rfl rfl (by omega) (by omega)
              obtain ⟨B3, _, hs3, hr3⟩ := sl_any (T := 36) Try.underlying36 size_u8 hrb hlB hcbN ((P : Int) + 4) (NB : Int) (P + 4) NB (by omega) rfl (by omega) (Nat.le_refl _)
              have hs3 := hs3 rfl
              rw [mb_take f0 _ t _ P hP] at hr1 hr2
              rw [List.take_of_length_le (by rw [hlB]; exact Nat.le_refl _), mb_drop f0 _ t [x / 16777216, x / 65536 % 256, x / 256 % 256, x % 256] tk P hP rfl] at hr3
              have hq1 : Rd w12 (some ⟨ga, oa, none⟩) (u8s [f0]) := hra2.take 1
              have hq2 : Rd w12 (some ⟨gb, ob, none⟩) (u8s [f0]) := hrb.take 1
              have htl : t.length = P - 2 := by omega
              have htl3 : tk.length = NB - (P + 4) := by omega
              obtain ⟨S1, hS1⟩ : ∃ S, S = Go.strOfNums [f0] := ⟨_, rfl⟩
              obtain ⟨S2, hS2⟩ : ∃ S, S = Go.strOfNums t := ⟨_, rfl⟩
              obtain ⟨S3, hS3⟩ : ∃ S, S = Go.strOfNums tk := ⟨_, rfl⟩
              have cv1 : ∀ W, Touch NoS w12.drew W → (convert 36 9 (.slice (some ⟨ga, oa, none⟩) 1 c11)).run Try.prog W = .ok (.string S1) W := fun W hW => by rw [hS1]; exact conv_str W _ _ 1 c11 rfl (hq1.touch_no ((Touch.refl _ w12).drew.trans hW))
              have cv2 : ∀ W, Touch NoS w12.drew W → (convert 36 9 (.slice (some ⟨gb, ob, none⟩) 1 c12)).run Try.prog W = .ok (.string S1) W := fun W hW => by rw [hS1]; exact conv_str W _ _ 1 c12 rfl (hq2.touch_no ((Touch.refl _ w12).drew.trans hW))
              have cv3 : ∀ W, Touch NoS w12.drew W → (convert 36 9 (.slice A2 (P - 2) (c11 - 2))).run Try.prog W = .ok (.string S2) W := fun W hW => by rw [hS2]; exact conv_str W _ _ _ _ htl (hr1.touch_no ((Touch.refl _ w12).drew.trans hW))
              have cv4 : ∀ W, Touch NoS w12.drew W → (convert 36 9 (.slice B2 (P - 2) (c12 - 2))).run Try.prog W = .ok (.string S2) W := fun W hW => by rw [hS2]; exact conv_str W _ _ _ _ htl (hr2.touch_no ((Touch.refl _ w12).drew.trans hW))
              have cv5 : ∀ W, Touch NoS w12.drew W → (convert 36 9 (.slice B3 (NB - (P + 4)) (c12 - (P + 4)))).run Try.prog W = .ok (.string S3) W := fun W hW => by rw [hS3]; exact conv_str W _ _ _ _ htl3 (hr3.touch_no ((Touch.refl _ w12).drew.trans hW))
              rw [← hS3] at hAP
              have HAP := Lib.hid hAP
              have e1 : (S1.toList != S1.toList) = false := bne_self_eq_false _
              have e2 : (S2.toList != S2.toList) = false := bne_self_eq_false _
              have e3 : (S3.toList != S3.toList) = false := bne_self_eq_false _
              have e4 : IntKind.i64.wrap ((NA : Int) - d.size) = P := by rw [show ((NA : Int) - d.size) = P from by omega]; exact IntWalk.i64_in _ (by omega)
              have e5 : ((NB : Int) != (NA : Int) + 4) = false := by rw [show (NB : Int) = NA + 4 from by omega]; exact bne_self_eq_false _
              have e6 : IntKind.u8.wrap (h + 128) = h + 128 := IntWalk.u8_in _ (by omega)
              have e7 : (h + 128 != h + 128) = false := bne_self_eq_false _
              have e8 : IntKind.i64.wrap ((P : Int) + 4) = P + 4 := IntWalk.i64_in _ (by omega)
              have e9 : IntKind.i64.wrap ((NA : Int) + 4) = NA + 4 := IntWalk.i64_in _ (by omega)
              have n1 : (1 : Int) < NA := by omega
              have n2 : (1 : Int) < NB := by omega
              have n3 : 1 ≤ c11 := by omega
              have n4 : 1 ≤ c12 := by omega
              have n5 : (NA : Int) ≤ 400 := by omega
              have n6 : (P : Int) ≤ 12 := by omega
              clear hAP hra hrb hca hcb htk htkl hNA hNB hNA' hNB' hP hd hf0 hra2 hlA hlB hr1 hr2 hr3 hq1 hq2 htl htl3 hS1 hS2 hS3 ho ht ht2 hka HO11
              go_wp2_with fail
              have htd : Touch NoS w12.drew w12.drew := Touch.refl _ _
              have hcd : ∀ b o, b < w12.heap.size → w12.drew.cell? ⟨b, o, none⟩ = w12.cell? ⟨b, o, none⟩ := fun b o _ => rfl
              have hcl : ∀ W, Touch NoS w12.drew W → ∀ b o, b < w12.heap.size → W.cell? ⟨b, o, none⟩ = w12.cell? ⟨b, o, none⟩ := fun W h b o hb => World.cell?_of_block (h.block b hb (fun h => h))
              have HCL := Lib.hid hcl
              clear hcl
              go_region_held (fun w' => Touch NoS w12.drew w' ∧ ∀ b o, b < w12.heap.size → w'.cell? ⟨b, o, none⟩ = w12.cell? ⟨b, o, none⟩)
                ((first | exact ⟨ht7, hc7⟩ | exact ⟨htd, hcd⟩))
                ((go_at_call 28; refine (HAP.out _).mono ?_; rintro e w7 ⟨rfl, ht⟩; have ht7 : Touch NoS w12.drew w7 := (by first | exact ht7.trans ht | exact htd.trans ht); have hc7 := HCL.out _ ht7))
              all_goals
                clear hsA hsM hs1 hs2 hs3 cv1 cv2 cv3 cv4 cv5 e1 e2 e3 e4 e5 e6 e7 e8 e9 hcd hc7 hneqk
                go_wp2_with fail
                go_roundw
                · exact ⟨k + 1, by omega, by go_num, HT12.out.trans ((Touch.refl _ _).drew.trans ht7)⟩
                · simp [intOf]; omega
            · have HC0 := Lib.hid hc0
              have hq1 : (check9 f != 0) = true := by rw [bne_iff_ne]; exact hc0
              have hq2 : (check9 f != check9 f) = false := bne_self_eq_false _
              obtain ⟨er, her⟩ : ∃ er, er = check9 f := ⟨_, rfl⟩
              rw [← her] at HE1 HE2 HC0 hq1 hq2
              clear ht hk1 hkd hML hkm hrA hrM hrA' hrM' hmk hx hf hfg hz hck hGA hGM he1 he2 hp1 hp2 hc0 t2 t3 her
              go_wp2_with fail
              refine (k_bytes_no A' [f] 1 _ rfl _ HRA.out HGA.out (by omega) er HE1.out HC0.out).mono ?_
              rintro e w11 ⟨rfl, ht⟩
              have HT11 := Lib.hid ht
              clear ht
              go_wp2_with fail
              refine (k_bytes_no M' [mask1 f x] 1 _ rfl _ (HRX.out.touch_no HT11.out) HGM.out (by omega) er HE2.out HC0.out).mono ?_
              rintro e w12 ⟨rfl, ht⟩
              have HT12 := Lib.hid (HT.out.trans (HT11.out.trans ht))
              clear ht
              go_wp2_with fail
              go_roundw
              · exact ⟨k + 1, by omega, by go_num, HT12.out⟩
              · simp [intOf]; omega
        · have hkn : k = n := by omega
          subst hkn
          clear ht
          go_wp2
          go_ret
          exact ⟨rfl, HTR.out⟩
end Go.Proofs.Ytkhppojlabajaaa
