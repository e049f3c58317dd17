/- law17: BridgeIdle. -/
import Derived.Test.YtlnabpoohnphiaaGreatBWk
namespace Go.Proofs.YtlnabpoohnphiaaGreat
open Go.RowKit
set_option linter.unusedSimpArgs false
set_option linter.unusedVariables false

theorem idle_fr (k : Lk) (mk : Bool) (hk : (!k.masks) = mk) (hm : 125 ≤ most16 k) : fits (!k.masks) (most16 k) ⟨true, 10, mk, 0, 0, 0, 0, ⟨#[]⟩⟩ ∧ (fput ⟨true, 10, mk, 0, 0, 0, 0, ⟨#[]⟩⟩).length ≤ 14 ∧ form9 ⟨true, 10, mk, 0, 0, 0, 0, ⟨#[]⟩⟩ = true ∧ (⟨true, 10, mk, 0, 0, 0, 0, ⟨#[]⟩⟩ : Fr).good ∧ bytesIn (fput ⟨true, 10, mk, 0, 0, 0, 0, ⟨#[]⟩⟩) := by
  have hg0 : (ctlF 10 ⟨#[]⟩).good := ctlF_good _ (by decide) _ (by unfold maxLen; decide)
  have hg : (⟨true, 10, mk, 0, 0, 0, 0, ⟨#[]⟩⟩ : Fr).good := hg0
  have hf : form9 ⟨true, 10, mk, 0, 0, 0, 0, ⟨#[]⟩⟩ = true := by cases mk <;> decide
  have hft : fits (!k.masks) (most16 k) ⟨true, 10, mk, 0, 0, 0, 0, ⟨#[]⟩⟩ := ⟨hg, hf, hk.symm, by show (0 : Int) ≤ _; omega⟩
  refine ⟨hft, by cases mk <;> decide, hf, hg, ?_⟩
  have := fits_in [⟨true, 10, mk, 0, 0, 0, 0, ⟨#[]⟩⟩] (fun g hg => by simp at hg; rw [hg]; exact hft)
  simpa using this
/-- For how long nothing came: sides below j were fed. -/
def agedJ (r : Nat) (j : Nat) : Bool → Int := fun s => if s.toNat < j then 0 else r
theorem bool_of17 {j : Nat} (h : j < 2) : ∃ s : Bool, s.toNat = j := by
  rcases j with _ | _ | j
  · exact ⟨false, rfl⟩
  · exact ⟨true, rfl⟩
  · omega
theorem u8_at17 {w : World} {A : Option Addr} {l : List Int} (h : Rd w A (l.flatMap fun x => [.int .u8 x])) (k : Nat) (hk : k < l.length) : ∃ g off, A = some ⟨g, off, none⟩ ∧ g < w.heap.size ∧ w.cell? ⟨g, off + k, none⟩ = some (.int .u8 l[k]) := by
  have hf : ∀ l : List Int, (l.flatMap fun x => [Value.int .u8 x]) = l.map (Value.int .u8) := fun l => by induction l <;> simp_all
  rw [hf] at h
  obtain ⟨g, off, rfl, hg, hc⟩ := h (by intro h0; simp at h0; rw [h0] at hk; exact absurd hk (by simp))
  exact ⟨g, off, rfl, hg, hc k _ (by rw [List.getElem?_map, List.getElem?_eq_getElem hk]; rfl)⟩
theorem agedJ_next {r : Nat} (s : Bool) : (fun m => if m = s then 0 else agedJ r s.toNat m) = agedJ r (s.toNat + 1) := by
  funext m
  unfold agedJ
  cases s <;> cases m <;> rfl
theorem agedJ_zero (r : Nat) : agedJ r 0 = fun _ => (r : Int) := by
  funext s
  exact if_neg (by omega)
theorem agedJ_two (r : Nat) : agedJ r 2 = fun _ => 0 := by
  funext s
  exact if_pos (by cases s <;> decide)
set_option maxHeartbeats 12800000 in
set_option maxRecDepth 100000 in
theorem idle17_row (w : World) (A : Option Addr) (ls : List Int) (c : Nat) (hr : Rd w A (ls.flatMap fun x => [.int .u8 x])) (hg : ∀ x ∈ ls, (Lit.int .u8 x).wf = true) (hlc : ls.length ≤ c) (hcc : c ≤ maxLen) :
    Calls Tryz.prog 7 #[.slice A ls.length c] w fun e w' => e = .returned (.bool true) ∧ Touch NoS w w' := by
  have HR := Lib.hid hr
  have HG := Lib.hid hg
  obtain ⟨n, hn⟩ : ∃ n, n = ls.length := ⟨_, rfl⟩
  rw [← hn] at hlc ⊢
  have HN := Lib.hid hn.symm
  have hnm : n ≤ maxLen := by omega
  unfold maxLen at hnm
  clear hr hg hn hcc
  go_enter Tryz.func7, Tryz.ntmps7
  go_wp2_with fail
  refine (l_cfg17 99 99 250 3 99 (by omega) (by omega) (by omega) (by omega) (by omega) _).mono ?_
  rintro e w1 ⟨b, rfl, hbr, ht⟩
  have HT1 := Lib.hid ht
  have HBR := Lib.hid hbr
  clear ht hbr
  unfold cfgW
  obtain ⟨Q, hQ⟩ : ∃ Q, Q = 1 + 99 + 99 := ⟨_, rfl⟩
  obtain ⟨M, hM⟩ : ∃ M, M = 1 + 99 := ⟨_, rfl⟩
  obtain ⟨O, hO⟩ : ∃ O, O = 1 + 250 := ⟨_, rfl⟩
  obtain ⟨C, hC⟩ : ∃ C, C = 1 + 3 % 8 := ⟨_, rfl⟩
  rw [← hQ, ← hM, ← hO, ← hC]
  have HM := Lib.hid (And.intro hM (And.intro hC (And.intro hQ hO)))
  clear hQ hM hO hC
  go_wp2_with fail
  obtain ⟨w2, hw2⟩ : ∃ w2, w2 = w1.alloc (.cells (cfgW b M M C Q O) 29) := ⟨_, rfl⟩
  obtain ⟨gc, hgc⟩ : ∃ g, g = w1.heap.size := ⟨_, rfl⟩
  have hbc : Blk w2 gc 29 (cfgW b M M C Q O) := by rw [hw2, hgc]; exact Blk.new _ _ _
  have HT2 : Hid (Touch NoS w w2) := by rw [hw2]; exact HT1.out.alloc _
  have HBR2 : Hid (Blk w2 b 101 #[.string ⟨#[47]⟩, .string ⟨#[]⟩, .string ⟨#[120]⟩]) := by rw [hw2]; exact HBR.out.alloc _
  have HBC := Lib.hid hbc
  have HNEW := Lib.hid (fun W hW => by
    have := HM.out
    exact a_new b M M C Q O (by omega) (by omega) (by omega) (by omega) (by omega) (by omega) (by omega) (by omega) (by omega) (by omega) 1 W hW)
  unfold cfgW at hw2 HNEW
  rw [← hw2, ← hgc]
  clear hw2 hgc hbc HBR HT1
  refine (HNEW.out _ HBR2.out).mono ?_
  rintro e w3 ⟨ga, la, qa, X, K, rfl, k1, k2, k3, k4, k5, k6, k7, hA⟩
  have HK := Lib.hid (And.intro k1 (And.intro k2 (And.intro k3 (And.intro k4 (And.intro k5 (And.intro k6 k7))))))
  have HA3 := Lib.hid hA
  have hbc := HBC.out.touch hA.old (fun h => h)
  have HBR3 := Lib.hid (HBR2.out.touch hA.old (fun h => h))
  have q0 := hbc.cell 0
  have q1 := hbc.cell 1
  have q2 := hbc.cell 2
  have q3 := hbc.cell 3
  have q4 := hbc.cell 4
  have q5 := hbc.cell 5
  have q6 := hbc.cell 6
  have q7 := hbc.cell 7
  have q8 := hbc.cell 8
  have q9 := hbc.cell 9
  have q10 := hbc.cell 10
  have q11 := hbc.cell 11
  have ql := hbc.lt
  simp [cfgW] at q0 q1 q2 q3 q4 q5 q6 q7 q8 q9 q10 q11
  clear hA k1 k2 k3 k4 k5 k6 k7 hbc
  go_wp2_with fail
  refine (HNEW.out _ HBR3.out).mono ?_
  rintro e w4 ⟨gb, lb, qb, Y, J, rfl, k1, k2, k3, k4, k5, k6, k7, hA⟩
  have HJ := Lib.hid (And.intro k1 (And.intro k2 (And.intro k3 (And.intro k4 (And.intro k5 (And.intro k6 k7))))))
  have HS4 := Lib.hid (Two17.make HA3.out hA)
  clear hA k1 k2 k3 k4 k5 k6 k7 HNEW q0 q1 q2 q3 q4 q5 q6 q7 q8 q9 q10 q11 ql HBR2 HBR3
  have HRM : Hid (roomL K [] K.message = true) := room_idle (by rw [HK.out.1]; exact HM.out.1) (by rw [HK.out.2.1, HM.out.2.1]) (by rw [HK.out.2.2.1, HM.out.2.2.1])
  have HRJ : Hid (roomL J [] J.message = true) := room_idle (by rw [HJ.out.1]; exact HM.out.1) (by rw [HJ.out.2.1, HM.out.2.1]) (by rw [HJ.out.2.2.1, HM.out.2.2.1])
  rw [idle17_new] at HS4
  go_wp2_with fail
  refine (aw17 _).mono ?_
  rintro e w5 ⟨rfl, ht⟩
  have HS5 := Lib.hid (HS4.out.no ht)
  clear ht HS4 HA3
  by_cases h40 : n ≤ 40
  · have h40i : (n : Int) ≤ 40 := by omega
    go_wp2_with fail
    go_loopw [8] (fun iv wr => ∃ i : Nat, i ≤ n ∧ iv = .int .i64 i ∧ Two17 w2 wr ga gb X Y K J la qa lb qb (20 * i) (idle17 M 1 fun _ => 0) (idle17 M 1 fun _ => 0)) (fun iv _ => n - (intOf iv).toNat)
    case atStart => exact ⟨0, Nat.zero_le _, rfl, HS5.out⟩
    case round =>
      obtain ⟨i, hin, rfl, hs⟩ := hrel
      have HS := Lib.hid hs
      clear hs HS5
      by_cases hlt : i < n
      · have hil : i < ls.length := by rw [HN.out]; exact hlt
        obtain ⟨gt, ot, rfl, hgt, t0⟩ := u8_at17 (HR.out.touch_no (HT2.out.trans HS.out.old)) i hil
        have htb := u8_bounds (HG.out ls[i] (List.getElem_mem hil))
        obtain ⟨tx, htx⟩ : ∃ x, x = ls[i] := ⟨_, rfl⟩
        rw [← htx] at t0 htb
        obtain ⟨tn, rfl, htn⟩ := u8_nn htb
        obtain ⟨r, hr⟩ : ∃ r, r = tn % 10 := ⟨_, rfl⟩
        have hr9 : r ≤ 9 := by omega
        have e1 : IntKind.i64.wrap (tn : Int) = tn := IntWalk.i64_in _ (by omega)
        have e2 : IntKind.i64.wrap ((9 : Int) + 1) = 10 := rfl
        have e3 : IntKind.i64.wrap ((tn : Int).tmod 10) = r := by rw [Int.tmod_eq_emod_of_nonneg (by omega), hr, IntWalk.i64_in _ (by omega)]; omega
        have e4 : (tn : Int).tmod 10 = r := by rw [Int.tmod_eq_emod_of_nonneg (by omega), hr]; omega
        have hbc := HBC.out.touch HS.out.old (fun h => h)
        have q9 := hbc.cell 9
        have ql := hbc.lt
        simp [cfgW] at q9
        clear htx hbc htb hr
        go_upto_region 9 with (fail)
        go_cut [9] (fun v wx => v = .int .i64 r ∧ Touch NoS wr wx)
        case first =>
          go_quiet (fail)
          go_wp2_with fail
          go_meet
          exact ⟨rfl, Touch.drewN (Touch.refl _ _) _⟩
        case rest =>
          obtain ⟨rfl, ht⟩ := hcut
          obtain ⟨w6, rfl⟩ : ∃ we : World, we = wc := ⟨_, rfl⟩
          have HS6 := Lib.hid (HS.out.no ht)
          have hK9 : K.idle = 9 := HK.out.2.2.2.1
          have hJ9 : J.idle = 9 := HJ.out.2.2.2.1
          have HJ9 := Lib.hid hJ9
          have hta := HS6.out.tickA (by omega) (r : Int)
          rw [idle17_tick (n := (r : Int)) (by omega) (by omega) (fun j => by rw [hK9]; omega)] at hta
          simp only [Int.zero_add] at hta
          have HTI := Lib.hid hta
          clear hta hK9 hJ9 ht e1 e2 e3 e4 q9 ql t0 HS HS6
          go_wp2_with fail
          refine HTI.out.mono ?_
          rintro e w7 ⟨rfl, hs⟩
          have HS7 := Lib.hid hs
          clear hs HTI
          go_wp2_with fail
          go_loopw [10] (fun kv wr => ∃ k : Nat, k ≤ r ∧ kv = .int .i64 k ∧ Two17 w2 wr ga gb X Y K J la qa lb qb (20 * i + 2 + 2 * k) (idle17 M 1 fun _ => (r : Int)) (idle17 M 1 fun _ => (k : Int))) (fun kv _ => r - (intOf kv).toNat)
          case atStart => exact ⟨0, Nat.zero_le _, rfl, HS7.out⟩
          case round =>
            obtain ⟨k, hkr, rfl, hs⟩ := hrel
            have HS := Lib.hid hs
            clear hs HS7
            by_cases hk : k < r
            · have hki : (k : Int) < r := by omega
              have htb := HS.out.tickB (by omega) 1
              rw [idle17_tick (n := 1) (by decide) (by decide) (fun j => by rw [HJ9.out]; omega)] at htb
              have HTB := Lib.hid htb
              clear htb
              go_wp2_with fail
              refine HTB.out.mono ?_
              rintro e w8 ⟨rfl, hs⟩
              have HS8 : Hid (Two17 w2 w8 ga gb X Y K J la qa lb qb (20 * i + 2 + 2 * (k + 1)) (idle17 M 1 fun _ => (r : Int)) (idle17 M 1 fun _ => ((k + 1 : Nat) : Int))) := hs
              clear hs HTB HS
              go_wp2_with fail
              go_roundw
              · exact ⟨k + 1, by omega, by go_num, HS8.out⟩
              · simp [intOf]; omega
            · have hkr2 : k = r := by omega
              have hki : ¬ ((k : Int) < r) := by omega
              have hs0 := HS.out
              rw [hkr2] at hs0
              have hs1 := hs0.mono (show 20 * i + 2 + 2 * r ≤ 20 * i + 20 by omega)
              rw [← agedJ_zero] at hs1
              have HS0 := Lib.hid hs1
              clear hs0 hs1 HS hkr2
              go_wp2_with fail
              go_loopw [11] (fun jv wr => ∃ j : Nat, j ≤ 2 ∧ jv = .int .i64 j ∧ Two17 w2 wr ga gb X Y K J la qa lb qb (20 * i + 20) (idle17 M 1 (agedJ r j)) (idle17 M 1 (agedJ r j))) (fun jv _ => 2 - (intOf jv).toNat)
              case atStart => exact ⟨0, by omega, rfl, HS0.out⟩
              case round =>
                obtain ⟨j, hj, rfl, hs⟩ := hrel
                have HS := Lib.hid hs
                clear hs HS0
                by_cases hj2 : j < 2
                · obtain ⟨s, hsj⟩ := bool_of17 hj2
                  have hj2i : (j : Int) < 2 := by omega
                  obtain ⟨nn, hnn⟩ : ∃ nn, (fput ⟨true, 10, !s, 0, 0, 0, 0, ⟨#[]⟩⟩).length = nn := ⟨_, rfl⟩
                  obtain ⟨hff, hfl, hfm, hfg, hfb⟩ := idle_fr (K.k s) (!s) (by rw [(HK.out.2.2.2.2.2.2 s).2.2.2]) (by unfold most16; omega)
                  obtain ⟨hgf, -, -, -, -⟩ := idle_fr (J.k s) (!s) (by rw [(HJ.out.2.2.2.2.2.2 s).2.2.2]) (by unfold most16; omega)
                  have hlm : (fput ⟨true, 10, !s, 0, 0, 0, 0, ⟨#[]⟩⟩).length ≤ maxLen := by unfold maxLen; omega
                  have hfa := idle17_feed (K := K) (M := M) (d := 1) (h := agedJ r s.toNat) s hff hlm HRM.out rfl rfl (Nat.zero_le _) (.inr rfl)
                  have hfb2 := idle17_feed (K := J) (M := M) (d := 1) (h := agedJ r s.toNat) s hgf hlm HRJ.out rfl rfl (Nat.zero_le _) (.inr rfl)
                  rw [agedJ_next s, hsj] at hfa hfb2
                  have hd1 : ((j : Int) == 0) = !s := by rw [← hsj]; cases s <;> rfl
                  have hd2 : decide ((j : Int) = 0) = !s := by rw [← hsj]; cases s <;> rfl
                  rw [hnn] at hfl
                  obtain ⟨P, hPz, hPs, hPT⟩ := text17 ⟨true, 10, !s, 0, 0, 0, 0, ⟨#[]⟩⟩ hfg hfm (Nat.zero_le _) nn hnn hfb
                  have HPT := Lib.hid hPT
                  obtain ⟨W2, cp, hW2⟩ := conv_of2 P nn hPz
                  have hc2 := fun W => (hW2 W).1
                  have HC3 := Lib.hid (fun W => (hW2 W).2)
                  rw [hPs] at HC3
                  have HFA : Hid (∀ W W' b q, Touch NoS wr W → Touch NoS W W' → W.heap.size ≤ b → b < W'.heap.size → nn ≤ q → Rd W' (some ⟨b, 0, none⟩) (u8s (fput ⟨true, 10, !s, 0, 0, 0, 0, ⟨#[]⟩⟩)) → Calls Tryz.prog 17 #[.pointer (some ⟨ga, 0, none⟩), .int .i64 j, .slice (some ⟨b, 0, none⟩) nn q] W' fun e w' => e = .returned (.int .i64 nn) ∧ Two17 w2 w' ga gb X Y K J la qa lb qb (20 * i + 20) (idle17 M 1 (agedJ r (j + 1))) (idle17 M 1 (agedJ r j))) := fun W W' b q t t' h1 h2 h3 h4 => by
                    have hc := (HS.out.no t).feedA (by omega) s _ hfb (by omega) W' t' b nn q h1 h2 hnn h3 h4
                    rw [hsj, hfa, hnn] at hc
                    exact hc
                  have HFB : Hid (∀ w0 W W' b q, Two17 w2 w0 ga gb X Y K J la qa lb qb (20 * i + 20) (idle17 M 1 (agedJ r (j + 1))) (idle17 M 1 (agedJ r j)) → Touch NoS w0 W → Touch NoS W W' → W.heap.size ≤ b → b < W'.heap.size → nn ≤ q → Rd W' (some ⟨b, 0, none⟩) (u8s (fput ⟨true, 10, !s, 0, 0, 0, 0, ⟨#[]⟩⟩)) → Calls Tryz.prog 17 #[.pointer (some ⟨gb, 0, none⟩), .int .i64 j, .slice (some ⟨b, 0, none⟩) nn q] W' fun e w' => e = .returned (.int .i64 nn) ∧ Two17 w2 w' ga gb X Y K J la qa lb qb (20 * i + 20) (idle17 M 1 (agedJ r (j + 1))) (idle17 M 1 (agedJ r (j + 1)))) := fun w0 W W' b q hh t t' h1 h2 h3 h4 => by
                    have hc := (hh.no t).feedB (by omega) s _ hfb (by omega) W' t' b nn q h1 h2 hnn h3 h4
                    rw [hsj, hfb2, hnn] at hc
                    exact hc
                  have HSJ := Lib.hid hsj
                  clear hW2 hPT hPs hfb hfb2 hfa hfg hfm hff hgf hlm hnn hsj
                  go_upto_region 19 with (go_at_call 15; refine (HPT.out _).mono ?_; rintro e w6 ⟨rfl, ht6⟩; have HT6 := Lib.hid ht6; clear ht6)
                  have HS6 := Lib.hid (HS.out.no HT6.out)
                  obtain ⟨EA, hEA⟩ := HS6.out.isA
                  have HPA := Lib.hid (b_peek hEA s 9)
                  rw [idle17_out, HSJ.out] at HPA
                  clear hEA
                  go_wp2_with fail
                  refine HPA.out.mono ?_
                  rintro e w7 ⟨A7, c7, rfl, -, ht7⟩
                  have HS7 := Lib.hid (HS6.out.no ht7)
                  have HT7 := Lib.hid (HT6.out.trans ht7)
                  obtain ⟨EB, hEB⟩ := HS7.out.isB
                  have HPB := Lib.hid (b_peek hEB s 9)
                  rw [idle17_out, HSJ.out] at HPB
                  clear hEB ht7 HPA HS6
                  go_wp2_with fail
                  refine HPB.out.mono ?_
                  rintro e w8 ⟨A8, c8, rfl, -, ht8⟩
                  have HS8 := Lib.hid (HS7.out.no ht8)
                  have HT8 := Lib.hid (HT7.out.trans ht8)
                  obtain ⟨EA8, hEA8⟩ := HS8.out.isA
                  have HLA := Lib.hid (b_lost hEA8 s)
                  rw [show (idle17 M 1 (agedJ r j) s).lost = false from rfl, HSJ.out] at HLA
                  obtain ⟨EB8, hEB8⟩ := HS8.out.isB
                  have HLB := Lib.hid (b_lost hEB8 s)
                  rw [show (idle17 M 1 (agedJ r j) s).lost = false from rfl, HSJ.out] at HLB
                  clear hEA8 hEB8 ht8 HPB HS7 HT7 HT6 HPT
                  go_wp2_with fail
                  refine HLA.out.mono ?_
                  rintro e w9 ⟨rfl, rfl⟩
                  go_wp2_with fail
                  refine HLB.out.mono ?_
                  rintro e w9 ⟨rfl, rfl⟩
                  clear HLA HLB HS8
                  have h3c := HC3.out w8
                  go_wp2_with fail
                  refine (HFA.out w8 _ w8.heap.size _ HT8.out h3c.1 (Nat.le_refl _) h3c.2.2.1 h3c.2.2.2 h3c.2.1).mono ?_
                  rintro e w10 ⟨rfl, hS10⟩
                  have HS10 := Lib.hid hS10
                  have h3d := HC3.out w10
                  clear hS10 h3c HFA HS HT8
                  go_wp2_with fail
                  refine (HFB.out w10 w10 _ w10.heap.size _ HS10.out (Touch.refl _ _) h3d.1 (Nat.le_refl _) h3d.2.2.1 h3d.2.2.2 h3d.2.1).mono ?_
                  rintro e w11 ⟨rfl, hS11⟩
                  have HS11 := Lib.hid hS11
                  clear hS11 h3d HFB HS10 HC3 hc2
                  go_wp2_with fail
                  go_roundw
                  · exact ⟨j + 1, by omega, by go_num, HS11.out⟩
                  · simp [intOf]; omega
                · have hj3 : j = 2 := by omega
                  have hjn : ¬ ((j : Int) < 2) := by omega
                  have hs0 := HS.out
                  rw [hj3, agedJ_two] at hs0
                  have HS9 : Hid (Two17 w2 wr ga gb X Y K J la qa lb qb (20 * (i + 1)) (idle17 M 1 fun _ => 0) (idle17 M 1 fun _ => 0)) := hs0
                  clear hs0 HS hj3
                  go_wp2_with fail
                  go_roundw
                  · exact ⟨i + 1, by omega, by go_num, HS9.out⟩
                  · simp [intOf]; omega
      · have hge : ¬ ((i : Int) < n) := by omega
        obtain ⟨EA, hEA⟩ := HS.out.isA
        have HOA := Lib.hid (b_over hEA)
        rw [idle17_over] at HOA
        obtain ⟨EB, hEB⟩ := HS.out.isB
        have HOB := Lib.hid (b_over hEB)
        rw [idle17_over] at HOB
        have HTF := Lib.hid (HT2.out.trans HS.out.old)
        clear hEA hEB
        go_wp2_with fail
        refine HOA.out.mono ?_
        rintro e w6 ⟨rfl, rfl⟩
        go_wp2_with fail
        refine HOB.out.mono ?_
        rintro e w6 ⟨rfl, rfl⟩
        go_wp2_with fail
        go_ret
        exact ⟨rfl, HTF.out⟩
  · have h40i : ¬ ((n : Int) ≤ 40) := by omega
    go_wp2_with fail
    refine (aw17 _).mono ?_
    rintro e w6 ⟨rfl, ht⟩
    have HTF := Lib.hid ((HT2.out.trans HS5.out.old).trans ht)
    clear ht
    go_wp2_with fail
    go_ret
    exact ⟨rfl, HTF.out⟩
end Go.Proofs.YtlnabpoohnphiaaGreat
