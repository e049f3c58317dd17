/- law16: LegPongs: the walk. -/
import Derived.Test.YtpadlcllcmodaaaU03
import Derived.Test.YtpadlcllcmodaaaU07
import Derived.Test.YtpadlcllcmodaaaY07
/- law16: LegPongs: the walk. -/
namespace Go.Proofs.Ytpadlcllcmodaaa
open Go.RowKit
set_option linter.unusedSimpArgs false
set_option linter.unusedVariables false

theorem conv_cells1 (W : World) (g : Nat) (a : Int) (c0 : W.cell? ⟨g, 0, none⟩ = some (.int .u8 a)) :
    (convert 36 9 (.slice (some ⟨g, 0, none⟩) 1 1)).run Try.prog W = .ok (.string (Go.strOfNums [a])) W :=
  Go.run_convert_bytes_arg (P := Try.prog) _ 36 5 Try.underlying36 Try.underlying5 g 0 1 1 [a] rfl (fun i hi => by
    rcases i with _ | i
    · exact c0
    · omega) 9 Try.underlying9
theorem ping_sb (d : ByteArray) (hd : d.size ≤ 125) : sb (((⟨#[137]⟩ ++ Go.strOfNums [(128 : Int) + d.size]) ++ ⟨#[0, 0, 0, 0]⟩) ++ d) = fput (pingF d) := by
  have h : bytesIn [(128 : Int) + d.size] := fun x hx => by simp at hx; omega
  rw [sb_append, sb_append, sb_append, sb_nums _ h, ping_bytes d hd]
  rfl
theorem conv_of (s : ByteArray) (n : Nat) (hn : s.size = n) : ∃ (W2 : World → World) (cp : World → Nat), ∀ W, (convert 9 36 (.string s)).run Try.prog W = .ok (.slice (some ⟨W.heap.size, 0, none⟩) n (cp W)) (W2 W) ∧ Touch NoS W (W2 W) ∧ Rd (W2 W) (some ⟨W.heap.size, 0, none⟩) (u8s (sb s)) := by
  subst hn
  exact ⟨fun W => Lib.bytesWorld W 5 s, fun W => grownCap W s.size 0 5, fun W => ⟨Lib.run_convert_string_bytes (P := Try.prog) W 9 36 5 s Try.underlying9 Try.underlying36 Try.underlying5, conv_touch _ _ _, conv_rd _ _ _⟩⟩
theorem lasts (l : List ByteArray) (i : Nat) (hi : i < l.length) : (l.take (i + 1)).getLast? = some l[i] := by
  rw [← List.take_append_getElem hi, List.getLast?_concat]

theorem LgAt.ring_in {w0 w : World} {g : Nat} {k : Lk} {L : Lg} (h : LgAt w0 w g k L) : bytesIn L.o.ring := by
  obtain ⟨V, i, -, -⟩ := h
  exact i.out.ring.bytes
/-- What was taken, as a string. -/
theorem taken_str {w0 w1 w : World} {g g2 : Nat} {k : Lk} {L : Lg} (h : LgAt w0 w1 g k L) (n : Int) (hb : Blk w g2 5 (u8s (L.o.ring.take (pk n L.o.ring.length))).toArray) :
    ∃ P : ByteArray, P.size = pk n L.o.ring.length ∧ sb P = L.o.ring.take (pk n L.o.ring.length) ∧ (convert 36 9 (.slice (some ⟨g2, 0, none⟩) (pk n L.o.ring.length) (pk n L.o.ring.length))).run Try.prog w = .ok (.string P) w := by
  have hl : (L.o.ring.take (pk n L.o.ring.length)).length = pk n L.o.ring.length := by rw [List.length_take, Nat.min_eq_left (pk_le _ _)]
  exact ⟨_, by rw [numsB_size]; exact hl, sb_nums _ (h.ring_in.take _), conv_str w _ _ _ _ hl hb.rd_all⟩
theorem all_pongs {s : ByteArray} {D : List ByteArray} (hz : s.size ≤ 1000000) (h : scan false 200 (sb s) = (D.map (ctlF 10), [], 0)) (n : Nat) (hn : D.length = n) (w : World) :
    Calls Try.prog 25 #[.string s, .bool false, .int .i64 200] w fun e w' => ∃ A c, e = .returned (.tuple #[.slice A n c, .int .i64 0, .int .i64 0]) ∧ Rd w' A (frs (D.map (ctlF 10))) ∧ n ≤ c ∧ c ≤ maxLen ∧ Touch NoS w w' := by
  refine (r10_all s hz false 200 (by decide) w).mono ?_
  rintro e w' ⟨v, rfl, ho, ht⟩
  rw [h] at ho ⊢
  simp only [List.length_map, List.length_nil] at ho ⊢
  obtain ⟨A, c, rfl, h1, h2, h3, h4, h5⟩ := own_cases ho
  subst hn
  exact ⟨A, c, rfl, h3, h1, h2, ht⟩
theorem pf_cells {w : World} {A : Option Addr} {D : List ByteArray} (h : Rd w A (frs (D.map (ctlF 10)))) (k : Nat) (hk : k < D.length) : ∃ g off, A = some ⟨g, off, none⟩ ∧ g < w.heap.size ∧ w.cell? ⟨g, off + k * 8 + 1, none⟩ = some (.int .i64 10) ∧ w.cell? ⟨g, off + k * 8 + 7, none⟩ = some (.string D[k]) := by
  obtain ⟨g, off, rfl, hg, a0, a1, a2, a3, a4, a5, a6, a7⟩ := fr_cells h k (by simpa using hk)
  rw [List.getElem_map] at a1 a7
  exact ⟨g, off, rfl, hg, a1, a7⟩
theorem last_at {D : List ByteArray} {x : ByteArray} {m : Nat} (h : D.getLast?.getD ⟨#[]⟩ = x) (hm : D.length = m) (h0 : 0 < m) : ∃ h' : m - 1 < D.length, D[m - 1] = x := by
  subst hm
  refine ⟨by omega, ?_⟩
  rw [List.getLast?_eq_getElem?, List.getElem?_eq_getElem (by omega)] at h
  exact h

set_option maxHeartbeats 12800000 in
set_option maxRecDepth 100000 in
theorem pongs16_row (w : World) (A : Option Addr) (ls : List ByteArray) (c : Nat) (hr : Rd w A (ls.flatMap fun x => [.string x])) (hg : ∀ x ∈ ls, x.size ≤ maxLen) (hlc : ls.length ≤ c) (hcc : c ≤ maxLen)
    (B : Option Addr) (ts : List Int) (c' : Nat) (hr' : Rd w B (ts.flatMap fun x => [.int .u8 x])) (hg' : ∀ x ∈ ts, (Lit.int .u8 x).wf = true) (hlc' : ts.length ≤ c') (hcc' : c' ≤ maxLen) :
    Calls Try.prog 6 #[.slice A ls.length c, .slice B ts.length c'] w fun e w' => e = .returned (.bool true) ∧ Touch NoS w w' := by
  have HR := Lib.hid hr
  have HG := Lib.hid hg
  have HR' := Lib.hid hr'
  have HG' := Lib.hid hg'
  obtain ⟨n, hn⟩ : ∃ n, n = ls.length := ⟨_, rfl⟩
  obtain ⟨n', hn'⟩ : ∃ n, n = ts.length := ⟨_, rfl⟩
  rw [← hn] at hlc ⊢
  rw [← hn'] at hlc' ⊢
  have HN := Lib.hid hn.symm
  have HN' := Lib.hid hn'.symm
  have hnm : n ≤ maxLen := by omega
  have hnm' : n' ≤ maxLen := by omega
  unfold maxLen at hnm hnm'
  clear hr hg hn hcc hr' hg' hn' hcc'
  go_enter Try.func6, Try.ntmps6
  go_wp2_with fail
  refine (l_cfg 200 50 200 (by omega) (by omega) (by omega) _).mono ?_
  rintro e w2 ⟨b, rfl, hb, hbr, ht⟩
  have HT2 := Lib.hid ht
  have HBR := Lib.hid hbr
  clear ht hbr
  unfold cfgV
  obtain ⟨M, hM⟩ : ∃ M, M = 1 + 200 := ⟨_, rfl⟩
  obtain ⟨F, hF⟩ : ∃ F, F = 1 + 50 := ⟨_, rfl⟩
  rw [← hM, ← hF]
  have hM1 : 1 ≤ M ∧ M ≤ 201 := by omega
  have hF1 : 1 ≤ F ∧ F ≤ 256 := by omega
  clear hM hF
  go_wp2_with fail
  have HNEW := Lib.hid (lg_new b M F M hM1.1 (by omega) hF1.1 (by omega) hM1.1 (by omega) true 0 w2 HBR.out)
  unfold cfgV at HNEW
  clear HBR hb
  refine HNEW.out.mono ?_
  rintro e w3 ⟨g, k, rfl, hk1, hk2, hk3, hk4, hL⟩
  have HK1 := Lib.hid hk1
  have HK3 := Lib.hid hk3
  have HK4 := Lib.hid hk4
  have HL3 := Lib.hid hL
  clear hL hk1 hk2 hk3 hk4 HNEW
  go_wp2_with fail
  refine (aw16 _).mono ?_
  rintro e w4 ⟨rfl, ht⟩
  have HL4 := Lib.hid (HL3.out.no ht)
  clear ht HL3
  by_cases h20 : n ≤ 20
  · have h20i : (n : Int) ≤ 20 := by omega
    go_wp2_with fail
    go_loopw [7, 8, 9, 10] (fun sv xv iv _ wr => ∃ (i : Nat) (L : Lg) (s x : ByteArray) (D : List ByteArray), i ≤ n ∧ iv = .int .i64 i ∧ sv = .string s ∧ s.size ≤ 201 * i ∧ xv = .string x ∧ LgAt w2 wr g k L ∧ Hid ((ls.take i).getLast?.getD ⟨#[]⟩ = x) ∧ Hid (Pongs k M (ls.take i) L (sb s) D) ∧ Hid (L.o.sized 125) ∧ Hid (∀ y ∈ ls.take i, y.size ≤ 125)) (fun _ _ iv _ _ => n - (intOf iv).toNat)
    case atStart => exact ⟨0, Lg.new M 0, ⟨#[]⟩, ⟨#[]⟩, [], Nat.zero_le _, rfl, rfl, Nat.zero_le _, rfl, HL4.out, rfl, Pongs.new k M, Lg.new_sized _ _ _, fun y hy => by simp at hy⟩
    case round =>
      obtain ⟨i, L, s, x, D, hin, rfl, rfl, hsz, rfl, hL, hx, hpg, hsd, h125⟩ := hrel
      have HL := Lib.hid hL
      have HX : Hid ((ls.take i).getLast?.getD ⟨#[]⟩ = x) := hx
      have HPG : Hid (Pongs k M (ls.take i) L (sb s) D) := hpg
      have HSD : Hid (L.o.sized 125) := hsd
      have H125 : Hid (∀ y ∈ ls.take i, y.size ≤ 125) := h125
      clear hL hx hpg hsd h125
      by_cases hlt : i < n
      · have hil : i < ls.length := by rw [HN.out]; exact hlt
        obtain ⟨ga, oa, rfl, hgax, a0x⟩ := str_at (HR.out.touch_no HT2.out) i hil
        have hce : ∀ W, Touch NoS w2 W → W.cell? ⟨ga, oa + i, none⟩ = some (.string ls[i]) := fun W t => t.cell a0x
        have a0 := hce _ HL.out.old
        have hga := Nat.lt_of_lt_of_le hgax HL.out.old.size
        clear a0x hgax
        have hgd := HG.out ls[i] (List.getElem_mem hil)
        have htk : ls.take (i + 1) = ls.take i ++ [ls[i]] := (List.take_append_getElem hil).symm
        have hlast := lasts ls i hil
        obtain ⟨d, hd⟩ : ∃ x, x = ls[i] := ⟨_, rfl⟩
        rw [← hd] at a0 hgd hce htk hlast
        have HCE := Lib.hid hce
        have HTK := Lib.hid htk
        have HLA := Lib.hid hlast
        unfold maxLen at hgd
        clear hd hil hce htk hlast
        by_cases h3 : d.size ≤ 125
        · have h3i : (d.size : Int) ≤ 125 := by omega
          obtain ⟨z, hz⟩ : ∃ z : Int, z = 128 + (d.size : Int) := ⟨_, rfl⟩
          have hzb : 0 ≤ z ∧ z ≤ 255 := by omega
          have e1 : IntKind.i64.wrap (128 + (d.size : Int)) = z := by rw [hz]; exact IntWalk.i64_in _ (by omega)
          have e2 : IntKind.u8.wrap z = z := IntWalk.u8_in _ (by omega)
          obtain ⟨P, hP⟩ : ∃ P, P = Go.strOfNums [z] := ⟨_, rfl⟩
          have hPz : P.size = 1 := by rw [hP, numsB_size]; rfl
          have hcv := fun W q c0 => conv_cells1 W q z c0
          rw [← hP] at hcv
          have hsb := ping_sb d h3
          rw [← hz, ← hP] at hsb
          have hTz : (((⟨#[137]⟩ ++ P) ++ ⟨#[0, 0, 0, 0]⟩) ++ d).size = 6 + d.size := by
            simp only [ByteArray.size_append, hPz]
            rfl
          obtain ⟨nn, hnn⟩ : ∃ nn, nn = 6 + d.size := ⟨_, rfl⟩
          rw [← hnn] at hTz
          have hnb : nn ≤ 131 := by omega
          obtain ⟨W2, cp, hW2⟩ := conv_of _ nn hTz
          have hc2 := fun W => (hW2 W).1
          have HFT : Hid (∀ W, Touch NoS wr W → Touch NoS wr (W2 W)) := fun W t => t.trans (hW2 W).2.1
          have HFD : Hid (∀ W h q, Touch NoS wr W → h = W.heap.size → Calls Try.prog 12 #[.pointer (some ⟨g, 0, none⟩), .slice (some ⟨h, 0, none⟩) nn q] (W2 W) fun e w' => ∃ A c, e = .returned (.slice A 0 c) ∧ LgAt w2 w' g k (L.pong k d)) := fun W h q t hh => by
            subst hh
            have hrd := (hW2 W).2.2
            rw [hsb] at hrd
            have hp := HPG.out.side
            have hfl : (fput (pingF d)).length = nn := by rw [← hsb, sb_length, hTz]
            refine (lg_feed (HL.out.no (HFT.out W t)) (by rw [HK1.out]; omega) ⟨(by rw [hp.part]; intro x hx; cases hx), fun h => absurd hp.serr h⟩ (fput (pingF d)) _ nn q hfl hrd (by rw [← hsb]; exact sb_in _) ?_).mono ?_
            · rw [hp.part]
              have : L.o.ctl.length ≤ 1 := by
                rcases HPG.out.ctl with h | ⟨_, _, _, h⟩ <;> rw [h] <;> simp
              simp
              omega
            · rintro e w' ⟨A, c, rfl, -, hL, -⟩
              rw [feed_ping hp HK4.out d h3] at hL ⊢
              exact ⟨A, c, rfl, hL⟩
          clear hW2 hsb hz hP hTz hnn
          have HKC : Hid (∀ W, Touch NoS wr W → W.cell? ⟨ga, oa + i, none⟩ = some (.string d)) := fun W h => HCE.out W (HL.out.old.trans h)
          go_upto_region 10 with (fail)
          go_cut [10] (fun v wx => ∃ A c, v = .slice A 0 c ∧ LgAt w2 wx g k (L.pong k d))
          case first =>
            go_region_held (fun w' => w'.cell? ⟨ga, oa + i, none⟩ = some (.string d))
              ((first | exact y6 | (refine HKC.out _ ?_; repeat (with_reducible first | assumption | exact Touch.refl _ _ | refine Touch.drew ?_ | refine Touch.alloc ?_ _ | refine HFT.out _ ?_))))
              ((go_at_call 12; refine (HFD.out _ _ _ (by repeat (with_reducible first | assumption | exact Touch.refl _ _ | refine Touch.drew ?_ | refine Touch.alloc ?_ _)) (by simp)).mono ?_; rintro e w6 ⟨A6, c6, rfl, hL6⟩; have y6 := HCE.out w6 hL6.old; have HL6 := Lib.hid hL6; clear hL6))
            all_goals
              go_wp2_with fail
              go_meet
              exact ⟨_, _, rfl, HL6.out⟩
          case rest =>
            obtain ⟨A10, c10, rfl, hL2⟩ := hcut
            obtain ⟨wd, rfl⟩ : ∃ we : World, we = wc := ⟨_, rfl⟩
            obtain ⟨D2, hpg2⟩ := HPG.out.ping HK4.out d
            rw [← HTK.out] at hpg2
            have HSD2 := Lib.hid (Lg.pong_sized (k := k) d h3 HSD.out)
            have H125' : Hid (∀ y ∈ ls.take (i + 1), y.size ≤ 125) := by
              show ∀ y ∈ ls.take (i + 1), y.size ≤ 125
              rw [HTK.out]
              intro y hy
              rcases List.mem_append.1 hy with hy | hy
              · exact H125.out y hy
              · simp at hy
                rw [hy]
                exact h3
            have HLA2 : Hid ((ls.take (i + 1)).getLast?.getD ⟨#[]⟩ = d) := by show (ls.take (i + 1)).getLast?.getD ⟨#[]⟩ = d; rw [HLA.out]; rfl
            obtain ⟨L2, hL2e⟩ : ∃ x, x = L.pong k d := ⟨_, rfl⟩
            rw [← hL2e] at hL2 hpg2 HSD2
            have HL2 := Lib.hid hL2
            have HPG2 := Lib.hid hpg2
            have a02 := HCE.out wd hL2.old
            have hgd2 := Nat.lt_of_lt_of_le hga (Touch.refl NoS wr).size
            clear hpg2 hL2 hL2e HX HPG HSD H125 HTK HLA a0 HFT HFD HKC hc2 hcv e1 e2 hnb hzb hPz
            by_cases hi2 : i < n'
            · have hil2 : i < ts.length := by rw [HN'.out]; exact hi2
              obtain ⟨gt, ot, rfl, hgt, t0⟩ := u8_at_ (HR'.out.touch_no (HT2.out.trans HL2.out.old)) i hil2
              have hgb := u8_bounds (HG'.out ts[i] (List.getElem_mem hil2))
              obtain ⟨tx, htx⟩ : ∃ x, x = ts[i] := ⟨_, rfl⟩
              rw [← htx] at t0 hgb
              clear htx
              go_wp2_with fail
              refine (lg_take HL2.out tx).mono ?_
              rintro e w7 ⟨g7, rfl, -, hb7, hL7, -⟩
              have hrl : L2.o.ring.length ≤ 201 := by have := HL2.out.ring; have := HK3.out; omega
              obtain ⟨P7, hP7, hS7, hcv7⟩ := taken_str HL2.out tx hb7
              have HL7 := Lib.hid hL7
              have hpl := pk_le tx L2.o.ring.length
              obtain ⟨pn, hpn⟩ : ∃ x, x = pk tx L2.o.ring.length := ⟨_, rfl⟩
              have HPG7 : Hid (Pongs k M (ls.take (i + 1)) (L2.take k tx) (sb (s ++ P7)) D2) := by
                show Pongs k M (ls.take (i + 1)) (L2.take k tx) (sb (s ++ P7)) D2
                rw [sb_append, hS7]
                exact HPG2.out.take tx
              rw [← hpn] at hcv7 hP7 hpl ⊢
              have hp7 : P7.size ≤ 201 := by omega
              have HSD7 := Lib.hid (Lg.take_sized k L2 tx HSD2.out)
              clear hL7 t0 hgt hb7 hS7 hpn hP7
              go_wp2_with fail
              go_roundw
              · exact ⟨i + 1, L2.take k tx, s ++ P7, d, D2, by omega, by go_num, rfl, by rw [ByteArray.size_append]; omega, rfl, HL7.out, HLA2.out, HPG7.out, HSD7.out, H125'.out⟩
              · simp [intOf]; omega
            · have hi2i : ¬ ((i : Int) < n') := by omega
              go_wp2_with fail
              go_roundw
              · exact ⟨i + 1, L2, s, d, D2, by omega, by go_num, rfl, by omega, rfl, HL2.out, HLA2.out, HPG2.out, HSD2.out, H125'.out⟩
              · simp [intOf]; omega
        · have h3i : ¬ ((d.size : Int) ≤ 125) := by omega
          have HTF := Lib.hid (HT2.out.trans HL.out.old)
          go_wp2_with fail
          go_ret
          exact ⟨rfl, HTF.out⟩
      · have hge : ¬ ((i : Int) < n) := by omega
        have hin' : i = n := by omega
        have hall : ls.take i = ls := by rw [hin', ← HN.out, List.take_length]
        have hpg := HPG.out
        have hx := HX.out
        have h125 := H125.out
        rw [hall] at hpg hx h125
        have hrl : L.o.ring.length ≤ 201 := by have := HL.out.ring; have := HK3.out; omega
        have HWT := Lib.hid (hpg.wt HSD.out hrl)
        have hDn : D.length ≤ n := by rw [← HN.out]; exact hpg.sub.length_le
        obtain ⟨m, hm⟩ : ∃ m, m = D.length := ⟨_, rfl⟩
        rw [← hm] at hDn
        have HM := Lib.hid hm.symm
        have hs4 : s.size ≤ 4020 := by omega
        have HPG0 := Lib.hid hpg
        have HX0 := Lib.hid hx
        have H0 := Lib.hid h125
        clear hpg hx h125 hall hm HPG HX H125 HSD hrl hsz
        go_wp2_with fail
        go_loopw [7, 11] (fun sv kv wr => ∃ (j : Nat) (L' : Lg) (s' : ByteArray), j ≤ 1000 ∧ kv = .int .i64 j ∧ sv = .string s' ∧ s'.size ≤ 4020 + 201 * j ∧ LgAt w2 wr g k L' ∧ Hid (Pongs k M ls L' (sb s') D) ∧ L'.o.wt + j ≤ 1000) (fun _ kv _ => 1000 - (intOf kv).toNat)
        case atStart => exact ⟨0, L, s, by omega, rfl, rfl, by omega, HL.out, HPG0.out, by have := HWT.out; omega⟩
        case round =>
          obtain ⟨j, L', s', hj, rfl, rfl, hsz, hL, hpg, hwt⟩ := hrel
          have HL' := Lib.hid hL
          have HWT' := Lib.hid hwt
          have HPG' : Hid (Pongs k M ls L' (sb s') D) := hpg
          clear hL hwt hpg HL HPG0 HWT hs4
          obtain ⟨we, hwe⟩ : ∃ we : World, we = wr := ⟨_, rfl⟩
          subst hwe
          obtain ⟨b, hb⟩ : ∃ b, b = (decide (j < 1000) && !L'.quiet) := ⟨_, rfl⟩
          go_upto_region 17 with (fail)
          go_cut [96] (fun v wx => v = .bool b ∧ wx = we)
          case first =>
            by_cases hj2 : j < 1000
            · rw [decide_eq_true hj2, Bool.true_and] at hb
              go_wp2_with fail
              refine (lg_quiet HL'.out).mono ?_
              rintro e w6 ⟨rfl, rfl⟩
              go_wp2_with fail
              go_meet
              exact ⟨by rw [hb], rfl⟩
            · rw [decide_eq_false hj2, Bool.false_and] at hb
              have hji : ¬ ((j : Int) < 1000) := by omega
              go_wp2_with fail
              go_meet
              exact ⟨by rw [hb], rfl⟩
          case rest =>
            obtain ⟨rfl, hwx⟩ := hcut
            obtain ⟨wd, rfl⟩ : ∃ w : World, w = wc := ⟨_, rfl⟩
            subst hwx
            cases b with
            | true =>
              rw [eq_comm, Bool.and_eq_true, decide_eq_true_eq, Bool.not_eq_true'] at hb
              obtain ⟨hj2, hq⟩ := hb
              have HDW := Lib.hid (Lg.take_down k L' HPG'.out.side.still (by rw [HK3.out]; omega) hq 50 (by omega))
              clear hq
              go_wp2_with fail
              refine (lg_take HL'.out 50).mono ?_
              rintro e w7 ⟨g7, rfl, -, hb7, hL7, -⟩
              have hrl : L'.o.ring.length ≤ 201 := by have := HL'.out.ring; have := HK3.out; omega
              obtain ⟨P7, hP7, hS7, hcv7⟩ := taken_str HL'.out 50 hb7
              have HL7 := Lib.hid hL7
              have hpl := pk_le 50 L'.o.ring.length
              obtain ⟨pn, hpn⟩ : ∃ x, x = pk 50 L'.o.ring.length := ⟨_, rfl⟩
              have HPG7 : Hid (Pongs k M ls (L'.take k 50) (sb (s' ++ P7)) D) := by
                show Pongs k M ls (L'.take k 50) (sb (s' ++ P7)) D
                rw [sb_append, hS7]
                exact HPG'.out.take 50
              rw [← hpn] at hcv7 hP7 hpl ⊢
              have hp7 : P7.size ≤ 201 := by omega
              clear hL7 hb7 hS7 hpn hP7
              go_wp2_with fail
              go_roundw
              · exact ⟨j + 1, L'.take k 50, s' ++ P7, by omega, by go_num, rfl, by rw [ByteArray.size_append]; omega, HL7.out, HPG7.out, by have := HDW.out; have := HWT'.out; omega⟩
              · simp [intOf]; omega
            | false =>
              have hq : L'.quiet = true := by
                by_cases hj2 : j < 1000
                · rw [decide_eq_true hj2, Bool.true_and] at hb
                  cases hq : L'.quiet with
                  | true => rfl
                  | false => rw [hq] at hb; cases hb
                · exact Lg.quiet_zero (L := L') (by have := HWT'.out; omega)
              have hov := HPG'.out.over hq H0.out (by rw [HN.out]; exact h20)
              have HALL := Lib.hid (all_pongs (s := s') (by omega) hov m HM.out wd)
              have HSUB := Lib.hid HPG'.out.sub
              have hlast : D.getLast?.getD ⟨#[]⟩ = x := by rw [HPG'.out.last]; exact HX0.out
              have hz : m = 0 ↔ n = 0 := by
                have := HPG'.out.last
                rw [← HM.out, ← HN.out, List.length_eq_zero_iff, List.length_eq_zero_iff, ← List.getLast?_eq_none_iff, ← List.getLast?_eq_none_iff, this]
              have HTF := Lib.hid (HT2.out.trans HL'.out.old)
              have HLAST := Lib.hid hlast
              clear hb hq hov hlast HL' HPG' HWT' hsz H0 HX0
              go_wp2_with fail
              refine HALL.out.mono ?_
              rintro e w8 ⟨A8, c8, rfl, hr8, hc8, hc8m, ht8⟩
              unfold maxLen at hc8m
              have HR8 := Lib.hid hr8
              have HT8 := Lib.hid (HTF.out.trans ht8)
              clear hr8 ht8 HALL HTF
              go_upto_region 21 with (fail)
              go_cut [131] (fun v wx => v = .bool false ∧ wx = w8)
              case first =>
                by_cases hm0 : m = 0
                · have hn0 := hz.1 hm0
                  subst hm0 hn0
                  go_wp2_with fail
                  go_meet
                  exact ⟨rfl, rfl⟩
                · have hn0 : ¬ n = 0 := fun h => hm0 (hz.2 h)
                  have hm1 : ¬ (m : Int) = 0 := by omega
                  have hn1 : ¬ (n : Int) = 0 := by omega
                  have hd1 : decide ((m : Int) = 0) = false := decide_eq_false hm1
                  have hd2 : decide ((n : Int) = 0) = false := decide_eq_false hn1
                  have hmn : ¬ ((n : Int) < m) := by omega
                  have hd3 : decide ((n : Int) < m) = false := decide_eq_false hmn
                  have hb1 : ((m : Int) == 0) = false := by rw [beq_eq_false_iff_ne]; exact hm1
                  have hb2 : ((n : Int) == 0) = false := by rw [beq_eq_false_iff_ne]; exact hn1
                  go_wp2_with fail
                  go_meet
                  first
                    | exact ⟨rfl, rfl⟩
                    | exact ⟨by rw [hb1, hb2]; rfl, rfl⟩
              case rest =>
                obtain ⟨rfl, hwx⟩ := hcut
                obtain ⟨wf, rfl⟩ : ∃ w : World, w = wc := ⟨_, rfl⟩
                subst hwx
                go_wp2_with fail
                go_loopw [15, 16] (fun av iv wr => ∃ (i a : Nat), i ≤ m ∧ iv = .int .i64 i ∧ a ≤ n ∧ av = .int .i64 a ∧ Hid ((D.drop i).Sublist (ls.drop a)) ∧ Touch NoS wf wr) (fun _ iv _ => m - (intOf iv).toNat)
                case atStart => exact ⟨0, 0, by omega, rfl, by omega, rfl, HSUB.out, Touch.refl _ _⟩
                case round =>
                  obtain ⟨i, a, him, rfl, han, rfl, hsb, htr⟩ := hrel
                  have HSB : Hid ((D.drop i).Sublist (ls.drop a)) := hsb
                  have HTR := Lib.hid htr
                  clear hsb htr
                  by_cases hlt2 : i < m
                  · have hil : i < D.length := by rw [HM.out]; exact hlt2
                    have hdr : D.drop i = D[i] :: D.drop (i + 1) := List.drop_eq_getElem_cons hil
                    obtain ⟨gf, of, rfl, hgf, f1, f7⟩ := pf_cells HR8.out i hil
                    obtain ⟨y, hy⟩ : ∃ y, y = D[i] := ⟨_, rfl⟩
                    rw [← hy] at hdr f7
                    have hsb1 := HSB.out
                    rw [hdr] at hsb1
                    have HSB1 := Lib.hid hsb1
                    have hf1 : ∀ W, Touch NoS wf W → W.cell? ⟨gf, of + i * 8 + 1, none⟩ = some (.int .i64 10) := fun W t => t.cell f1
                    have hf7 : ∀ W, Touch NoS wf W → W.cell? ⟨gf, of + i * 8 + 7, none⟩ = some (.string y) := fun W t => t.cell f7
                    have HF1 := Lib.hid hf1
                    have HF7 := Lib.hid hf7
                    clear hdr hy hsb1 HSB f1 f7 hf1 hf7 hil
                    go_wp2_with fail
                    go_loopw [15] (fun av wq => ∃ (a : Nat), a ≤ n ∧ av = .int .i64 a ∧ Hid ((y :: D.drop (i + 1)).Sublist (ls.drop a)) ∧ Touch NoS wf wq) (fun av _ => n - (intOf av).toNat)
                    case atStart => exact ⟨a, han, rfl, HSB1.out, HTR.out⟩
                    case round =>
                      obtain ⟨a2, ha2, rfl, hsb2, htq⟩ := hrel
                      have hsb3 : (y :: D.drop (i + 1)).Sublist (ls.drop a2) := hsb2
                      obtain ⟨hal, hs1, hs2⟩ := sub_step hsb3
                      obtain ⟨ga, oa, rfl, hga, a0⟩ := str_at (HR.out.touch_no (HT8.out.trans htq)) a2 hal
                      rw [HN.out] at hal
                      have hali : (a2 : Int) < n := by omega
                      obtain ⟨z, hzz⟩ : ∃ z, z = ls[a2] := ⟨_, rfl⟩
                      rw [← hzz] at a0 hs1
                      have f1 := HF1.out _ htq
                      have f7 := HF7.out _ htq
                      have hgf2 := Nat.lt_of_lt_of_le hgf htq.size
                      have HS1 := Lib.hid hs1
                      have HS2 := Lib.hid hs2
                      have HTQ := Lib.hid htq
                      clear hsb2 hsb3 hs1 hs2 htq hzz hgf
                      by_cases hzy : z = y
                      · subst hzy
                        go_wp2_with fail
                        go_quiet (fail)
                        go_wp2_with fail
                        go_roundw
                        · exact ⟨i + 1, a2 + 1, by omega, by go_num, by omega, by go_num, HS2.out, HTQ.out.drewN _⟩
                        · simp [intOf]; omega
                      · have hq1 : (z.toList == y.toList) = false := by rw [str_eq]; exact decide_eq_false hzy
                        go_wp2_with fail
                        go_quiet (fail)
                        go_wp2_with fail
                        go_roundw
                        · exact ⟨a2 + 1, by omega, by go_num, HS1.out hzy, HTQ.out.drewN _⟩
                        · simp [intOf]; omega
                  · have him2 : i = m := by omega
                    subst him2
                    have HTF2 := Lib.hid (HT8.out.trans HTR.out)
                    by_cases hm0 : i = 0
                    · subst hm0
                      go_wp2_with fail
                      go_ret
                      exact ⟨rfl, HTF2.out⟩
                    · obtain ⟨hl1, hl2⟩ := last_at HLAST.out HM.out (by omega)
                      obtain ⟨gf, of, rfl, hgf, f1, f7⟩ := pf_cells (HR8.out.touch_no HTR.out) (i - 1) hl1
                      rw [hl2] at f7
                      have hki : ((i : Int) - 1).toNat = i - 1 := by omega
                      have hi1 : ¬ (i : Int) = 0 := by omega
                      have hd1 : decide ((i : Int) = 0) = false := decide_eq_false hi1
                      clear hl1 hl2
                      go_wp2_with fail
                      go_ret
                      exact ⟨rfl, HTF2.out⟩
  · have h20i : ¬ ((n : Int) ≤ 20) := by omega
    go_wp2_with fail
    refine (aw16 _).mono ?_
    rintro e w5 ⟨rfl, ht⟩
    have HTF := Lib.hid ((HT2.out.trans HL4.out.old).trans ht)
    clear ht
    go_wp2_with fail
    go_ret
    exact ⟨rfl, HTF.out⟩
end Go.Proofs.Ytpadlcllcmodaaa
