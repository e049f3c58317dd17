/- ref10: All. | law16: LegPongs: the walk. | law16: out: all that goes out, till nothing does. -/
import Derived.Test.YtpadlcllcmodaaaGreatG13
import Derived.Test.YtpadlcllcmodaaaGreatG34
import Derived.Test.YtpadlcllcmodaaaGreatG29
import Derived.Test.YtpadlcllcmodaaaGreatG30
import Derived.Test.YtpadlcllcmodaaaGreatG04
/- ref10: All. -/
namespace Go.Proofs.YtpadlcllcmodaaaGreat
open Go.RowKit
set_option linter.unusedSimpArgs false
set_option linter.unusedVariables false

set_option maxHeartbeats 6400000 in
set_option maxRecDepth 100000 in
theorem r10_all (s : ByteArray) (hs : s.size ≤ 1000000) (mk : Bool) (most : Int) (hm : (Lit.int .i64 most).wf = true) (w : World) :
    Calls Tryz.prog 21 #[.string s, .bool mk, .int .i64 most] w fun e w' => ∃ v, e = .returned (.tuple #[v, .int .i64 (scan mk most (sb s)).2.2, .int .i64 (scan mk most (sb s)).2.1.length]) ∧
      w'.ownsRow w.heap.size 61 8 v (scan mk most (sb s)).1.length (frs (scan mk most (sb s)).1) ∧ Touch NoS w w' := by
  have HM := Lib.hid hm
  obtain ⟨i, hi, hz0, hz1, hz2⟩ := info_parts info_fr
  obtain ⟨R, hR⟩ : ∃ R, R = scan mk most (sb s) := ⟨_, rfl⟩
  rw [← hR]
  have HRR := Lib.hid hR
  clear hm hR
  go_enter Tryz.func21, Tryz.ntmps21
  go_wp2_with fail
  go_loopw [0, 9] (fun sv ov wr => ∃ (l : List Fr) (t : ByteArray), sv = .string t ∧ t.size ≤ 1000000 ∧ l.length + t.size ≤ 1000000 ∧ wr.ownsRow w.heap.size 61 8 ov l.length (frs l) ∧ Hid (R = (l ++ (scan mk most (sb t)).1, (scan mk most (sb t)).2)) ∧ Touch NoS w wr)
    (fun sv _ _ => match sv with | .string t => t.size | _ => 0)
  case atStart =>
    refine ⟨[], s, rfl, hs, by simp; omega, ⟨rfl, .inr ⟨w.heap.size, 0, #[], rfl, Nat.le_refl _, Blk.new _ _ _, Nat.le_refl _, by simp [maxLen], rfl, rfl⟩⟩, HRR.out, (Touch.refl _ _).alloc _⟩
  case round =>
    obtain ⟨l, t, rfl, htz, hlz, ho, hsc, ht⟩ := hrel
    have hin := sb_in t
    have hlen := sb_length t
    have hse := scan_eq mk most (sb t) hin (by rw [hlen]; unfold maxLen; omega)
    have HON := Lib.hid (r10_one t (by omega) mk most HM.out wr)
    have h2 := fun h => slook_two (mk := mk) (most := most) hin (by rw [hlen]; unfold maxLen; omega) h
    obtain ⟨f, k, e, hS⟩ : ∃ f k e, slook mk most (sb t) = (f, k, e) := ⟨_, _, _, rfl⟩
    rw [hS] at hse HON h2
    simp only at hse HON h2
    rw [hlen] at h2
    obtain ⟨Av, cv, rfl, hlc, hcm, _, _, _⟩ := own_cases ho
    have HO := Lib.hid ho
    have HSC := Lib.hid hsc
    have HSE := Lib.hid hse
    have HT := Lib.hid ht
    have H2 := Lib.hid h2
    have hsz : w.heap.size ≤ wr.heap.size := ht.size
    clear hin hlen hse hS ho hsc ht h2 hlc hcm
    obtain ⟨fin, op, masked, k0, k1, k2, k3, d⟩ := f
    simp only [Fr.cs] at HON
    by_cases he9 : e = 90
    · subst he9
      have hR : R = (l, sb t, 0) := by
        have h := HSC.out.out
        rw [HSE.out, if_neg (by omega), if_pos rfl] at h
        rw [h, List.append_nil]
      have HR2 := Lib.hid hR
      clear HSC HSE H2 HRR
      go_wp2_with fail
      refine HON.out.mono ?_
      rintro e' w1 ⟨rfl, ht⟩
      have HO1 := Lib.hid (own_no HO.out (ht.alloc (.cells #[.bool fin, .int .i64 op, .bool masked, .int .u8 k0, .int .u8 k1, .int .u8 k2, .int .u8 k3, .string d] 61)))
      have HT1 := Lib.hid ((HT.out.trans ht).alloc (.cells #[.bool fin, .int .i64 op, .bool masked, .int .u8 k0, .int .u8 k1, .int .u8 k2, .int .u8 k3, .string d] 61))
      clear ht
      go_wp2
      refine bodyPost_ret (v := .tuple #[.slice Av l.length cv, .int .i64 0, .int .i64 t.size]) (by simp [results, Tryz.results21, go_sem]) rfl ?_
      have h := HR2.out
      subst h
      exact ⟨_, by rw [sb_length], HO1.out, HT1.out⟩
    by_cases he0 : e = 0
    · subst he0
      have hR : R = (l ++ [⟨fin, op, masked, k0, k1, k2, k3, d⟩] ++ (scan mk most ((sb t).drop k)).1, (scan mk most ((sb t).drop k)).2) := by
        have h := HSC.out.out
        rw [HSE.out, if_pos rfl] at h
        rw [h]
        simp
      have HR2 := Lib.hid hR
      have h2 := H2.out rfl
      have hk2 : 2 ≤ k := h2.1
      have hkt : k ≤ t.size := h2.2
      have hki : (k : Int) ≤ t.size := by omega
      have HFO : Hid (∀ u ∈ (Fr.mk fin op masked k0 k1 k2 k3 d).cl, u.oneCell' = true) := by have := frs_one [⟨fin, op, masked, k0, k1, k2, k3, d⟩]; rw [frs_single] at this; exact this
      have HFC : Hid ((Fr.mk fin op masked k0 k1 k2 k3 d).cl.length = 1 * 8) := rfl
      clear HSC HSE H2 HRR h2 hR he9
      go_wp2_with fail
      refine HON.out.mono ?_
      rintro e' w1 ⟨rfl, ht⟩
      have hs1 : w.heap.size ≤ w1.heap.size := Nat.le_trans hsz ht.size
      have HO1 := Lib.hid (own_no HO.out ht)
      have HT1 := Lib.hid (HT.out.trans ht)
      clear ht HO HT hsz
      go_wp2_with fail
      obtain ⟨w2, hw2⟩ : ∃ w2, w2 = w1.alloc (.cells #[.bool fin, .int .i64 op, .bool masked, .int .u8 k0, .int .u8 k1, .int .u8 k2, .int .u8 k3, .string d] 61) := ⟨_, rfl⟩
      rw [← hw2]
      have hb2 : Blk w2 w1.heap.size 61 #[.bool fin, .int .i64 op, .bool masked, .int .u8 k0, .int .u8 k1, .int .u8 k2, .int .u8 k3, .string d] := by rw [hw2]; exact Blk.new _ _ _
      have HO2 : Hid (w2.ownsRow w.heap.size 61 8 (.slice Av l.length cv) l.length (frs l)) := by rw [hw2]; exact own_no HO1.out ((Touch.refl _ _).alloc _)
      have HT2 : Hid (Touch NoS w w2) := by rw [hw2]; exact HT1.out.alloc _
      have hs2 : w.heap.size ≤ w2.heap.size := HT2.out.size
      have c0 := hb2.cell 0
      have c1 := hb2.cell 1
      have c2 := hb2.cell 2
      have c3 := hb2.cell 3
      have c4 := hb2.cell 4
      have c5 := hb2.cell 5
      have c6 := hb2.cell 6
      have c7 := hb2.cell 7
      have blt := hb2.lt
      simp at c0 c1 c2 c3 c4 c5 c6 c7
      have HRN : Hid (Rd (w2.alloc (.cells (Fr.mk fin op masked k0 k1 k2 k3 d).cl.toArray 61)).drew (some ⟨w2.heap.size, 0, none⟩) (Fr.mk fin op masked k0 k1 k2 k3 d).cl) := (Rd.new w2 (Fr.mk fin op masked k0 k1 k2 k3 d).cl 61 (0, 0)).touch_no (Touch.refl _ _).drew
      clear hw2 hb2 HO1 HT1
      go_region_law (first
        | (refine step_app_row _ rfl (.tmp 31) (.tmp 33) 34 rfl w.heap.size 61 i _ 8 40 Tryz.underlying34 hi hz0 hz1 hz2 rfl (by decide) (.slice Av l.length cv) l.length (frs l) (by simp [Act.eval, Act.put]) (own_no HO2.out ((Touch.refl _ _).alloc _).drew) (some ⟨w2.heap.size, 0, none⟩) 1 1 (Fr.mk fin op masked k0 k1 k2 k3 d).cl (by simp [Act.eval, Act.put]) HFC.out HRN.out HFO.out (by unfold maxLen; omega) (by omega) (by simp; omega) ?_
           intro v' w4 ho hgr _
           have HO4 := Lib.hid ho
           have HT4 := Lib.hid (((HT2.out.alloc _).drew).grown hgr (fun q hq hl => absurd (own_base HO2.out hq) (by omega)))
           clear ho hgr))
      all_goals
        simp [Act.put]
        go_wp2_with fail
        go_roundw
        · refine ⟨l ++ [(Fr.mk fin op masked k0 k1 k2 k3 d)], t.extract k t.size, rfl, by simp; omega, by simp; omega, ?_, ?_, HT4.out⟩
          · rw [List.length_append, frs_append, frs_single]
            exact HO4.out
          · show R = _
            rw [HR2.out, sb_extract, List.take_of_length_le (by rw [sb_length]; exact Nat.le_refl _)]
        · show (t.extract k t.size).size < t.size
          simp
          omega
    · have hR : R = (l, [], e) := by
        have h := HSC.out.out
        rw [HSE.out, if_neg he0, if_neg he9] at h
        rw [h, List.append_nil]
      have HR2 := Lib.hid hR
      have q0 : (e != 0) = true := by rw [bne_iff_ne]; exact he0
      have q9 : (e == 90) = false := by rw [beq_eq_false_iff_ne]; exact he9
      clear HSC HSE H2 HRR hR
      go_wp2_with fail
      refine HON.out.mono ?_
      rintro e' w1 ⟨rfl, ht⟩
      have HO1 := Lib.hid (own_no HO.out (ht.alloc (.cells #[.bool fin, .int .i64 op, .bool masked, .int .u8 k0, .int .u8 k1, .int .u8 k2, .int .u8 k3, .string d] 61)))
      have HT1 := Lib.hid ((HT.out.trans ht).alloc (.cells #[.bool fin, .int .i64 op, .bool masked, .int .u8 k0, .int .u8 k1, .int .u8 k2, .int .u8 k3, .string d] 61))
      clear ht
      go_wp2
      refine bodyPost_ret (v := .tuple #[.slice Av l.length cv, .int .i64 e, .int .i64 0]) (by simp [results, Tryz.results21, go_sem]) rfl ?_
      have h := HR2.out
      subst h
      exact ⟨_, rfl, HO1.out, HT1.out⟩
end Go.Proofs.YtpadlcllcmodaaaGreat
/- law16: LegPongs: the walk. -/
namespace Go.Proofs.YtpadlcllcmodaaaGreat
open Go.RowKit
set_option linter.unusedSimpArgs false
set_option linter.unusedVariables false

theorem conv_cells1 (W : World) (g : Nat) (a : Int) (c0 : W.cell? ⟨g, 0, none⟩ = some (.int .u8 a)) :
    (convert 49 9 (.slice (some ⟨g, 0, none⟩) 1 1)).run Tryz.prog W = .ok (.string (Go.strOfNums [a])) W :=
  Go.run_convert_bytes_arg (P := Tryz.prog) _ 49 5 Tryz.underlying49 Tryz.underlying5 g 0 1 1 [a] rfl (fun i hi => by
    rcases i with _ | i
    · exact c0
    · omega) 9 Tryz.underlying9
theorem ping_sb (d : ByteArray) (hd : d.size ≤ 125) : sb (((⟨#[137]⟩ ++ Go.strOfNums [(128 : Int) + d.size]) ++ ⟨#[0, 0, 0, 0]⟩) ++ d) = fput (pingF d) := by
  have h : bytesIn [(128 : Int) + d.size] := fun x hx => by simp at hx; omega
  rw [sb_append, sb_append, sb_append, sb_nums _ h, ping_bytes d hd]
  rfl
theorem conv_of (s : ByteArray) (n : Nat) (hn : s.size = n) : ∃ (W2 : World → World) (cp : World → Nat), ∀ W, (convert 9 49 (.string s)).run Tryz.prog W = .ok (.slice (some ⟨W.heap.size, 0, none⟩) n (cp W)) (W2 W) ∧ Touch NoS W (W2 W) ∧ Rd (W2 W) (some ⟨W.heap.size, 0, none⟩) (u8s (sb s)) := by
  subst hn
  exact ⟨fun W => Lib.bytesWorld W 5 s, fun W => grownCap W s.size 0 5, fun W => ⟨Lib.run_convert_string_bytes (P := Tryz.prog) W 9 49 5 s Tryz.underlying9 Tryz.underlying49 Tryz.underlying5, conv_touch _ _ _, conv_rd _ _ _⟩⟩
theorem lasts (l : List ByteArray) (i : Nat) (hi : i < l.length) : (l.take (i + 1)).getLast? = some l[i] := by
  rw [← List.take_append_getElem hi, List.getLast?_concat]

theorem LgAt.ring_in {w0 w : World} {g : Nat} {k : Lk} {L : Lg} (h : LgAt w0 w g k L) : bytesIn L.o.ring := by
  obtain ⟨V, i, -, -⟩ := h
  exact i.out.ring.bytes
/-- What was taken, as a string. -/
theorem taken_str {w0 w1 w : World} {g g2 : Nat} {k : Lk} {L : Lg} (h : LgAt w0 w1 g k L) (n : Int) (hb : Blk w g2 5 (u8s (L.o.ring.take (pk n L.o.ring.length))).toArray) :
    ∃ P : ByteArray, P.size = pk n L.o.ring.length ∧ sb P = L.o.ring.take (pk n L.o.ring.length) ∧ (convert 49 9 (.slice (some ⟨g2, 0, none⟩) (pk n L.o.ring.length) (pk n L.o.ring.length))).run Tryz.prog w = .ok (.string P) w := by
  have hl : (L.o.ring.take (pk n L.o.ring.length)).length = pk n L.o.ring.length := by rw [List.length_take, Nat.min_eq_left (pk_le _ _)]
  exact ⟨_, by rw [numsB_size]; exact hl, sb_nums _ (h.ring_in.take _), conv_str w _ _ _ _ hl hb.rd_all⟩
theorem all_pongs {s : ByteArray} {D : List ByteArray} (hz : s.size ≤ 1000000) (h : scan false 200 (sb s) = (D.map (ctlF 10), [], 0)) (n : Nat) (hn : D.length = n) (w : World) :
    Calls Tryz.prog 21 #[.string s, .bool false, .int .i64 200] w fun e w' => ∃ A c, e = .returned (.tuple #[.slice A n c, .int .i64 0, .int .i64 0]) ∧ Rd w' A (frs (D.map (ctlF 10))) ∧ n ≤ c ∧ c ≤ maxLen ∧ Touch NoS w w' := by
  refine (r10_all s hz false 200 (by decide) w).mono ?_
  rintro e w' ⟨v, rfl, ho, ht⟩
  rw [h] at ho ⊢
  simp only [List.length_map, List.length_nil] at ho ⊢
  obtain ⟨A, c, rfl, h1, h2, h3, h4, h5⟩ := own_cases ho
  subst hn
  exact ⟨A, c, rfl, h3, h1, h2, ht⟩
theorem pf_cells {w : World} {A : Option Addr} {D : List ByteArray} (h : Rd w A (frs (D.map (ctlF 10)))) (k : Nat) (hk : k < D.length) : ∃ g off, A = some ⟨g, off, none⟩ ∧ g < w.heap.size ∧ w.cell? ⟨g, off + k * 8 + 1, none⟩ = some (.int .i64 10) ∧ w.cell? ⟨g, off + k * 8 + 7, none⟩ = some (.string D[k]) := by
  obtain ⟨g, off, rfl, hg, a0, a1, a2, a3, a4, a5, a6, a7⟩ := fr_cells h k (by simpa using hk)
  rw [List.getElem_map] at a1 a7
  exact ⟨g, off, rfl, hg, a1, a7⟩
theorem last_at {D : List ByteArray} {x : ByteArray} {m : Nat} (h : D.getLast?.getD ⟨#[]⟩ = x) (hm : D.length = m) (h0 : 0 < m) : ∃ h' : m - 1 < D.length, D[m - 1] = x := by
  subst hm
  refine ⟨by omega, ?_⟩
  rw [List.getLast?_eq_getElem?, List.getElem?_eq_getElem (by omega)] at h
  exact h

end Go.Proofs.YtpadlcllcmodaaaGreat
/- law16: out: all that goes out, till nothing does. -/
namespace Go.Proofs.YtpadlcllcmodaaaGreat
open Go.RowKit
set_option linter.unusedSimpArgs false
set_option linter.unusedVariables false

theorem Lg.take_wt (k : Lk) (L : Lg) (n : Int) : (L.take k n).o.wt + pk n L.o.ring.length ≤ L.o.wt := by
  have hp2 := pk_le n L.o.ring.length
  have := Ou.move_wt k.out k.masks { L.o with ring := L.o.ring.drop (pk n L.o.ring.length) }
  refine Nat.le_trans (Nat.add_le_add_right this _) ?_
  unfold Ou.wt
  simp only [List.length_drop]
  omega
set_option maxHeartbeats 6400000 in
set_option maxRecDepth 100000 in
theorem l_outs {w0 w : World} {g : Nat} {k : Lk} {L : Lg} (h : LgAt w0 w g k L) (hst : L.o.still k.out) (hk : 1 ≤ k.out) (hwt : L.o.wt ≤ 100000) (I : List Int → Lg → Prop) (hI : ∀ S L, I S L → I (S ++ L.o.ring.take (pk 1000 L.o.ring.length)) (L.take k 1000)) (S0 : List Int) (h0 : I S0 L) :
    Calls Tryz.prog 20 #[.pointer (some ⟨g, 0, none⟩)] w fun e w' => ∃ (s : ByteArray) (L' : Lg), e = .returned (.string s) ∧ s.size ≤ 100000 ∧ LgAt w0 w' g k L' ∧ L'.quiet = true ∧ I (S0 ++ sb s) L' ∧ L'.sent = L.sent ∧ L'.got = L.got ∧ L'.wrong = L.wrong ∧ Keep w w' := by
  have HL0 := Lib.hid h
  have HST := Lib.hid hst
  have HI := Lib.hid hI
  have H0 := Lib.hid h0
  have HWT := Lib.hid hwt
  clear h hst hI h0 hwt
  go_enter Tryz.func20, Tryz.ntmps20
  go_wp2_with fail
  go_loopw [3, 4] (fun sv kv wr => ∃ (j : Nat) (L' : Lg) (s' : ByteArray), (j : Int) ≤ 100000 ∧ kv = .int .i64 j ∧ sv = .string s' ∧ Hid (s'.size + L'.o.wt ≤ 100000) ∧ Hid (L'.o.wt + j ≤ 100000) ∧ LgAt w0 wr g k L' ∧ Hid (I (S0 ++ sb s') L') ∧ Hid (L'.o.still k.out) ∧ Hid (L'.sent = L.sent ∧ L'.got = L.got ∧ L'.wrong = L.wrong ∧ Keep w wr)) (fun _ kv _ => 100000 - (intOf kv).toNat)
  case atStart => exact ⟨0, L, ⟨#[]⟩, by decide, rfl, rfl, by have := HWT.out; show 0 + L.o.wt ≤ 100000; omega, by have := HWT.out; show L.o.wt + 0 ≤ 100000; omega, HL0.out, by show I (S0 ++ []) L; rw [List.append_nil]; exact H0.out, HST.out, rfl, rfl, rfl, Keep.refl _⟩
  case round =>
    obtain ⟨j, L', s', hj, rfl, rfl, hsz, hwt, hL, hi, hst, hsame⟩ := hrel
    have HL := Lib.hid hL
    have HSZ : Hid (s'.size + L'.o.wt ≤ 100000) := hsz
    have HWT' : Hid (L'.o.wt + j ≤ 100000) := hwt
    have HI' : Hid (I (S0 ++ sb s') L') := hi
    have HST' : Hid (L'.o.still k.out) := hst
    have HSM : Hid (L'.sent = L.sent ∧ L'.got = L.got ∧ L'.wrong = L.wrong ∧ Keep w wr) := hsame
    have hsz' : (s'.size : Int) ≤ 100000 := by have := HSZ.out; omega
    clear hL hi hst hsame hsz hwt
    obtain ⟨we, hwe⟩ : ∃ we : World, we = wr := ⟨_, rfl⟩
    subst hwe
    obtain ⟨b, hb⟩ : ∃ b, b = (decide ((j : Int) < 100000) && !L'.quiet) := ⟨_, rfl⟩
    go_upto_region 3 with (fail)
    go_cut [11] (fun v wx => v = .bool b ∧ wx = we)
    case first =>
      by_cases hj2 : (j : Int) < 100000
      · rw [decide_eq_true hj2, Bool.true_and] at hb
        go_wp2_with fail
        refine (lg_quiet HL.out).mono ?_
        rintro e w6 ⟨rfl, rfl⟩
        go_wp2_with fail
        go_meet
        exact ⟨by rw [hb], rfl⟩
      · rw [decide_eq_false hj2, Bool.false_and] at hb
        have hji : ¬ ((j : Int) < 100000) := hj2
        go_wp2_with fail
        go_meet
        exact ⟨by rw [hb], rfl⟩
    case rest =>
      obtain ⟨rfl, hwx⟩ := hcut
      obtain ⟨wd, rfl⟩ : ∃ w : World, w = wc := ⟨_, rfl⟩
      subst hwx
      cases b with
      | true =>
        rw [eq_comm, Bool.and_eq_true, decide_eq_true_eq, Bool.not_eq_true'] at hb
        obtain ⟨hj2, hq⟩ := hb
        have HDW := Lib.hid (Lg.take_down k L' HST'.out hk hq 1000 (by omega))
        have HTW := Lib.hid (Lg.take_wt k L' 1000)
        clear hq
        go_wp2_with fail
        refine (lg_take HL.out 1000).mono ?_
        rintro e w7 ⟨g7, rfl, -, hb7, hL7, hkp⟩
        obtain ⟨P7, hP7, hS7, hcv7⟩ := taken_str HL.out 1000 hb7
        have HL7 := Lib.hid hL7
        have HI7 : Hid (I (S0 ++ sb (s' ++ P7)) (L'.take k 1000)) := by
          show I (S0 ++ sb (s' ++ P7)) (L'.take k 1000)
          rw [sb_append, hS7, ← List.append_assoc]
          exact HI.out _ _ HI'.out
        have hp7 : (P7.size : Int) ≤ 100000 := by have h1 := HTW.out; have h2 := HWT'.out; omega
        have HPZ : Hid ((s' ++ P7).size + (L'.take k 1000).o.wt ≤ 100000) := by show (s' ++ P7).size + (L'.take k 1000).o.wt ≤ 100000; rw [ByteArray.size_append, hP7]; have h1 := HTW.out; have h2 := HSZ.out; omega
        obtain ⟨pn, hpn⟩ : ∃ x, x = pk 1000 L'.o.ring.length := ⟨_, rfl⟩
        rw [← hpn] at hcv7 ⊢
        have HDN : Hid ((L'.take k 1000).o.wt + (j + 1) ≤ 100000) := by show (L'.take k 1000).o.wt + (j + 1) ≤ 100000; have h1 := HDW.out; have h2 := HWT'.out; omega
        have HKP := Lib.hid (HSM.out.2.2.2.trans hkp)
        clear hL7 hb7 hS7 hpn hP7 hkp
        go_wp2_with fail
        go_roundw
        · exact ⟨j + 1, L'.take k 1000, s' ++ P7, by omega, by go_num, rfl, HPZ.out, HDN.out, HL7.out, HI7.out, Lg.take_still _ _ _, HSM.out.1, HSM.out.2.1, HSM.out.2.2.1, HKP.out⟩
        · simp [intOf]; omega
      | false =>
        have hq : L'.quiet = true := by
          by_cases hj2 : (j : Int) < 100000
          · rw [decide_eq_true hj2, Bool.true_and] at hb
            cases hq : L'.quiet with
            | true => rfl
            | false => rw [hq] at hb; cases hb
          · exact Lg.quiet_zero (L := L') (by have := HWT'.out; omega)
        have HQ := Lib.hid hq
        clear hb hq
        go_wp2_with fail
        go_ret
        exact ⟨s', L', rfl, by omega, HL.out, HQ.out, HI'.out, HSM.out⟩
end Go.Proofs.YtpadlcllcmodaaaGreat
