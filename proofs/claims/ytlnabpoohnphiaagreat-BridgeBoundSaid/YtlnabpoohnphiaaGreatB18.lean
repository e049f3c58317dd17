/- ring: Peek, Take. | leg: Free, Sent, Got, Wrong, Quiet, Peek, Take, Kept. | cut: Count. -/
import Derived.Test.YtlnabpoohnphiaaGreatB04
import Derived.Test.YtlnabpoohnphiaaGreatB17
import Derived.Test.YtlnabpoohnphiaaGreatB02
/- ring: Peek, Take. -/
namespace Go.Proofs.YtlnabpoohnphiaaGreat
open Go.RowKit
set_option linter.unusedSimpArgs false
set_option linter.unusedVariables false

/-- How many bytes are told. -/
def pk (n : Int) (size : Nat) : Nat := (min (max n 0) size).toNat
theorem pk_le (n : Int) (size : Nat) : pk n size ≤ size := by unfold pk; omega

set_option maxHeartbeats 3200000 in
set_option maxRecDepth 100000 in
theorem rg_peek (g b M : Nat) (l : List Int) (n : Int) (w : World) (h : IsR w g b M l) :
    Calls Tryz.prog 58 #[.pointer (some ⟨g, 0, none⟩), .int .i64 n] w fun e w' => ∃ g2, e = .returned (.slice (some ⟨g2, 0, none⟩) (pk n l.length) (pk n l.length)) ∧ w.heap.size ≤ g2 ∧ Blk w' g2 5 (u8s (l.take (pk n l.length))).toArray ∧ Touch NoS w w' := by
  obtain ⟨s, buf, hb, hrow, hM, hbin, hs, hMm, hl, hrc⟩ := h
  obtain ⟨K, hK⟩ : ∃ K, K = l.length := ⟨_, rfl⟩
  rw [← hK] at hb hl hrc ⊢
  have HKK := Lib.hid hK
  obtain ⟨k, hk⟩ : ∃ k, k = pk n K := ⟨_, rfl⟩
  have hkK : k ≤ K := by rw [hk]; exact pk_le _ _
  rw [← hk]
  have hmn : min (max n 0) (K : Int) = (k : Int) := by rw [hk]; unfold pk; omega
  obtain ⟨n1, hn1⟩ : ∃ n1, n1 = min k (M - s) := ⟨_, rfl⟩
  have hn1k : n1 ≤ k := by omega
  have hn1M : s + n1 ≤ M := by omega
  have HN1 := Lib.hid hn1
  have HMM := Lib.hid hM
  have HRC := Lib.hid hrc
  obtain ⟨C1, hC1⟩ : ∃ C1, C1 = u8s ((buf.drop s).take n1) := ⟨_, rfl⟩
  have HC1 := Lib.hid hC1
  have HC1L : Hid (C1.length = n1) := by show C1.length = n1; rw [hC1, u8s_length, List.length_take, List.length_drop, hM]; omega
  obtain ⟨C2, hC2⟩ : ∃ C2, C2 = u8s (buf.take (k - n1)) := ⟨_, rfl⟩
  have HC2 := Lib.hid hC2
  have HC2L : Hid (C2.length = k - n1) := by show C2.length = k - n1; rw [hC2, u8s_length, List.length_take, hM]; omega
  have HMK := Lib.hid (make_u8 w k (by omega))
  have hmk := HMK.out
  have c0 := hb.cell 0
  have c1 := hb.cell 1
  have c2 := hb.cell 2
  have glt := hb.lt
  simp [rgCells] at c0 c1 c2
  have HB := Lib.hid hb
  have HROW := Lib.hid hrow
  clear hb hrow hK hk hn1 hC1 hC2 hM hrc
  go_enter Tryz.func58, Tryz.ntmps58
  go_wp2_with fail
  obtain ⟨w1, hw1⟩ : ∃ w1, w1 = w.alloc (.cells (Array.replicate k (.int .u8 0)) 5) := ⟨_, rfl⟩
  rw [← hw1]
  have HN : Hid (Blk w1 w.heap.size 5 (u8s (List.replicate k 0)).toArray) := by
    show Blk w1 _ _ _
    rw [hw1]
    have := Blk.new w 5 (Array.replicate k (.int .u8 0))
    simpa [u8s] using this
  have HT1 : Hid (Touch NoS w w1) := by show Touch NoS w w1; rw [hw1]; exact (Touch.refl _ _).alloc _
  have hb1 : Blk w1 g 145 (rgCells b M s K) := HB.out.touch HT1.out (fun h => h)
  have HROW1 : Hid (Blk w1 b 5 (u8s buf).toArray) := HROW.out.touch HT1.out (fun h => h)
  have HBN : Hid (b < w.heap.size) := HROW.out.lt
  have HGN : Hid (g < w.heap.size) := HB.out.lt
  have HRD1 : Hid (Rd w1.drew (some ⟨b, s, none⟩) C1) := by
    show Rd w1.drew _ _
    rw [HC1.out]
    intro _
    refine ⟨b, s, rfl, HROW1.out.lt, fun j u hu => ?_⟩
    rw [HROW1.out.drew.cell]
    simp only [u8s, List.map_take, List.map_drop, List.getElem?_take] at hu
    split at hu
    · rw [List.getElem?_drop] at hu
      simpa [u8s] using hu
    · cases hu
  have hMs : ¬ M = s := by omega
  have hsM : s ≤ M := by omega
  have c0 := hb1.cell 0
  have c1 := hb1.cell 1
  simp [rgCells] at c0 c1
  have HB1 := Lib.hid hb1
  clear hmk HMK hw1 hb1 c2
  go_region_law (refine step_copy_at rfl (.tmp 16) (.tmp 25) 43 43 rfl 5 Tryz.underlying43 u8_info1r (some ⟨w.heap.size, 0, none⟩) (some ⟨b, s, none⟩) k k (M - s) (M - s) rfl rfl w.heap.size 0 (u8s (List.replicate k 0)) 5 HN.out.drew C1 (by rw [HC1L.out, HN1.out]; exact Nat.min_comm _ _) (fun _ => rfl) HRD1.out (by rw [HC1L.out, u8s_length, List.length_replicate]; omega) (by rw [HC1.out]; exact u8s_one _) ?_; intro w2 hrow2 ht2)
  all_goals
    (try rw [HC1L.out])
    have HT2 : Hid (Touch NoS w w2) := HT1.out.drew.at_new ht2 (Nat.le_refl _)
    have hb2 : Blk w2 g 145 (rgCells b M s K) := HB.out.touch HT2.out (fun h => h)
    have c0 := hb2.cell 0
    simp [rgCells] at c0
    have HROWB : Hid (Blk w2 b 5 (u8s buf).toArray) := HROW.out.touch HT2.out (fun h => h)
    have HROW2 := Lib.hid hrow2
    have HRD2 : Hid (Rd w2.drew (some ⟨b, 0, none⟩) C2) := by
      show Rd w2.drew _ _
      rw [HC2.out]
      intro _
      refine ⟨b, 0, rfl, HROWB.out.lt, fun j u hu => ?_⟩
      rw [HROWB.out.drew.cell]
      simp only [u8s, List.map_take, List.getElem?_take] at hu
      split at hu
      · simpa [u8s] using hu
      · cases hu
    have HBUF : Hid ((splice (u8s (List.replicate k 0)) 0 C1).length = k) := by show (splice (u8s (List.replicate k 0)) 0 C1).length = k; rw [length_splice _ _ _ (by rw [HC1L.out, u8s_length, List.length_replicate]; omega), u8s_length, List.length_replicate]
    have HFIN : Hid (splice (splice (u8s (List.replicate k 0)) 0 C1) n1 C2 = u8s (l.take k)) := by
      show splice (splice (u8s (List.replicate k 0)) 0 C1) n1 C2 = u8s (l.take k)
      have e1 : splice (u8s (List.replicate k 0)) 0 C1 = C1 ++ (u8s (List.replicate k 0)).drop n1 := by simp [splice, HC1L.out]
      have e2 : splice (C1 ++ (u8s (List.replicate k 0)).drop n1) n1 C2 = C1 ++ C2 := by
        unfold splice
        rw [List.take_left' HC1L.out, HC2L.out, List.drop_eq_nil_of_le (by rw [List.length_append, HC1L.out, List.length_drop, u8s_length, List.length_replicate]; omega), List.append_nil]
      rw [e1, e2, HC1.out, HC2.out, ← u8s_append, rc_peek buf M s k n1 HMM.out hs (by omega) HN1.out, ← HRC.out, rc_take _ _ _ _ hkK]
    clear hb2 hrow2 ht2 HT1 HB1 HROW1 HRD1 HN c1
    go_wp2_with fail
    by_cases hnn : n1 = k
    · subst hnn
      have HC20 : Hid (C2 = []) := by show C2 = []; exact List.eq_nil_of_length_eq_zero (by rw [HC2L.out]; omega)
      go_region_law (refine step_copy_at rfl (.tmp 29) (.tmp 33) 43 43 rfl 5 Tryz.underlying43 u8_info1r _ (some ⟨b, 0, none⟩) _ _ M M rfl rfl w.heap.size n1 (splice (u8s (List.replicate n1 0)) 0 C1) 5 HROW2.out.drew [] (by simp) (by simp) (Rd.nil_ _ _) (by rw [HBUF.out]; simp) (by simp) ?_; intro w3 hrow3 ht3)
      all_goals
        go_wp2_with fail
        go_ret
        refine ⟨w.heap.size, rfl, Nat.le_refl _, ?_, HT2.out.drew.at_new ht3 (Nat.le_refl _)⟩
        have hf := HFIN.out
        rw [HC20.out] at hf
        rw [← hf]
        exact hrow3
    · have hnn2 : ¬ k = n1 := fun h => hnn h.symm
      go_region_law (refine step_copy_at rfl (.tmp 29) (.tmp 33) 43 43 rfl 5 Tryz.underlying43 u8_info1r (some ⟨w.heap.size, n1, none⟩) (some ⟨b, 0, none⟩) (k - n1) (k - n1) M M rfl rfl w.heap.size n1 (splice (u8s (List.replicate k 0)) 0 C1) 5 HROW2.out.drew C2 (by rw [HC2L.out]; exact (Nat.min_eq_right (by omega)).symm) (fun _ => rfl) HRD2.out (by rw [HC2L.out, HBUF.out]; omega) (by rw [HC2.out]; exact u8s_one _) ?_; intro w3 hrow3 ht3)
      all_goals
        go_wp2_with fail
        go_ret
        refine ⟨w.heap.size, rfl, Nat.le_refl _, ?_, HT2.out.drew.at_new ht3 (Nat.le_refl _)⟩
        have hf := HFIN.out
        rw [← hf]
        exact hrow3

set_option maxHeartbeats 3200000 in
set_option maxRecDepth 100000 in
theorem rg_take (g b M : Nat) (l : List Int) (n : Int) (w : World) (h : IsR w g b M l) :
    Calls Tryz.prog 63 #[.pointer (some ⟨g, 0, none⟩), .int .i64 n] w fun e w' => ∃ g2, e = .returned (.slice (some ⟨g2, 0, none⟩) (pk n l.length) (pk n l.length)) ∧ w.heap.size ≤ g2 ∧ Blk w' g2 5 (u8s (l.take (pk n l.length))).toArray ∧ IsR w' g b M (l.drop (pk n l.length)) ∧ Touch (At g) w w' := by
  have HPK := Lib.hid (rg_peek g b M l n w h)
  obtain ⟨s, buf, hb, hrow, hM, hbin, hs, hMm, hl, hrc⟩ := h
  obtain ⟨K, hK⟩ : ∃ K, K = l.length := ⟨_, rfl⟩
  obtain ⟨k, hk⟩ : ∃ k, k = pk n K := ⟨_, rfl⟩
  have hkK : k ≤ K := by rw [hk]; exact pk_le _ _
  rw [← hK, ← hk] at HPK ⊢
  rw [← hK] at hb hl hrc
  have HKK := Lib.hid hK
  obtain ⟨E, hE⟩ : ∃ E, E = wrp M (s + k) := ⟨_, rfl⟩
  have HEE := Lib.hid hE
  have hEM : E < M := by rw [hE]; exact wrp_lt (by omega) (by omega)
  have hmod : ((s : Int) + k).tmod M = (E : Int) := by
    rw [hE, ← wrp_mod (by omega) (by omega)]
    exact (Int.ofNat_tmod (s + k) M).symm
  have HRC := Lib.hid hrc
  have HMM := Lib.hid hM
  have HB := Lib.hid hb
  have HROW := Lib.hid hrow
  clear hb hrow hK hk hE hrc hM
  go_enter Tryz.func63, Tryz.ntmps63
  go_wp2_with fail
  refine HPK.out.mono ?_
  rintro e w1 ⟨g2, rfl, hg2, hrow2, ht⟩
  have hb1 : Blk w1 g 145 (rgCells b M s K) := HB.out.touch ht (fun h => h)
  have c0 := hb1.cell 0
  have c1 := hb1.cell 1
  have c2 := hb1.cell 2
  have f1 := hb1.frozen 1
  have f2 := hb1.frozen 2
  have glt := hb1.lt
  simp [rgCells] at c0 c1 c2
  have HB1 := Lib.hid hb1
  have HR2 := Lib.hid hrow2
  have HT := Lib.hid ht
  clear hb1 hrow2 ht HPK
  go_wp2_with fail
  go_region
  all_goals
    go_wp2_with fail
    go_ret
    have hbg : g ≠ b := HB.out.ne_ HROW.out (by decide)
    have hlt := HB.out.lt
    have hg2g : g2 ≠ g := by omega
    have hlen : (l.drop k).length = K - k := by rw [List.length_drop, ← HKK.out]
    refine ⟨g2, rfl, hg2, ((HR2.out.far hg2g _).far hg2g _).drew, ⟨E, buf, ?_, ?_, HMM.out, hbin, hEM, hMm, by rw [hlen]; omega, ?_⟩, ((HT.out.of_no.setAt 1 _).setAt 2 _).drew⟩
    · rw [hlen]
      have := ((HB1.out.set_ 1 (.int .i64 E)).set_ 2 (.int .i64 ((K : Int) - k))).drew
      rw [← Int.ofNat_sub hkK] at this ⊢
      simpa [rgCells] using this
    · exact ((((HROW.out.touch HT.out (fun h => h))).far (Ne.symm hbg) _).far (Ne.symm hbg) _).drew
    · have := rc_drop buf M s k K HMM.out hs hl hkK
      rw [HRC.out, ← HEE.out] at this
      rw [hlen]
      exact this.symm
end Go.Proofs.YtlnabpoohnphiaaGreat
/- leg: Free, Sent, Got, Wrong, Quiet, Peek, Take, Kept. -/
namespace Go.Proofs.YtlnabpoohnphiaaGreat
open Go.RowKit
set_option linter.unusedSimpArgs false
set_option linter.unusedVariables false

def Lg.free (L : Lg) : Bool := !L.sent && !L.got && decide (L.wrong = 0) && decide (L.o.rest.length = 0)
def Lg.quiet (L : Lg) : Bool := decide (L.o.ring.length = 0) && decide (L.o.tail.length = 0) && decide (L.o.ctl.length = 0) && decide (L.o.rest.length = 0)
section
variable {w : World} {g : Nat} {k : Lk} {L : Lg} {V : LV}
set_option maxHeartbeats 3200000 in
set_option maxRecDepth 100000 in
theorem l_sent (h : IsL w g k L V) : Calls Tryz.prog 43 #[.pointer (some ⟨g, 0, none⟩)] w fun e w' => e = .returned (.bool L.sent) ∧ w = w' := by
  have hb := h.out.blk
  have c := hb.cell 20
  simp [lgCells] at c
  clear hb h
  go_enter Tryz.func43, Tryz.ntmps43
  go_wp2
  go_ret
  exact ⟨rfl, rfl⟩
set_option maxHeartbeats 3200000 in
set_option maxRecDepth 100000 in
theorem l_got (h : IsL w g k L V) : Calls Tryz.prog 44 #[.pointer (some ⟨g, 0, none⟩)] w fun e w' => e = .returned (.bool L.got) ∧ w = w' := by
  have hb := h.out.blk
  have c := hb.cell 21
  simp [lgCells] at c
  clear hb h
  go_enter Tryz.func44, Tryz.ntmps44
  go_wp2
  go_ret
  exact ⟨rfl, rfl⟩
set_option maxHeartbeats 3200000 in
set_option maxRecDepth 100000 in
theorem l_wrong (h : IsL w g k L V) : Calls Tryz.prog 45 #[.pointer (some ⟨g, 0, none⟩)] w fun e w' => e = .returned (.int .i64 L.wrong) ∧ w = w' := by
  have hb := h.out.blk
  have c := hb.cell 22
  simp [lgCells] at c
  clear hb h
  go_enter Tryz.func45, Tryz.ntmps45
  go_wp2
  go_ret
  exact ⟨rfl, rfl⟩
set_option maxHeartbeats 6400000 in
set_option maxRecDepth 100000 in
theorem l_free (h : IsL w g k L V) : Calls Tryz.prog 69 #[.pointer (some ⟨g, 0, none⟩)] w fun e w' => e = .returned (.bool L.free) ∧ w = w' := by
  obtain ⟨A, c, hv, -⟩ := h.out.rest.cases
  have hb := h.out.blk
  rw [hv] at hb
  have c1 := hb.cell 20
  have c2 := hb.cell 21
  have c3 := hb.cell 22
  have c4 := hb.cell 17
  simp [lgCells] at c1 c2 c3 c4
  unfold Lg.free
  obtain ⟨n, hn⟩ : ∃ n, n = L.o.rest.length := ⟨_, rfl⟩
  obtain ⟨s, hs⟩ : ∃ s, s = L.sent := ⟨_, rfl⟩
  obtain ⟨t, ht⟩ : ∃ s, s = L.got := ⟨_, rfl⟩
  obtain ⟨e, he⟩ : ∃ s, s = L.wrong := ⟨_, rfl⟩
  rw [← hn] at c4 ⊢
  rw [← hs] at c1 ⊢
  rw [← ht] at c2 ⊢
  rw [← he] at c3 ⊢
  clear hb h hv hn hs ht he
  rcases s with _ | _
  · rcases t with _ | _
    · by_cases h3 : e = 0
      · by_cases h4 : n = 0
        · subst h3 h4
          go_enter Tryz.func69, Tryz.ntmps69
          go_wp2_with fail
          go_ret
          exact ⟨rfl, rfl⟩
        · subst h3
          go_enter Tryz.func69, Tryz.ntmps69
          go_wp2_with fail
          go_ret
          exact ⟨by simp [h4], rfl⟩
      · go_enter Tryz.func69, Tryz.ntmps69
        go_wp2_with fail
        go_ret
        exact ⟨by simp [h3], rfl⟩
    · go_enter Tryz.func69, Tryz.ntmps69
      go_wp2_with fail
      go_ret
      exact ⟨rfl, rfl⟩
  · go_enter Tryz.func69, Tryz.ntmps69
    go_wp2_with fail
    go_ret
    exact ⟨rfl, rfl⟩
set_option maxHeartbeats 6400000 in
set_option maxRecDepth 100000 in
theorem l_quiet (h : IsL w g k L V) : Calls Tryz.prog 72 #[.pointer (some ⟨g, 0, none⟩)] w fun e w' => e = .returned (.bool L.quiet) ∧ w = w' := by
  obtain ⟨A, c, hv, -⟩ := h.out.rest.cases
  obtain ⟨A2, cc2, hv2, -⟩ := h.out.ctl.cases
  obtain ⟨A3, cc3, hv3, -⟩ := h.out.tail.cases
  have hb := h.out.blk
  rw [hv, hv2, hv3] at hb
  have c1 := hb.cell 14
  have c2 := hb.cell 15
  have c3 := hb.cell 16
  have c4 := hb.cell 17
  simp [lgCells] at c1 c2 c3 c4
  obtain ⟨s0, buf, hrb, -⟩ := h.out.ring
  have HL := Lib.hid (rg_len _ _ _ _ _ w hrb)
  unfold Lg.quiet
  obtain ⟨n1, hn1⟩ : ∃ n, n = L.o.ring.length := ⟨_, rfl⟩
  obtain ⟨n2, hn2⟩ : ∃ n, n = L.o.tail.length := ⟨_, rfl⟩
  obtain ⟨n3, hn3⟩ : ∃ n, n = L.o.ctl.length := ⟨_, rfl⟩
  obtain ⟨n4, hn4⟩ : ∃ n, n = L.o.rest.length := ⟨_, rfl⟩
  rw [← hn1] at HL ⊢
  rw [← hn2] at c2 ⊢
  rw [← hn3] at c3 ⊢
  rw [← hn4] at c4 ⊢
  clear hb h hv hv2 hv3 hn1 hn2 hn3 hn4 hrb
  go_enter Tryz.func72, Tryz.ntmps72
  go_wp2_with fail
  refine HL.out.mono ?_
  rintro e w1 ⟨rfl, rfl⟩
  by_cases h1 : n1 = 0
  · subst h1
    by_cases h2 : n2 = 0
    · subst h2
      by_cases h3 : n3 = 0
      · subst h3
        by_cases h4 : n4 = 0
        · subst h4
          go_wp2_with fail
          go_ret
          exact ⟨rfl, rfl⟩
        · go_wp2_with fail
          go_ret
          exact ⟨by simp [h4], rfl⟩
      · go_wp2_with fail
        go_ret
        exact ⟨by simp [h3], rfl⟩
    · go_wp2_with fail
      go_ret
      exact ⟨by simp [h2], rfl⟩
  · go_wp2_with fail
    go_ret
    exact ⟨by simp [h1], rfl⟩
set_option maxHeartbeats 6400000 in
set_option maxRecDepth 100000 in
theorem l_peek (h : IsL w g k L V) (n : Int) : Calls Tryz.prog 37 #[.pointer (some ⟨g, 0, none⟩), .int .i64 n] w fun e w' =>
    ∃ g2, e = .returned (.slice (some ⟨g2, 0, none⟩) (pk n L.o.ring.length) (pk n L.o.ring.length)) ∧ w.heap.size ≤ g2 ∧ Blk w' g2 5 (u8s (L.o.ring.take (pk n L.o.ring.length))).toArray ∧ Touch NoS w w' := by
  have hb := h.out.blk
  have c1 := hb.cell 14
  simp [lgCells] at c1
  have HP := Lib.hid (rg_peek _ _ _ _ n w h.out.ring)
  clear hb h
  go_enter Tryz.func37, Tryz.ntmps37
  go_wp2_with fail
  refine HP.out.mono ?_
  rintro e w1 ⟨g2, rfl, h1, h2, h3⟩
  have H2 := Lib.hid h2
  have H3 := Lib.hid h3
  clear h2 h3
  go_wp2_with fail
  go_ret
  exact ⟨g2, rfl, h1, H2.out, H3.out⟩
def Lg.take (k : Lk) (L : Lg) (n : Int) : Lg := { L with o := ({ L.o with ring := L.o.ring.drop (pk n L.o.ring.length) } : Ou).move k.out k.masks }
set_option maxHeartbeats 6400000 in
set_option maxRecDepth 100000 in
theorem l_take (h : IsL w g k L V) (n : Int) : Calls Tryz.prog 41 #[.pointer (some ⟨g, 0, none⟩), .int .i64 n] w fun e w' =>
    ∃ g2, e = .returned (.slice (some ⟨g2, 0, none⟩) (pk n L.o.ring.length) (pk n L.o.ring.length)) ∧ w.heap.size ≤ g2 ∧ Blk w' g2 5 (u8s (L.o.ring.take (pk n L.o.ring.length))).toArray ∧
      (∃ V', IsL w' g k (L.take k n) V' ∧ LLoc w V V') ∧ Touch (LF g k V) w w' := by
  have hb := h.out.blk
  have c1 := hb.cell 14
  simp [lgCells] at c1
  have HP := Lib.hid (rg_take _ _ _ _ n w h.out.ring)
  have H := Lib.hid h
  clear hb h
  go_enter Tryz.func41, Tryz.ntmps41
  go_wp2_with fail
  refine HP.out.mono ?_
  rintro e w1 ⟨g2, rfl, h1, h2, h3, h4⟩
  obtain ⟨d1, d2, q1, q2⟩ := H.out.out.ring.blk
  have hS : ∀ (t : TypeId) (cs : Array Value) (b : Nat), Blk w b t cs → t ≠ 145 → ¬ At k.rg b := fun t cs b hc ht hS => hc.ne_ q1 ht hS
  have hg2 : g2 < w1.heap.size := h2.lt
  have ho : OutH w1 g k { L.o with ring := L.o.ring.drop (pk n L.o.ring.length) } L.sent L.got L.wrong V.vt V.vc V.vr :=
    ⟨H.out.out.blk.touch h4 (hS _ _ _ H.out.out.blk (by decide)), h3, H.out.out.tail.touch h4 (fun b hb => by
      obtain ⟨cs, hc⟩ := H.out.out.tail.type hb
      exact hS _ _ _ hc (by decide)), H.out.out.ctl.touch h4 (fun b hb => by
      obtain ⟨cs, hc⟩ := H.out.out.ctl.type hb
      exact hS _ _ _ hc (by decide)), H.out.out.rest.touch h4 (fun b hb => by
      obtain ⟨cs, hc⟩ := H.out.out.rest.type hb
      exact hS _ _ _ hc (by decide)), H.out.out.bytes, H.out.out.good, H.out.out.apart⟩
  have HO := Lib.hid ho
  have H2 := Lib.hid h2
  have H4 := Lib.hid h4
  have HG := Lib.hid h1
  clear ho h2 h3 h4 hS q1 q2 h1
  go_wp2_with fail
  refine (l_move g k _ _ _ _ _ _ _ w1 HO.out).mono ?_
  rintro e w2 ⟨vt', vc', vr', rfl, ho2, lt2, lc2, lr2, ht2⟩
  have htt : Touch (OA g k V.vc) w w2 := (H4.out.mono (fun i hi => Or.inl (Or.inr (Or.inl hi)))).trans (ht2.mono fun i hi => Or.inl hi)
  have ltt : Loc w V.vt vt' := fun b hb => by
    rcases lt2 b hb with q | q
    · exact .inl q
    · exact .inr (Nat.le_trans H4.out.size q)
  obtain ⟨V', hV', hl', hT'⟩ := H.out.out_act ho2 htt ltt (fun b hb => .inl (lc2 ▸ hb)) (fun b hb => .inl (lr2 ▸ hb)) (fun b hb hb' => H.out.cr b (lc2 ▸ hb) (lr2 ▸ hb'))
  have hbk : Blk w2 g2 5 (u8s (L.o.ring.take (pk n L.o.ring.length))).toArray := H2.out.touch ht2 fun hS => by
    have : g2 < w.heap.size := by
      rcases hS with rfl | rfl | rfl
      · exact H.out.out.blk.lt
      · exact H.out.out.ring.lt.1
      · exact H.out.out.ring.lt.2
    have := HG.out
    omega
  have HV := Lib.hid hV'
  have HLC := Lib.hid hl'
  have HTT := Lib.hid hT'
  have HBK := Lib.hid hbk
  clear ho2 htt ltt hV' hl' hT' hbk lt2 lc2 lr2 ht2
  go_wp2_with fail
  go_ret
  refine ⟨g2, rfl, HG.out, HBK.out, ⟨V', HV.out, HLC.out⟩, HTT.out⟩
end
end Go.Proofs.YtlnabpoohnphiaaGreat
/- cut: Count. -/
namespace Go.Proofs.YtlnabpoohnphiaaGreat
open Go.RowKit
set_option linter.unusedSimpArgs false
set_option linter.unusedVariables false

/-- How many frames a message is. -/
def count13 (size most : Int) : Int := if size < 0 ∨ 1048576 < size ∨ most < 1 ∨ 65536 < most then 0 else max ((size + most - 1) / most) 1
set_option maxHeartbeats 1600000 in
set_option maxRecDepth 100000 in
theorem k_count (size most : Int) (w : World) : Calls Tryz.prog 115 #[.int .i64 size, .int .i64 most] w fun e w' => e = .returned (.int .i64 (count13 size most)) ∧ w = w' := by
  by_cases h1 : size < 0
  · rw [show count13 size most = 0 from if_pos (.inl h1)]
    go_enter Tryz.func115, Tryz.ntmps115
    go_wp2
    go_ret
    exact ⟨rfl, rfl⟩
  by_cases h2 : 1048576 < size
  · rw [show count13 size most = 0 from if_pos (.inr (.inl h2))]
    have h1' : 0 ≤ size := by omega
    clear h1
    go_enter Tryz.func115, Tryz.ntmps115
    go_wp2
    go_ret
    exact ⟨rfl, rfl⟩
  have h1' : 0 ≤ size := by omega
  have h2' : size ≤ 1048576 := by omega
  by_cases h3 : most < 1
  · rw [show count13 size most = 0 from if_pos (.inr (.inr (.inl h3)))]
    clear h1 h2
    go_enter Tryz.func115, Tryz.ntmps115
    go_wp2
    go_ret
    exact ⟨rfl, rfl⟩
  have h3' : 1 ≤ most := by omega
  by_cases h4 : 65536 < most
  · rw [show count13 size most = 0 from if_pos (.inr (.inr (.inr h4)))]
    clear h1 h2 h3
    go_enter Tryz.func115, Tryz.ntmps115
    go_wp2
    go_ret
    exact ⟨rfl, rfl⟩
  have h4' : most ≤ 65536 := by omega
  have hc : count13 size most = max ((size + most - 1) / most) 1 := if_neg (by omega)
  rw [hc]
  obtain ⟨q, hq⟩ : ∃ q, q = (size + most - 1) / most := ⟨_, rfl⟩
  rw [← hq]
  have hw1 : IntKind.i64.wrap (size + most) = size + most := IntWalk.i64_in _ (by omega)
  have hw2 : IntKind.i64.wrap (size + most - 1) = size + most - 1 := IntWalk.i64_in _ (by omega)
  have hq0 : 0 ≤ q := by rw [hq]; exact Int.ediv_nonneg (by omega) (by omega)
  have hq1 : q ≤ size + most - 1 := by rw [hq]; exact Int.ediv_le_self _ (by omega)
  have ht : (size + most - 1).tdiv most = q := by rw [Int.tdiv_eq_ediv_of_nonneg (by omega), hq]
  have hw3 : IntKind.i64.wrap q = q := IntWalk.i64_in _ (by omega)
  have hne : ¬ most = 0 := by omega
  have hneb : (most == 0) = false := by rw [beq_eq_false_iff_ne]; exact hne
  clear h1 h2 h3 h4 hc hq
  go_enter Tryz.func115, Tryz.ntmps115
  go_wp2
  go_ret
  exact ⟨rfl, rfl⟩
end Go.Proofs.YtlnabpoohnphiaaGreat
