/- leg: Send. | close: Put. | leg: Ping, Close. -/
import Derived.Test.YtlnabpoohnphiaaGreatB18
import Derived.Test.YtlnabpoohnphiaaGreatB19
import Derived.Test.YtlnabpoohnphiaaGreatB14
import Derived.Test.YtlnabpoohnphiaaGreatB11
import Derived.Deep.RegionHeld3
/- leg: Send. -/
namespace Go.Proofs.YtlnabpoohnphiaaGreat
open Go.RowKit
set_option linter.unusedSimpArgs false
set_option linter.unusedVariables false

/-- A message's frames. -/
def cuts (k : Lk) (op : Int) (s : ByteArray) : List Fr := cutFs op s k.frame (count13 s.size k.frame).toNat
def Lg.send (k : Lk) (L : Lg) (op : Int) (s : ByteArray) : Lg × Bool :=
  if L.free = true ∧ (op = 1 ∨ op = 2) ∧ s.size ≤ k.message then ({ L with o := ({ L.o with rest := cuts k op s } : Ou).move k.out k.masks }, true) else (L, false)
theorem cutFs_good {op : Int} (hop : op = 1 ∨ op = 2) (s : ByteArray) (hs : s.size ≤ maxLen) (most n : Nat) : ∀ f ∈ cutFs op s most n, f.good := by
  intro f hf
  unfold cutFs at hf
  obtain ⟨i, _, rfl⟩ := List.mem_map.1 hf
  unfold cutF
  refine fr_good _ _ ?_ _ ?_
  · split <;> omega
  · rw [ByteArray.size_extract]
    omega
section
variable {w : World} {g : Nat} {k : Lk} {L : Lg} {V : LV}
/-- Behind a change of the output, and move. -/
theorem IsL.moved (h : IsL w g k L V) {w5 w6 : World} {o' : Ou} {sent' got' : Bool} {wrong' : Int} {vt5 vc5 vr5 vt6 vc6 vr6 : Value}
    (t5 : Touch (OA g k V.vc) w w5) (l1 : Loc w V.vt vt5) (l2 : Loc w V.vc vc5) (l3 : Loc w V.vr vr5) (ha : Apart vc5 vr5)
    (h6 : OutH w6 g k (o'.move k.out k.masks) sent' got' wrong' vt6 vc6 vr6) (lt6 : Loc w5 vt5 vt6) (lc : vc6.ownBlock = vc5.ownBlock) (lr : vr6.ownBlock = vr5.ownBlock) (t6 : Touch (LO g k) w5 w6) :
    ∃ V', IsL w6 g k { L with o := o'.move k.out k.masks, sent := sent', got := got', wrong := wrong' } V' ∧ LLoc w V V' ∧ Touch (LF g k V) w w6 :=
  h.out_act h6 (t5.trans (t6.mono fun i hi => Or.inl hi)) (l1.trans lt6 t5.size) (fun b hb => l2 b (lc ▸ hb)) (fun b hb => l3 b (lr ▸ hb)) (fun b hb hb' => ha b (lc ▸ hb) (lr ▸ hb'))
/-- Another row of frames of messages. -/
theorem IsL.rest_ (h : IsL w g k L V) {w5 : World} (t : Touch NoS w w5) {rest' : List Fr} {v : Value} (ho : w5.ownsRow w.heap.size 42 8 v rest'.length (frs rest')) (hg : ∀ f ∈ rest', f.good) :
    OutH (w5.setCell ⟨g, 17, none⟩ v) g k { L.o with rest := rest' } L.sent L.got L.wrong V.vt V.vc v ∧ Touch (OA g k V.vc) w (w5.setCell ⟨g, 17, none⟩ v) ∧ Loc w V.vr v ∧ Apart V.vc v := by
  obtain ⟨c1, c2, q1, q2⟩ := h.out.ring.blk
  have h5 := h.out.no t
  have tg : Touch (At g) w5 (w5.setCell ⟨g, 17, none⟩ v) := (Touch.refl (At g) w5).setAt 17 v
  have hS : ∀ (t : TypeId), t ≠ 109 → ∀ b, At g b → ∃ t' cs, Blk w5 b t' cs ∧ t ≠ t' := by
    rintro t ht b rfl
    exact ⟨_, _, h5.blk, ht⟩
  refine ⟨⟨by simpa [lgCells] using h5.blk.set_ 17 v, h5.ring.touch tg (fun e => ?_) (fun e => ?_), h5.tail.of_type tg (hS _ (by decide)), h5.ctl.of_type tg (hS _ (by decide)), (Win.of_own ho).of_type tg (hS _ (by decide)), h5.bytes, ?_, h5.apart⟩, ?_, ?_, ?_⟩
  · exact h.out.blk.ne_ q1 (by decide) e.symm
  · exact h.out.blk.ne_ q2 (by decide) e.symm
  · intro f hf
    rcases List.mem_append.1 hf with hf | hf
    · exact h.out.good f (List.mem_append.2 (.inl hf))
    · exact hg f hf
  · exact (t.of_no (S := OA g k V.vc)).trans (tg.mono fun i hi => Or.inl (Or.inl hi))
  · exact fun b hb => .inr (own_base ho hb)
  · intro b hb hb'
    have := own_base ho hb'
    have := h.lt (b := b) (by simp [LF, hb])
    omega
set_option maxHeartbeats 6400000 in
set_option maxRecDepth 100000 in
theorem l_send_no (h : IsL w g k L V) (op code : Int) (s : ByteArray) (hs : s.size ≤ maxLen) (hk : k.message ≤ 65536) (hno : ¬ (L.free = true ∧ (op = 1 ∨ op = 2) ∧ s.size ≤ k.message)) :
    Calls Tryz.prog 68 #[.pointer (some ⟨g, 0, none⟩), .agg #[.int .i64 op, .int .i64 code, .string s]] w fun e w' => e = .returned (.bool false) ∧ Touch NoS w w' := by
  unfold maxLen at hs
  have hb := h.out.blk
  have c1 := hb.cell 3
  simp [lgCells] at c1
  have HF : Hid (∀ W, Touch NoS w W → Calls Tryz.prog 69 #[.pointer (some ⟨g, 0, none⟩)] W fun e w' => e = .returned (.bool L.free) ∧ w' = W) := fun W t => (l_free (h.no t)).mono fun _ _ h => ⟨h.1, h.2.symm⟩
  obtain ⟨f, hf⟩ : ∃ f, f = L.free := ⟨_, rfl⟩
  rw [← hf] at HF hno
  obtain ⟨M, hM⟩ : ∃ M, M = k.message := ⟨_, rfl⟩
  rw [← hM] at c1 hno hk
  have glt := hb.lt
  have HT : Hid (Touch NoS w (w.alloc (.cells #[.int .i64 op, .int .i64 code, .string s] 37))) := (Touch.refl _ _).alloc _
  clear hb h hf hM
  rcases f with _ | _
  · clear hno
    go_enter Tryz.func68, Tryz.ntmps68
    go_wp2_with fail
    go_quiet ((go_at_call 69; refine Calls.quiet_of_same (HF.out _ ?_); exact HT.out.drewN _))
    go_wp2_with fail
    go_ret
    exact ⟨rfl, HT.out.drewN _⟩
  · by_cases ho : op = 1 ∨ op = 2
    · have hsz : (M : Int) < s.size := by
        have : ¬ s.size ≤ M := fun h => hno ⟨rfl, ho, h⟩
        omega
      clear hno
      rcases ho with rfl | rfl
      · go_enter Tryz.func68, Tryz.ntmps68
        go_wp2_with fail
        go_quiet ((go_at_call 69; refine Calls.quiet_of_same (HF.out _ ?_); exact HT.out.drewN _))
        go_wp2_with fail
        go_ret
        exact ⟨rfl, HT.out.drewN _⟩
      · go_enter Tryz.func68, Tryz.ntmps68
        go_wp2_with fail
        go_quiet ((go_at_call 69; refine Calls.quiet_of_same (HF.out _ ?_); exact HT.out.drewN _))
        go_wp2_with fail
        go_ret
        exact ⟨rfl, HT.out.drewN _⟩
    · have h1 : op ≠ 1 := fun h => ho (.inl h)
      have h2 : op ≠ 2 := fun h => ho (.inr h)
      clear hno ho
      go_enter Tryz.func68, Tryz.ntmps68
      go_wp2_with fail
      go_quiet ((go_at_call 69; refine Calls.quiet_of_same (HF.out _ ?_); exact HT.out.drewN _))
      go_wp2_with fail
      go_ret
      exact ⟨rfl, HT.out.drewN _⟩
set_option maxHeartbeats 6400000 in
set_option maxRecDepth 100000 in
theorem l_send_ok (h : IsL w g k L V) (op code : Int) (s : ByteArray) (hk : k.message ≤ 65536) (hf1 : 1 ≤ k.frame) (hf2 : k.frame ≤ 65536) (hfr : L.free = true) (hop : op = 1 ∨ op = 2) (hsz : s.size ≤ k.message) :
    Calls Tryz.prog 68 #[.pointer (some ⟨g, 0, none⟩), .agg #[.int .i64 op, .int .i64 code, .string s]] w fun e w' => e = .returned (.bool true) ∧
      (∃ V', IsL w' g k { L with o := ({ L.o with rest := cuts k op s } : Ou).move k.out k.masks } V' ∧ LLoc w V V') ∧ Touch (LF g k V) w w' := by
  have hb := h.out.blk
  have c1 := hb.cell 3
  have c2 := hb.cell 4
  simp [lgCells] at c1 c2
  have HF : Hid (∀ W, Touch NoS w W → Calls Tryz.prog 69 #[.pointer (some ⟨g, 0, none⟩)] W fun e w' => e = .returned (.bool true) ∧ w' = W) := fun W t => (l_free (h.no t)).mono fun _ _ h => ⟨by rw [← hfr]; exact h.1, h.2.symm⟩
  obtain ⟨n, hn, f1, f2, -⟩ := count_facts s.size k.frame (by omega) hf1 hf2
  have HN : Hid (count13 s.size k.frame = n) := hn
  have HC := Lib.hid (fun W => k_frames op hop s (by omega) k.frame hf1 hf2 n hn W)
  have HGD := Lib.hid (cutFs_good hop s (by unfold maxLen; omega) k.frame n)
  have hcu : cuts k op s = cutFs op s k.frame n := by unfold cuts; rw [hn]; rfl
  rw [hcu]
  have glt := hb.lt
  have H := Lib.hid h
  obtain ⟨M, hM⟩ : ∃ M, M = k.message := ⟨_, rfl⟩
  rw [← hM] at c1 hsz hk
  obtain ⟨N, hN⟩ : ∃ N, N = k.frame := ⟨_, rfl⟩
  rw [← hN] at c2 HC hf1 hf2 HGD ⊢
  have hsi : (s.size : Int) ≤ M := by omega
  have HT : Hid (Touch NoS w (w.alloc (.cells #[.int .i64 op, .int .i64 code, .string s] 37))) := (Touch.refl _ _).alloc _
  have HNF := Lib.hid hN
  have hlen : (cutFs op s N n).length = n := by simp [cutFs]
  have HLEN := Lib.hid hlen
  clear hb h hn hcu hM hN hlen
  rcases hop with rfl | rfl
  · go_enter Tryz.func68, Tryz.ntmps68
    go_wp2_with fail
    go_quiet ((go_at_call 69; refine Calls.quiet_of_same (HF.out _ ?_); exact HT.out.drewN _))
    have HT1 := Lib.hid (HT.out.drewN nq)
    obtain ⟨w1, hw1⟩ : ∃ w1, w1 = (w.alloc (.cells #[.int .i64 1, .int .i64 code, .string s] 37)).drewN nq := ⟨_, rfl⟩
    obtain ⟨gb, hgb⟩ : ∃ gb, gb = w.heap.size := ⟨_, rfl⟩
    have HE : Blk w1 gb 37 #[.int .i64 1, .int .i64 code, .string s] := by rw [hw1, hgb]; exact (Blk.new _ _ _).drewN _
    rw [← hw1] at HT1
    have hb1 := H.out.out.blk.touch HT1.out (fun h => h)
    have e0 := HE.cell 0
    have e2 := HE.cell 2
    have g4 := hb1.cell 4
    have g17 := hb1.cell 17
    have f17 := hb1.frozen 17
    have gl1 := hb1.lt
    simp [lgCells] at e0 e2 g4 g17
    rw [← HNF.out] at g4
    clear c1 c2
    go_wp2_with fail
    rw [← hw1, ← hgb]
    clear hw1 hgb HE hb1
    go_region_with ((go_at_call 90; refine (HC.out _).mono ?_; rintro e w5 ⟨v5, rfl, ho5, ht5⟩; obtain ⟨A5, cc5, rfl, _⟩ := own_cases ho5; have hb5 := (H.out.out.blk.touch HT1.out (fun h => h)).drew.touch ht5 (fun h => h); have r17 := hb5.frozen 17; have q17 := ht5.cell (w := w1.drew) g17; have gl5 := hb5.lt; have HO5 := Lib.hid ho5; have HT5 := Lib.hid ht5; clear hb5 ho5 ht5))
    all_goals
      have hF := H.out.rest_ (w5 := w5) (rest' := cutFs 1 s N n) (v := .slice A5 n cc5) ((HT1.out.drew).trans HT5.out) (by rw [HLEN.out]; exact own_lower HO5.out HT1.out.size) HGD.out
      obtain ⟨hF1, hF2, hF3, hF4⟩ := hF
      have F1 := Lib.hid hF1
      have F2 := Lib.hid hF2
      have F3 := Lib.hid hF3
      have F4 := Lib.hid hF4
      clear hF1 hF2 hF3 hF4 e0 e2 g4 g17 f17 gl1 r17 q17 gl5
      go_wp2_with fail
      refine (l_move g k _ _ _ _ _ _ _ _ F1.out).mono ?_
      rintro e w6 ⟨vt6, vc6, vr6, rfl, ho6, lt6, lc6, lr6, ht6⟩
      have HR := Lib.hid (H.out.moved F2.out (Loc.refl _ _) (Loc.refl _ _) F3.out F4.out ho6 lt6 lc6 lr6 ht6)
      clear ho6 lt6 lc6 lr6 ht6
      go_wp2_with fail
      go_ret
      obtain ⟨V', r1, r2, r3⟩ := HR.out
      exact ⟨rfl, ⟨V', r1, r2⟩, r3⟩
  · go_enter Tryz.func68, Tryz.ntmps68
    go_wp2_with fail
    go_quiet ((go_at_call 69; refine Calls.quiet_of_same (HF.out _ ?_); exact HT.out.drewN _))
    have HT1 := Lib.hid (HT.out.drewN nq)
    obtain ⟨w1, hw1⟩ : ∃ w1, w1 = (w.alloc (.cells #[.int .i64 2, .int .i64 code, .string s] 37)).drewN nq := ⟨_, rfl⟩
    obtain ⟨gb, hgb⟩ : ∃ gb, gb = w.heap.size := ⟨_, rfl⟩
    have HE : Blk w1 gb 37 #[.int .i64 2, .int .i64 code, .string s] := by rw [hw1, hgb]; exact (Blk.new _ _ _).drewN _
    rw [← hw1] at HT1
    have hb1 := H.out.out.blk.touch HT1.out (fun h => h)
    have e0 := HE.cell 0
    have e2 := HE.cell 2
    have g4 := hb1.cell 4
    have g17 := hb1.cell 17
    have f17 := hb1.frozen 17
    have gl1 := hb1.lt
    simp [lgCells] at e0 e2 g4 g17
    rw [← HNF.out] at g4
    clear c1 c2
    go_wp2_with fail
    rw [← hw1, ← hgb]
    clear hw1 hgb HE hb1
    go_region_with ((go_at_call 90; refine (HC.out _).mono ?_; rintro e w5 ⟨v5, rfl, ho5, ht5⟩; obtain ⟨A5, cc5, rfl, _⟩ := own_cases ho5; have hb5 := (H.out.out.blk.touch HT1.out (fun h => h)).drew.touch ht5 (fun h => h); have r17 := hb5.frozen 17; have q17 := ht5.cell (w := w1.drew) g17; have gl5 := hb5.lt; have HO5 := Lib.hid ho5; have HT5 := Lib.hid ht5; clear hb5 ho5 ht5))
    all_goals
      have hF := H.out.rest_ (w5 := w5) (rest' := cutFs 2 s N n) (v := .slice A5 n cc5) ((HT1.out.drew).trans HT5.out) (by rw [HLEN.out]; exact own_lower HO5.out HT1.out.size) HGD.out
      obtain ⟨hF1, hF2, hF3, hF4⟩ := hF
      have F1 := Lib.hid hF1
      have F2 := Lib.hid hF2
      have F3 := Lib.hid hF3
      have F4 := Lib.hid hF4
      clear hF1 hF2 hF3 hF4 e0 e2 g4 g17 f17 gl1 r17 q17 gl5
      go_wp2_with fail
      refine (l_move g k _ _ _ _ _ _ _ _ F1.out).mono ?_
      rintro e w6 ⟨vt6, vc6, vr6, rfl, ho6, lt6, lc6, lr6, ht6⟩
      have HR := Lib.hid (H.out.moved F2.out (Loc.refl _ _) (Loc.refl _ _) F3.out F4.out ho6 lt6 lc6 lr6 ht6)
      clear ho6 lt6 lc6 lr6 ht6
      go_wp2_with fail
      go_ret
      obtain ⟨V', r1, r2, r3⟩ := HR.out
      exact ⟨rfl, ⟨V', r1, r2⟩, r3⟩
end
end Go.Proofs.YtlnabpoohnphiaaGreat
/- close: Put. -/
namespace Go.Proofs.YtlnabpoohnphiaaGreat
open Go.RowKit
set_option linter.unusedSimpArgs false
set_option linter.unusedVariables false

/-- An end's data. -/
def cput (n : Int) (s : ByteArray) : ByteArray × Int :=
  if n = 0 ∧ s.size = 0 then (⟨#[]⟩, 0)
  else if valid11 n = false ∨ 123 < s.size then (⟨#[]⟩, 110)
  else if lets s = false then (⟨#[]⟩, 111)
  else (Go.strOfNums [n / 256, n % 256] ++ s, 0)
set_option maxHeartbeats 3200000 in
set_option maxRecDepth 100000 in
theorem c_put (n : Int) (s : ByteArray) (hs : s.size ≤ maxLen) (w : World) : Calls Tryz.prog 91 #[.int .i64 n, .string s] w fun e w' => e = .returned (.tuple #[.string (cput n s).1, .int .i64 (cput n s).2]) ∧ Touch NoS w w' := by
  obtain ⟨R, hR⟩ : ∃ R, R = cput n s := ⟨_, rfl⟩
  rw [← hR]
  unfold cput at hR
  have HV := Lib.hid (fun W => c_valid n W)
  by_cases h0 : n = 0 ∧ s.size = 0
  · rw [if_pos h0] at hR
    obtain ⟨rfl, h0⟩ := h0
    obtain rfl : s = ⟨#[]⟩ := ByteArray.ext (Array.eq_empty_of_size_eq_zero h0)
    subst hR
    go_enter Tryz.func91, Tryz.ntmps91
    go_wp2
    go_ret2
    exact ⟨rfl, Touch.refl _ _⟩
  rw [if_neg h0] at hR
  have hq : (n = 0 ∧ (s.toList == []) = false ∧ s.toList.isEmpty = false) ∨ (n ≠ 0 ∧ (n == 0) = false) := by
    by_cases hn : n = 0
    · exact .inl ⟨hn, str_ne s (by by_cases hz : s.size = 0; exact absurd ⟨hn, hz⟩ h0; omega)⟩
    · exact .inr ⟨hn, by rw [beq_eq_false_iff_ne]; exact hn⟩
  clear h0
  cases hv : valid11 n with
  | false =>
    rw [if_pos (.inl hv)] at hR
    rw [hv] at HV
    clear hv
    subst hR
    rcases hq with ⟨rfl, hq1, hq2⟩ | ⟨hq1, hq2⟩
    all_goals
      go_enter Tryz.func91, Tryz.ntmps91
      go_wp2_with fail
      refine (HV.out _).mono ?_
      rintro e w1 ⟨rfl, ht⟩
      have HT := Lib.hid ht
      clear ht
      go_wp2
      go_ret2
      exact ⟨rfl, HT.out⟩
  | true =>
    obtain ⟨hn0, hn1⟩ := valid11_le hv
    rw [hv] at HV
    have hq2 : (n == 0) = false := by rw [beq_eq_false_iff_ne]; omega
    have hq3 : ¬ n = 0 := by omega
    clear hq
    by_cases hz : 123 < s.size
    · rw [if_pos (.inr hz)] at hR
      subst hR
      clear hv
      go_enter Tryz.func91, Tryz.ntmps91
      go_wp2_with fail
      refine (HV.out _).mono ?_
      rintro e w1 ⟨rfl, ht⟩
      have HT := Lib.hid ht
      clear ht
      go_wp2
      go_ret2
      exact ⟨rfl, HT.out⟩
    rw [if_neg (by rw [hv]; rintro (h | h); cases h; exact hz h)] at hR
    have HS := Lib.hid hs
    have HCV := Lib.hid (fun W => conv_ex W s hs)
    have hz' : s.size ≤ 123 := by omega
    obtain ⟨b, hb⟩ : ∃ b, b = lets s := ⟨_, rfl⟩
    have HB := Lib.hid hb
    rw [← hb] at hR
    have HR := Lib.hid hR
    clear hv hb hR hs hz
    go_enter Tryz.func91, Tryz.ntmps91
    go_wp2_with fail
    refine (HV.out _).mono ?_
    rintro e w1 ⟨rfl, ht⟩
    have HT := Lib.hid ht
    clear ht
    obtain ⟨w2, cp, hconv, ht, hrd, hcp, hcm, h23⟩ := HCV.out w1
    have HT2 := Lib.hid (HT.out.trans ht)
    have HRD := Lib.hid hrd
    clear ht hrd hcp hcm HT HV
    go_wp2_with fail
    refine (u_validn _ (sb s) s.size cp (sb_length s) w2 HRD.out (sb_in s) (by intro a ha; injection ha with ha; subst ha; exact h23) (by omega)).mono ?_
    rintro e w3 ⟨rfl, ht⟩
    rw [show (ucount (sb s)).2 = b from HB.out.symm]
    have HT3 := Lib.hid (HT2.out.trans ht)
    clear ht HT2 HRD HCV hconv h23
    cases b with
    | false =>
      have hR := HR.out
      rw [if_pos rfl] at hR
      subst hR
      go_wp2
      go_ret2
      exact ⟨rfl, HT3.out⟩
    | true =>
      have hcv := fun (w : World) (a b : Int) (t : TypeId) (cap : Nat) => conv_two w a b t (0, 0) cap
      have hvz : (Go.strOfNums [n / 256, n % 256]).size = 2 := by rw [numsB_size]; rfl
      have hR := HR.out
      rw [if_neg (by simp)] at hR
      have HR3 := Lib.hid hR
      clear hR
      go_wp2
      go_ret2
      rw [HR3.out]
      exact ⟨rfl, HT3.out.alloc _⟩

end Go.Proofs.YtlnabpoohnphiaaGreat
/- leg: Ping, Close. -/
namespace Go.Proofs.YtlnabpoohnphiaaGreat
open Go.RowKit
set_option linter.unusedSimpArgs false
set_option linter.unusedVariables false

theorem rd_cells_ {w : World} {A : Option Addr} {xs : List Value} (h : Rd w A xs) : ∀ b, A = some b → ∀ j u, xs[j]? = some u → w.cell? (b.add j) = some u := fun b hb j u hu => by
  obtain ⟨g, off, he, _, hc⟩ := h (by rintro rfl; simp at hu)
  rw [hb] at he
  injection he with he
  subst he
  rw [add_plain]
  exact hc j u hu
/-- A control frame. -/
def ctlF (op : Int) (d : ByteArray) : Fr := ⟨true, op, false, 0, 0, 0, 0, d⟩
def Lg.ctl (k : Lk) (L : Lg) (f : Fr) : Lg := { L with o := ({ L.o with ctl := L.o.ctl ++ [f] } : Ou).move k.out k.masks }
def Lg.ping (k : Lk) (L : Lg) (d : ByteArray) : Lg × Bool :=
  if L.sent = true ∨ L.got = true ∨ L.wrong ≠ 0 ∨ 125 < d.size then (L, false) else (L.ctl k (ctlF 9 d), true)
def Lg.close (k : Lk) (L : Lg) (code : Int) (s : ByteArray) : Lg × Bool :=
  if L.sent = true ∨ (cput code s).2 ≠ 0 then (L, false) else (({ L with sent := true, o := { L.o with rest := [] } } : Lg).ctl k (ctlF 8 (cput code s).1), true)
theorem OutH.ctl_ {w : World} {g : Nat} {k : Lk} {o : Ou} {sent got : Bool} {wrong : Int} {vt vc vr : Value} (h : OutH w g k o sent got wrong vt vc vr) (ha : Apart vc vr) {w5 : World} (t : Touch (fun b => vc.ownBlock = some b) w w5) {v' : Value} {f : Fr}
    (hw : Win w5 42 8 v' (o.ctl.length + 1) (frs o.ctl ++ Fr.cl f)) (l : Loc w vc v') (hf : f.good) :
    OutH (w5.setCell ⟨g, 16, none⟩ v') g k { o with ctl := o.ctl ++ [f] } sent got wrong vt v' vr ∧ Touch (OA g k vc) w (w5.setCell ⟨g, 16, none⟩ v') ∧ Apart v' vr ∧ w5.frozen? ⟨g, 16, none⟩ = false ∧ g < w5.heap.size ∧ w5.cell? ⟨g, 16, none⟩ = some vc := by
  obtain ⟨c1, c2, q1, q2⟩ := h.ring.blk
  have hT : ∀ (t : TypeId) (cs : Array Value) (b : Nat), Blk w b t cs → t ≠ 42 → ¬ (vc.ownBlock = some b) := by
    intro t cs b hb t1 hS
    obtain ⟨cs', hc⟩ := h.ctl.type hS
    exact hb.ne_ hc t1 rfl
  have hb5 := h.blk.touch t (hT _ _ _ h.blk (by decide))
  have tg : Touch (At g) w5 (w5.setCell ⟨g, 16, none⟩ v') := (Touch.refl (At g) w5).setAt 16 v'
  have hS : ∀ (t : TypeId), t ≠ 109 → ∀ b, At g b → ∃ t' cs, Blk w5 b t' cs ∧ t ≠ t' := by
    rintro t ht b rfl
    exact ⟨_, _, hb5, ht⟩
  refine ⟨⟨by simpa [lgCells] using hb5.set_ 16 v', (h.ring.touch t (hT _ _ _ q1 (by decide)) (hT _ _ _ q2 (by decide))).touch tg (fun e => ?_) (fun e => ?_), ?_, ?_, ?_, h.bytes, ?_, h.apart⟩, ?_, ?_⟩
  · exact h.blk.ne_ q1 (by decide) e.symm
  · exact h.blk.ne_ q2 (by decide) e.symm
  · refine (h.tail.touch t fun b hb => ?_).of_type tg (hS _ (by decide))
    obtain ⟨cs, hc⟩ := h.tail.type hb
    exact hT _ _ _ hc (by decide)
  · have := hw.of_type tg (hS _ (by decide))
    simpa [frs_append, frs_single] using this
  · exact (h.rest.touch t fun b hb hS => ha b hS hb).of_type tg (hS _ (by decide))
  · intro x hx
    simp only [List.mem_append, List.mem_singleton] at hx
    rcases hx with (hx | hx) | hx
    · exact h.good x (List.mem_append.2 (.inl hx))
    · rw [hx]; exact hf
    · exact h.good x (List.mem_append.2 (.inr hx))
  · exact (t.mono fun i hi => Or.inr hi).trans (tg.mono fun i hi => Or.inl (Or.inl hi))
  · exact ⟨l.apart_l ha fun b hb => by
      obtain ⟨cs, hc⟩ := h.rest.type hb
      exact hc.lt, hb5.frozen 16, hb5.lt, by rw [hb5.cell 16]; simp [lgCells]⟩
theorem OutH.end_ {w : World} {g : Nat} {k : Lk} {o : Ou} {sent got : Bool} {wrong : Int} {vt vc vr : Value} (h : OutH w g k o sent got wrong vt vc vr) :
    OutH ((w.setCell ⟨g, 20, none⟩ (.bool true)).setCell ⟨g, 17, none⟩ (.slice none 0 0)) g k { o with rest := [] } true got wrong vt vc (.slice none 0 0) ∧ Touch (At g) w ((w.setCell ⟨g, 20, none⟩ (.bool true)).setCell ⟨g, 17, none⟩ (.slice none 0 0)) := by
  obtain ⟨c1, c2, q1, q2⟩ := h.ring.blk
  have tg : Touch (At g) w ((w.setCell ⟨g, 20, none⟩ (.bool true)).setCell ⟨g, 17, none⟩ (.slice none 0 0)) := ((Touch.refl (At g) w).setAt 20 _).setAt 17 _
  have hS : ∀ (t : TypeId), t ≠ 109 → ∀ b, At g b → ∃ t' cs, Blk w b t' cs ∧ t ≠ t' := by
    rintro t ht b rfl
    exact ⟨_, _, h.blk, ht⟩
  refine ⟨⟨by simpa [lgCells] using (h.blk.set_ 20 (.bool true)).set_ 17 (.slice none 0 0), h.ring.touch tg (fun e => ?_) (fun e => ?_), h.tail.of_type tg (hS _ (by decide)), h.ctl.of_type tg (hS _ (by decide)), Win.nil_ _ _ _, h.bytes, ?_, h.apart⟩, tg⟩
  · exact h.blk.ne_ q1 (by decide) e.symm
  · exact h.blk.ne_ q2 (by decide) e.symm
  · intro x hx
    exact h.good x (by simp at hx ⊢; exact .inl hx)
theorem ctlF_good (op : Int) (h : 0 ≤ op ∧ op ≤ 15) (d : ByteArray) (hd : d.size ≤ maxLen) : (ctlF op d).good := fr_good _ _ h _ hd
section
variable {w : World} {g : Nat} {k : Lk} {L : Lg} {V : LV}
set_option maxHeartbeats 6400000 in
set_option maxRecDepth 100000 in
theorem l_ping_no (h : IsL w g k L V) (d : ByteArray) (hd : d.size ≤ maxLen) (hno : L.sent = true ∨ L.got = true ∨ L.wrong ≠ 0 ∨ 125 < d.size) :
    Calls Tryz.prog 73 #[.pointer (some ⟨g, 0, none⟩), .string d] w fun e w' => e = .returned (.bool false) ∧ w = w' := by
  unfold maxLen at hd
  have hb := h.out.blk
  have c1 := hb.cell 20
  have c2 := hb.cell 21
  have c3 := hb.cell 22
  simp [lgCells] at c1 c2 c3
  obtain ⟨s, hs⟩ : ∃ s, s = L.sent := ⟨_, rfl⟩
  obtain ⟨t, ht⟩ : ∃ s, s = L.got := ⟨_, rfl⟩
  obtain ⟨e, he⟩ : ∃ s, s = L.wrong := ⟨_, rfl⟩
  rw [← hs] at c1 hno
  rw [← ht] at c2 hno
  rw [← he] at c3 hno
  clear hb h hs ht he
  rcases s with _ | _
  · rcases t with _ | _
    · by_cases h3 : e = 0
      · subst h3
        have h4 : (125 : Int) < d.size := by simp at hno; omega
        clear hno
        go_enter Tryz.func73, Tryz.ntmps73
        go_wp2_with fail
        go_ret
        exact ⟨rfl, rfl⟩
      · clear hno
        go_enter Tryz.func73, Tryz.ntmps73
        go_wp2_with fail
        go_ret
        exact ⟨rfl, rfl⟩
    · clear hno
      go_enter Tryz.func73, Tryz.ntmps73
      go_wp2_with fail
      go_ret
      exact ⟨rfl, rfl⟩
  · clear hno
    go_enter Tryz.func73, Tryz.ntmps73
    go_wp2_with fail
    go_ret
    exact ⟨rfl, rfl⟩
set_option maxHeartbeats 6400000 in
set_option maxRecDepth 100000 in
theorem l_ping_ok (h : IsL w g k L V) (d : ByteArray) (hs : L.sent = false) (ht : L.got = false) (he : L.wrong = 0) (hd : d.size ≤ 125) (hn : L.o.ctl.length ≤ 1000000) :
    Calls Tryz.prog 73 #[.pointer (some ⟨g, 0, none⟩), .string d] w fun e w' => e = .returned (.bool true) ∧ (∃ V', IsL w' g k (L.ctl k (ctlF 9 d)) V' ∧ LLoc w V V') ∧ Touch (LF g k V) w w' := by
  have hb := h.out.blk
  have c1 := hb.cell 20
  have c2 := hb.cell 21
  have c3 := hb.cell 22
  obtain ⟨i, hi, hz0, hz1, hz2⟩ := info_parts info_fr
  obtain ⟨A, cc, hv, -⟩ := h.out.ctl.cases
  have c4 := hb.cell 16
  have f4 := hb.frozen 16
  have glt := hb.lt
  simp [lgCells] at c1 c2 c3 c4
  rw [hs] at c1
  rw [ht] at c2
  rw [he] at c3
  rw [hv] at c4
  have H := Lib.hid h
  have HVC := Lib.hid hv
  obtain ⟨n, hN⟩ : ∃ n, n = L.o.ctl.length := ⟨_, rfl⟩
  rw [← hN] at c4 hn HVC
  have HN := Lib.hid hN
  have hdi : (d.size : Int) ≤ 125 := by omega
  have HRN : Hid (Rd (w.alloc (.cells (Fr.cl (ctlF 9 d)).toArray 42)) (some ⟨w.heap.size, 0, none⟩) (Fr.cl (ctlF 9 d))) := Rd.new w _ 42 (0, 0)
  have HFO : Hid (∀ u ∈ Fr.cl (ctlF 9 d), u.oneCell' = true) := by have := frs_one [ctlF 9 d]; rw [frs_single] at this; exact this
  have HWN : Hid (Win (w.alloc (.cells (Fr.cl (ctlF 9 d)).toArray 42)) 42 8 (.slice A n cc) n (frs L.o.ctl)) := by
    have := h.out.ctl.no ((Touch.refl NoS w).alloc (.cells (Fr.cl (ctlF 9 d)).toArray 42))
    rw [hv] at this
    rw [← hN] at this
    exact this
  clear hb h hs ht he hv hN
  go_enter Tryz.func73, Tryz.ntmps73
  go_wp2_with (at_builtin; refine wpList_app_win _ rfl (.tmp 31) (.tmp 34) 51 rfl 42 i _ 8 40 Tryz.underlying51 hi hz0 hz1 hz2 rfl (by decide) (.slice A n cc) n (frs L.o.ctl) rfl HWN.out ⟨w.heap.size, 0, none⟩ 1 1 (Fr.cl (ctlF 9 d)) rfl rfl (rd_cells_ HRN.out _ rfl) HFO.out (by unfold maxLen; omega) (by omega) ?_)
  intro v5 w5 hw5 ht5 hl5
  obtain ⟨A5, cc5, hv5, -⟩ := hw5.cases
  subst hv5
  have hta : Touch NoS w (w.alloc (.cells (Fr.cl (ctlF 9 d)).toArray 42)) := (Touch.refl _ _).alloc _
  obtain ⟨F1, F2, F3, f16, gl5, k16⟩ := (H.out.out.no hta).ctl_ (f := ctlF 9 d) H.out.cr (by rw [HVC.out]; exact ht5) (by rw [← HN.out]; exact hw5) (by rw [HVC.out]; exact hl5) (ctlF_good 9 (by omega) d (by unfold maxLen; omega))
  have G1 := Lib.hid F1
  have G2 := Lib.hid ((hta.of_no (S := OA g k V.vc)).trans F2)
  have G3 := Lib.hid F3
  have G4 : Hid (Loc w V.vc (.slice A5 (n + 1) cc5)) := by
    rw [HVC.out]
    exact (Loc.refl w _).trans hl5 hta.size
  rw [HVC.out] at k16
  clear F1 F2 F3 hw5 ht5 hl5 hta HWN HRN HFO
  go_wp2_with fail
  refine (l_move g k _ _ _ _ _ _ _ _ G1.out).mono ?_
  rintro e w6 ⟨vt6, vc6, vr6, rfl, ho6, lt6, lc6, lr6, ht6⟩
  have HR := Lib.hid (H.out.moved G2.out (Loc.refl _ _) G4.out (Loc.refl _ _) G3.out ho6 lt6 lc6 lr6 ht6)
  clear ho6 lt6 lc6 lr6 ht6
  go_wp2_with fail
  go_ret
  obtain ⟨V', r1, r2, r3⟩ := HR.out
  exact ⟨rfl, ⟨V', r1, r2⟩, r3⟩
set_option maxHeartbeats 6400000 in
set_option maxRecDepth 100000 in
theorem l_close_no (h : IsL w g k L V) (code : Int) (s : ByteArray) (hd : s.size ≤ maxLen) (hno : L.sent = true ∨ (cput code s).2 ≠ 0) :
    Calls Tryz.prog 70 #[.pointer (some ⟨g, 0, none⟩), .int .i64 code, .string s] w fun e w' => e = .returned (.bool false) ∧ Touch NoS w w' := by
  have HP := Lib.hid (fun W => c_put code s hd W)
  obtain ⟨R, hR⟩ : ∃ R, R = cput code s := ⟨_, rfl⟩
  rw [← hR] at HP hno
  clear hR
  obtain ⟨R1, R2⟩ := R
  simp only at HP hno
  obtain ⟨t, ht⟩ : ∃ s, s = L.sent := ⟨_, rfl⟩
  rw [← ht] at hno
  have HT := Lib.hid ht
  have H := Lib.hid h
  clear h ht
  go_enter Tryz.func70, Tryz.ntmps70
  go_wp2_with fail
  refine (HP.out _).mono ?_
  rintro e w1 ⟨rfl, ht⟩
  have hb := H.out.out.blk.touch ht (fun h => h)
  have c1 := hb.cell 20
  simp [lgCells] at c1
  rw [← HT.out] at c1
  have HT1 := Lib.hid ht
  clear ht hb
  rcases t with _ | _
  · have h3 : R2 ≠ 0 := by simpa using hno
    clear hno
    go_wp2_with fail
    go_ret
    exact ⟨rfl, HT1.out⟩
  · clear hno
    go_wp2_with fail
    go_ret
    exact ⟨rfl, HT1.out⟩
set_option maxHeartbeats 6400000 in
set_option maxRecDepth 100000 in
theorem l_close_ok (h : IsL w g k L V) (code : Int) (s : ByteArray) (hd : s.size ≤ maxLen) (hs : L.sent = false) (d : ByteArray) (hp : cput code s = (d, 0)) (hdz : d.size ≤ maxLen) (hn : L.o.ctl.length ≤ 1000000) :
    Calls Tryz.prog 70 #[.pointer (some ⟨g, 0, none⟩), .int .i64 code, .string s] w fun e w' => e = .returned (.bool true) ∧ (∃ V', IsL w' g k (({ L with sent := true, o := { L.o with rest := [] } } : Lg).ctl k (ctlF 8 d)) V' ∧ LLoc w V V') ∧ Touch (LF g k V) w w' := by
  have HP := Lib.hid (fun W => c_put code s hd W)
  rw [hp] at HP
  simp only at HP
  obtain ⟨i, hi, hz0, hz1, hz2⟩ := info_parts info_fr
  obtain ⟨A, cc, hv, -⟩ := h.out.ctl.cases
  have H := Lib.hid h
  have HVC := Lib.hid hv
  obtain ⟨n, hN⟩ : ∃ n, n = L.o.ctl.length := ⟨_, rfl⟩
  rw [← hN] at hn HVC
  have HN := Lib.hid hN
  have HS := Lib.hid hs
  have HFO : Hid (∀ u ∈ Fr.cl (ctlF 8 d), u.oneCell' = true) := by have := frs_one [ctlF 8 d]; rw [frs_single] at this; exact this
  clear h hs hv hN hp
  go_enter Tryz.func70, Tryz.ntmps70
  go_wp2_with fail
  refine (HP.out _).mono ?_
  rintro e w1 ⟨rfl, ht⟩
  have hb := H.out.out.blk.touch ht (fun h => h)
  have c1 := hb.cell 20
  have c4 := hb.cell 16
  have c17 := hb.cell 17
  have f20 := hb.frozen 20
  have f17 := hb.frozen 17
  have glt := hb.lt
  simp [lgCells] at c1 c4 c17
  rw [HS.out] at c1
  rw [HVC.out] at c4
  have HT1 := Lib.hid ht
  obtain ⟨E1, E2⟩ := (H.out.out.no ht).end_
  have hta : Touch NoS ((w1.setCell ⟨g, 20, none⟩ (.bool true)).setCell ⟨g, 17, none⟩ (.slice none 0 0)) (((w1.setCell ⟨g, 20, none⟩ (.bool true)).setCell ⟨g, 17, none⟩ (.slice none 0 0)).alloc (.cells (Fr.cl (ctlF 8 d)).toArray 42)) := (Touch.refl _ _).alloc _
  have HTA := Lib.hid hta
  have HE1 := Lib.hid (E1.no hta)
  have HE2 := Lib.hid E2
  have HRN : Hid (Rd (((w1.setCell ⟨g, 20, none⟩ (.bool true)).setCell ⟨g, 17, none⟩ (.slice none 0 0)).alloc (.cells (Fr.cl (ctlF 8 d)).toArray 42)) (some ⟨w1.heap.size, 0, none⟩) (Fr.cl (ctlF 8 d))) := by
    have := Rd.new ((w1.setCell ⟨g, 20, none⟩ (.bool true)).setCell ⟨g, 17, none⟩ (.slice none 0 0)) (Fr.cl (ctlF 8 d)) 42 (0, 0)
    rw [show ((w1.setCell ⟨g, 20, none⟩ (.bool true)).setCell ⟨g, 17, none⟩ (.slice none 0 0)).heap.size = w1.heap.size from by simp] at this
    exact this
  have HWN : Hid (Win (((w1.setCell ⟨g, 20, none⟩ (.bool true)).setCell ⟨g, 17, none⟩ (.slice none 0 0)).alloc (.cells (Fr.cl (ctlF 8 d)).toArray 42)) 42 8 (.slice A n cc) n (frs L.o.ctl)) := by
    have := HE1.out.ctl
    rw [HVC.out] at this
    rw [show (({ L.o with rest := [] } : Ou).ctl.length) = n from HN.out.symm] at this
    exact this
  clear ht hb E1 E2 hta
  go_wp2_with (at_builtin; refine wpList_app_win _ rfl (.tmp 33) (.tmp 36) 51 rfl 42 i _ 8 40 Tryz.underlying51 hi hz0 hz1 hz2 rfl (by decide) (.slice A n cc) n (frs L.o.ctl) rfl HWN.out ⟨w1.heap.size, 0, none⟩ 1 1 (Fr.cl (ctlF 8 d)) rfl rfl (rd_cells_ HRN.out _ rfl) HFO.out (by unfold maxLen; omega) (by omega) ?_)
  intro v5 w5 hw5 ht5 hl5
  obtain ⟨A5, cc5, hv5, -⟩ := hw5.cases
  subst hv5
  obtain ⟨F1, F2, F3, f16, gl5, k16⟩ := HE1.out.ctl_ (f := ctlF 8 d) (vr := .slice none 0 0) (fun b _ h => by cases h) (by rw [HVC.out]; exact ht5) (by rw [show (({ L.o with rest := [] } : Ou).ctl.length) = n from HN.out.symm]; exact hw5) (by rw [HVC.out]; exact hl5) (ctlF_good 8 (by omega) d hdz)
  have G1 := Lib.hid F1
  have hts : Touch (OA g k V.vc) w (((w1.setCell ⟨g, 20, none⟩ (.bool true)).setCell ⟨g, 17, none⟩ (.slice none 0 0)).alloc (.cells (Fr.cl (ctlF 8 d)).toArray 42)) := ((HT1.out.of_no (S := OA g k V.vc)).trans (HE2.out.mono fun i hi => Or.inl (Or.inl hi))).trans HTA.out.of_no
  have G2 := Lib.hid (hts.trans F2)
  have G3 := Lib.hid F3
  have G4 : Hid (Loc w V.vc (.slice A5 (n + 1) cc5)) := by
    rw [HVC.out]
    exact (Loc.refl w _).trans hl5 hts.size
  rw [HVC.out] at k16
  clear F1 F2 F3 hw5 ht5 hl5 hts HWN HRN HFO HE1 HE2 HTA
  go_wp2_with fail
  refine (l_move g k _ _ _ _ _ _ _ _ G1.out).mono ?_
  rintro e w6 ⟨vt6, vc6, vr6, rfl, ho6, lt6, lc6, lr6, ht6⟩
  have HR := Lib.hid (H.out.moved G2.out (Loc.refl _ _) G4.out (Loc.nil_ _ _) G3.out ho6 lt6 lc6 lr6 ht6)
  clear ho6 lt6 lc6 lr6 ht6
  go_wp2_with fail
  go_ret
  obtain ⟨V', r1, r2, r3⟩ := HR.out
  exact ⟨rfl, ⟨V', r1, r2⟩, r3⟩
end
end Go.Proofs.YtlnabpoohnphiaaGreat
