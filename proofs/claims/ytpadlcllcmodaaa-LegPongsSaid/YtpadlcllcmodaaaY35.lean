/- leg: Ping, Close. -/
import Derived.Test.YtpadlcllcmodaaaY34
/- leg: Ping, Close. -/
namespace Go.Proofs.Ytpadlcllcmodaaa
open Go.RowKit
set_option linter.unusedSimpArgs false
set_option linter.unusedVariables false

theorem rd_cells_ {w : World} {A : Option Addr} {xs : List Value} (h : Rd w A xs) : ∀ b, A = some b → ∀ j u, xs[j]? = some u → w.cell? (b.add j) = some u := fun b hb j u hu => by
  obtain ⟨g, off, he, _, hc⟩ := h (by rintro rfl; simp at hu)
  rw [hb] at he
  injection he with he
  subst he
  rw [add_plain]
  exact hc j u hu
/-- A control frame. -/
def ctlF (op : Int) (d : ByteArray) : Fr := ⟨true, op, false, 0, 0, 0, 0, d⟩
def Lg.ctl (k : Lk) (L : Lg) (f : Fr) : Lg := { L with o := ({ L.o with ctl := L.o.ctl ++ [f] } : Ou).move k.out k.masks }
def Lg.ping (k : Lk) (L : Lg) (d : ByteArray) : Lg × Bool :=
  if L.sent = true ∨ L.got = true ∨ L.wrong ≠ 0 ∨ 125 < d.size then (L, false) else (L.ctl k (ctlF 9 d), true)
def Lg.close (k : Lk) (L : Lg) (code : Int) (s : ByteArray) : Lg × Bool :=
  if L.sent = true ∨ (cput code s).2 ≠ 0 then (L, false) else (({ L with sent := true, o := { L.o with rest := [] } } : Lg).ctl k (ctlF 8 (cput code s).1), true)
theorem OutH.ctl_ {w : World} {g : Nat} {k : Lk} {o : Ou} {sent got : Bool} {wrong : Int} {vt vc vr : Value} (h : OutH w g k o sent got wrong vt vc vr) (ha : Apart vc vr) {w5 : World} (t : Touch (fun b => vc.ownBlock = some b) w w5) {v' : Value} {f : Fr}
    (hw : Win w5 59 8 v' (o.ctl.length + 1) (frs o.ctl ++ Fr.cl f)) (l : Loc w vc v') (hf : f.good) :
    OutH (w5.setCell ⟨g, 16, none⟩ v') g k { o with ctl := o.ctl ++ [f] } sent got wrong vt v' vr ∧ Touch (OA g k vc) w (w5.setCell ⟨g, 16, none⟩ v') ∧ Apart v' vr ∧ w5.frozen? ⟨g, 16, none⟩ = false ∧ g < w5.heap.size ∧ w5.cell? ⟨g, 16, none⟩ = some vc := by
  obtain ⟨c1, c2, q1, q2⟩ := h.ring.blk
  have hT : ∀ (t : TypeId) (cs : Array Value) (b : Nat), Blk w b t cs → t ≠ 59 → ¬ (vc.ownBlock = some b) := by
    intro t cs b hb t1 hS
    obtain ⟨cs', hc⟩ := h.ctl.type hS
    exact hb.ne_ hc t1 rfl
  have hb5 := h.blk.touch t (hT _ _ _ h.blk (by decide))
  have tg : Touch (At g) w5 (w5.setCell ⟨g, 16, none⟩ v') := (Touch.refl (At g) w5).setAt 16 v'
  have hS : ∀ (t : TypeId), t ≠ 71 → ∀ b, At g b → ∃ t' cs, Blk w5 b t' cs ∧ t ≠ t' := by
    rintro t ht b rfl
    exact ⟨_, _, hb5, ht⟩
  refine ⟨⟨by simpa [lgCells] using hb5.set_ 16 v', (h.ring.touch t (hT _ _ _ q1 (by decide)) (hT _ _ _ q2 (by decide))).touch tg (fun e => ?_) (fun e => ?_), ?_, ?_, ?_, h.bytes, ?_, h.apart⟩, ?_, ?_⟩
  · exact h.blk.ne_ q1 (by decide) e.symm
  · exact h.blk.ne_ q2 (by decide) e.symm
  · refine (h.tail.touch t fun b hb => ?_).of_type tg (hS _ (by decide))
    obtain ⟨cs, hc⟩ := h.tail.type hb
    exact hT _ _ _ hc (by decide)
  · have := hw.of_type tg (hS _ (by decide))
    simpa [frs_append, frs_single] using this
  · exact (h.rest.touch t fun b hb hS => ha b hS hb).of_type tg (hS _ (by decide))
  · intro x hx
    simp only [List.mem_append, List.mem_singleton] at hx
    rcases hx with (hx | hx) | hx
    · exact h.good x (List.mem_append.2 (.inl hx))
    · rw [hx]; exact hf
    · exact h.good x (List.mem_append.2 (.inr hx))
  · exact (t.mono fun i hi => Or.inr hi).trans (tg.mono fun i hi => Or.inl (Or.inl hi))
  · exact ⟨l.apart_l ha fun b hb => by
      obtain ⟨cs, hc⟩ := h.rest.type hb
      exact hc.lt, hb5.frozen 16, hb5.lt, by rw [hb5.cell 16]; simp [lgCells]⟩
theorem OutH.end_ {w : World} {g : Nat} {k : Lk} {o : Ou} {sent got : Bool} {wrong : Int} {vt vc vr : Value} (h : OutH w g k o sent got wrong vt vc vr) :
    OutH ((w.setCell ⟨g, 20, none⟩ (.bool true)).setCell ⟨g, 17, none⟩ (.slice none 0 0)) g k { o with rest := [] } true got wrong vt vc (.slice none 0 0) ∧ Touch (At g) w ((w.setCell ⟨g, 20, none⟩ (.bool true)).setCell ⟨g, 17, none⟩ (.slice none 0 0)) := by
  obtain ⟨c1, c2, q1, q2⟩ := h.ring.blk
  have tg : Touch (At g) w ((w.setCell ⟨g, 20, none⟩ (.bool true)).setCell ⟨g, 17, none⟩ (.slice none 0 0)) := ((Touch.refl (At g) w).setAt 20 _).setAt 17 _
  have hS : ∀ (t : TypeId), t ≠ 71 → ∀ b, At g b → ∃ t' cs, Blk w b t' cs ∧ t ≠ t' := by
    rintro t ht b rfl
    exact ⟨_, _, h.blk, ht⟩
  refine ⟨⟨by simpa [lgCells] using (h.blk.set_ 20 (.bool true)).set_ 17 (.slice none 0 0), h.ring.touch tg (fun e => ?_) (fun e => ?_), h.tail.of_type tg (hS _ (by decide)), h.ctl.of_type tg (hS _ (by decide)), Win.nil_ _ _ _, h.bytes, ?_, h.apart⟩, tg⟩
  · exact h.blk.ne_ q1 (by decide) e.symm
  · exact h.blk.ne_ q2 (by decide) e.symm
  · intro x hx
    exact h.good x (by simp at hx ⊢; exact .inl hx)
theorem ctlF_good (op : Int) (h : 0 ≤ op ∧ op ≤ 15) (d : ByteArray) (hd : d.size ≤ maxLen) : (ctlF op d).good := fr_good _ _ h _ hd
section
variable {w : World} {g : Nat} {k : Lk} {L : Lg} {V : LV}
set_option maxHeartbeats 6400000 in
set_option maxRecDepth 100000 in
theorem l_ping_no (h : IsL w g k L V) (d : ByteArray) (hd : d.size ≤ maxLen) (hno : L.sent = true ∨ L.got = true ∨ L.wrong ≠ 0 ∨ 125 < d.size) :
    Calls Try.prog 19 #[.pointer (some ⟨g, 0, none⟩), .string d] w fun e w' => e = .returned (.bool false) ∧ w = w' := by
  unfold maxLen at hd
  have hb := h.out.blk
  have c1 := hb.cell 20
  have c2 := hb.cell 21
  have c3 := hb.cell 22
  simp [lgCells] at c1 c2 c3
  obtain ⟨s, hs⟩ : ∃ s, s = L.sent := ⟨_, rfl⟩
  obtain ⟨t, ht⟩ : ∃ s, s = L.got := ⟨_, rfl⟩
  obtain ⟨e, he⟩ : ∃ s, s = L.wrong := ⟨_, rfl⟩
  rw [← hs] at c1 hno
  rw [← ht] at c2 hno
  rw [← he] at c3 hno
  clear hb h hs ht he
  rcases s with _ | _
  · rcases t with _ | _
    · by_cases h3 : e = 0
      · subst h3
        have h4 : (125 : Int) < d.size := by simp at hno; omega
        clear hno
        go_enter Try.func19, Try.ntmps19
        go_wp2_with fail
        go_ret
        exact ⟨rfl, rfl⟩
      · clear hno
        go_enter Try.func19, Try.ntmps19
        go_wp2_with fail
        go_ret
        exact ⟨rfl, rfl⟩
    · clear hno
      go_enter Try.func19, Try.ntmps19
      go_wp2_with fail
      go_ret
      exact ⟨rfl, rfl⟩
  · clear hno
    go_enter Try.func19, Try.ntmps19
    go_wp2_with fail
    go_ret
    exact ⟨rfl, rfl⟩
set_option maxHeartbeats 6400000 in
set_option maxRecDepth 100000 in
theorem l_ping_ok (h : IsL w g k L V) (d : ByteArray) (hs : L.sent = false) (ht : L.got = false) (he : L.wrong = 0) (hd : d.size ≤ 125) (hn : L.o.ctl.length ≤ 1000000) :
    Calls Try.prog 19 #[.pointer (some ⟨g, 0, none⟩), .string d] w fun e w' => e = .returned (.bool true) ∧ (∃ V', IsL w' g k (L.ctl k (ctlF 9 d)) V' ∧ LLoc w V V') ∧ Touch (LF g k V) w w' := by
  have hb := h.out.blk
  have c1 := hb.cell 20
  have c2 := hb.cell 21
  have c3 := hb.cell 22
  obtain ⟨i, hi, hz0, hz1, hz2⟩ := info_parts info_fr
  obtain ⟨A, cc, hv, -⟩ := h.out.ctl.cases
  have c4 := hb.cell 16
  have f4 := hb.frozen 16
  have glt := hb.lt
  simp [lgCells] at c1 c2 c3 c4
  rw [hs] at c1
  rw [ht] at c2
  rw [he] at c3
  rw [hv] at c4
  have H := Lib.hid h
  have HVC := Lib.hid hv
  obtain ⟨n, hN⟩ : ∃ n, n = L.o.ctl.length := ⟨_, rfl⟩
  rw [← hN] at c4 hn HVC
  have HN := Lib.hid hN
  have hdi : (d.size : Int) ≤ 125 := by omega
  have HRN : Hid (Rd (w.alloc (.cells (Fr.cl (ctlF 9 d)).toArray 59)) (some ⟨w.heap.size, 0, none⟩) (Fr.cl (ctlF 9 d))) := Rd.new w _ 59 (0, 0)
  have HFO : Hid (∀ u ∈ Fr.cl (ctlF 9 d), u.oneCell' = true) := by have := frs_one [ctlF 9 d]; rw [frs_single] at this; exact this
  have HWN : Hid (Win (w.alloc (.cells (Fr.cl (ctlF 9 d)).toArray 59)) 59 8 (.slice A n cc) n (frs L.o.ctl)) := by
    have := h.out.ctl.no ((Touch.refl NoS w).alloc (.cells (Fr.cl (ctlF 9 d)).toArray 59))
    rw [hv] at this
    rw [← hN] at this
    exact this
  clear hb h hs ht he hv hN
  go_enter Try.func19, Try.ntmps19
  go_wp2_with (at_builtin; refine wpList_app_win _ rfl (.tmp 31) (.tmp 34) 54 rfl 59 i _ 8 40 Try.underlying54 hi hz0 hz1 hz2 rfl (by decide) (.slice A n cc) n (frs L.o.ctl) rfl HWN.out ⟨w.heap.size, 0, none⟩ 1 1 (Fr.cl (ctlF 9 d)) rfl rfl (rd_cells_ HRN.out _ rfl) HFO.out (by unfold maxLen; omega) (by omega) ?_)
  intro v5 w5 hw5 ht5 hl5
  obtain ⟨A5, cc5, hv5, -⟩ := hw5.cases
  subst hv5
  have hta : Touch NoS w (w.alloc (.cells (Fr.cl (ctlF 9 d)).toArray 59)) := (Touch.refl _ _).alloc _
  obtain ⟨F1, F2, F3, f16, gl5, k16⟩ := (H.out.out.no hta).ctl_ (f := ctlF 9 d) H.out.cr (by rw [HVC.out]; exact ht5) (by rw [← HN.out]; exact hw5) (by rw [HVC.out]; exact hl5) (ctlF_good 9 (by omega) d (by unfold maxLen; omega))
  have G1 := Lib.hid F1
  have G2 := Lib.hid ((hta.of_no (S := OA g k V.vc)).trans F2)
  have G3 := Lib.hid F3
  have G4 : Hid (Loc w V.vc (.slice A5 (n + 1) cc5)) := by
    rw [HVC.out]
    exact (Loc.refl w _).trans hl5 hta.size
  rw [HVC.out] at k16
  clear F1 F2 F3 hw5 ht5 hl5 hta HWN HRN HFO
  go_wp2_with fail
  refine (l_move g k _ _ _ _ _ _ _ _ G1.out).mono ?_
  rintro e w6 ⟨vt6, vc6, vr6, rfl, ho6, lt6, lc6, lr6, ht6⟩
  have HR := Lib.hid (H.out.moved G2.out (Loc.refl _ _) G4.out (Loc.refl _ _) G3.out ho6 lt6 lc6 lr6 ht6)
  clear ho6 lt6 lc6 lr6 ht6
  go_wp2_with fail
  go_ret
  obtain ⟨V', r1, r2, r3⟩ := HR.out
  exact ⟨rfl, ⟨V', r1, r2⟩, r3⟩
set_option maxHeartbeats 6400000 in
set_option maxRecDepth 100000 in
theorem l_close_no (h : IsL w g k L V) (code : Int) (s : ByteArray) (hd : s.size ≤ maxLen) (hno : L.sent = true ∨ (cput code s).2 ≠ 0) :
    Calls Try.prog 20 #[.pointer (some ⟨g, 0, none⟩), .int .i64 code, .string s] w fun e w' => e = .returned (.bool false) ∧ Touch NoS w w' := by
  have HP := Lib.hid (fun W => c_put code s hd W)
  obtain ⟨R, hR⟩ : ∃ R, R = cput code s := ⟨_, rfl⟩
  rw [← hR] at HP hno
  clear hR
  obtain ⟨R1, R2⟩ := R
  simp only at HP hno
  obtain ⟨t, ht⟩ : ∃ s, s = L.sent := ⟨_, rfl⟩
  rw [← ht] at hno
  have HT := Lib.hid ht
  have H := Lib.hid h
  clear h ht
  go_enter Try.func20, Try.ntmps20
  go_wp2_with fail
  refine (HP.out _).mono ?_
  rintro e w1 ⟨rfl, ht⟩
  have hb := H.out.out.blk.touch ht (fun h => h)
  have c1 := hb.cell 20
  simp [lgCells] at c1
  rw [← HT.out] at c1
  have HT1 := Lib.hid ht
  clear ht hb
  rcases t with _ | _
  · have h3 : R2 ≠ 0 := by simpa using hno
    clear hno
    go_wp2_with fail
    go_ret
    exact ⟨rfl, HT1.out⟩
  · clear hno
    go_wp2_with fail
    go_ret
    exact ⟨rfl, HT1.out⟩
set_option maxHeartbeats 6400000 in
set_option maxRecDepth 100000 in
theorem l_close_ok (h : IsL w g k L V) (code : Int) (s : ByteArray) (hd : s.size ≤ maxLen) (hs : L.sent = false) (d : ByteArray) (hp : cput code s = (d, 0)) (hdz : d.size ≤ maxLen) (hn : L.o.ctl.length ≤ 1000000) :
    Calls Try.prog 20 #[.pointer (some ⟨g, 0, none⟩), .int .i64 code, .string s] w fun e w' => e = .returned (.bool true) ∧ (∃ V', IsL w' g k (({ L with sent := true, o := { L.o with rest := [] } } : Lg).ctl k (ctlF 8 d)) V' ∧ LLoc w V V') ∧ Touch (LF g k V) w w' := by
  have HP := Lib.hid (fun W => c_put code s hd W)
  rw [hp] at HP
  simp only at HP
  obtain ⟨i, hi, hz0, hz1, hz2⟩ := info_parts info_fr
  obtain ⟨A, cc, hv, -⟩ := h.out.ctl.cases
  have H := Lib.hid h
  have HVC := Lib.hid hv
  obtain ⟨n, hN⟩ : ∃ n, n = L.o.ctl.length := ⟨_, rfl⟩
  rw [← hN] at hn HVC
  have HN := Lib.hid hN
  have HS := Lib.hid hs
  have HFO : Hid (∀ u ∈ Fr.cl (ctlF 8 d), u.oneCell' = true) := by have := frs_one [ctlF 8 d]; rw [frs_single] at this; exact this
  clear h hs hv hN hp
  go_enter Try.func20, Try.ntmps20
  go_wp2_with fail
  refine (HP.out _).mono ?_
  rintro e w1 ⟨rfl, ht⟩
  have hb := H.out.out.blk.touch ht (fun h => h)
  have c1 := hb.cell 20
  have c4 := hb.cell 16
  have c17 := hb.cell 17
  have f20 := hb.frozen 20
  have f17 := hb.frozen 17
  have glt := hb.lt
  simp [lgCells] at c1 c4 c17
  rw [HS.out] at c1
  rw [HVC.out] at c4
  have HT1 := Lib.hid ht
  obtain ⟨E1, E2⟩ := (H.out.out.no ht).end_
  have hta : Touch NoS ((w1.setCell ⟨g, 20, none⟩ (.bool true)).setCell ⟨g, 17, none⟩ (.slice none 0 0)) (((w1.setCell ⟨g, 20, none⟩ (.bool true)).setCell ⟨g, 17, none⟩ (.slice none 0 0)).alloc (.cells (Fr.cl (ctlF 8 d)).toArray 59)) := (Touch.refl _ _).alloc _
  have HTA := Lib.hid hta
  have HE1 := Lib.hid (E1.no hta)
  have HE2 := Lib.hid E2
  have HRN : Hid (Rd (((w1.setCell ⟨g, 20, none⟩ (.bool true)).setCell ⟨g, 17, none⟩ (.slice none 0 0)).alloc (.cells (Fr.cl (ctlF 8 d)).toArray 59)) (some ⟨w1.heap.size, 0, none⟩) (Fr.cl (ctlF 8 d))) := by
    have := Rd.new ((w1.setCell ⟨g, 20, none⟩ (.bool true)).setCell ⟨g, 17, none⟩ (.slice none 0 0)) (Fr.cl (ctlF 8 d)) 59 (0, 0)
    rw [show ((w1.setCell ⟨g, 20, none⟩ (.bool true)).setCell ⟨g, 17, none⟩ (.slice none 0 0)).heap.size = w1.heap.size from by simp] at this
    exact this
  have HWN : Hid (Win (((w1.setCell ⟨g, 20, none⟩ (.bool true)).setCell ⟨g, 17, none⟩ (.slice none 0 0)).alloc (.cells (Fr.cl (ctlF 8 d)).toArray 59)) 59 8 (.slice A n cc) n (frs L.o.ctl)) := by
    have := HE1.out.ctl
    rw [HVC.out] at this
    rw [show (({ L.o with rest := [] } : Ou).ctl.length) = n from HN.out.symm] at this
    exact this
  clear ht hb E1 E2 hta
  go_wp2_with (at_builtin; refine wpList_app_win _ rfl (.tmp 33) (.tmp 36) 54 rfl 59 i _ 8 40 Try.underlying54 hi hz0 hz1 hz2 rfl (by decide) (.slice A n cc) n (frs L.o.ctl) rfl HWN.out ⟨w1.heap.size, 0, none⟩ 1 1 (Fr.cl (ctlF 8 d)) rfl rfl (rd_cells_ HRN.out _ rfl) HFO.out (by unfold maxLen; omega) (by omega) ?_)
  intro v5 w5 hw5 ht5 hl5
  obtain ⟨A5, cc5, hv5, -⟩ := hw5.cases
  subst hv5
  obtain ⟨F1, F2, F3, f16, gl5, k16⟩ := HE1.out.ctl_ (f := ctlF 8 d) (vr := .slice none 0 0) (fun b _ h => by cases h) (by rw [HVC.out]; exact ht5) (by rw [show (({ L.o with rest := [] } : Ou).ctl.length) = n from HN.out.symm]; exact hw5) (by rw [HVC.out]; exact hl5) (ctlF_good 8 (by omega) d hdz)
  have G1 := Lib.hid F1
  have hts : Touch (OA g k V.vc) w (((w1.setCell ⟨g, 20, none⟩ (.bool true)).setCell ⟨g, 17, none⟩ (.slice none 0 0)).alloc (.cells (Fr.cl (ctlF 8 d)).toArray 59)) := ((HT1.out.of_no (S := OA g k V.vc)).trans (HE2.out.mono fun i hi => Or.inl (Or.inl hi))).trans HTA.out.of_no
  have G2 := Lib.hid (hts.trans F2)
  have G3 := Lib.hid F3
  have G4 : Hid (Loc w V.vc (.slice A5 (n + 1) cc5)) := by
    rw [HVC.out]
    exact (Loc.refl w _).trans hl5 hts.size
  rw [HVC.out] at k16
  clear F1 F2 F3 hw5 ht5 hl5 hts HWN HRN HFO HE1 HE2 HTA
  go_wp2_with fail
  refine (l_move g k _ _ _ _ _ _ _ _ G1.out).mono ?_
  rintro e w6 ⟨vt6, vc6, vr6, rfl, ho6, lt6, lc6, lr6, ht6⟩
  have HR := Lib.hid (H.out.moved G2.out (Loc.refl _ _) G4.out (Loc.nil_ _ _) G3.out ho6 lt6 lc6 lr6 ht6)
  clear ho6 lt6 lc6 lr6 ht6
  go_wp2_with fail
  go_ret
  obtain ⟨V', r1, r2, r3⟩ := HR.out
  exact ⟨rfl, ⟨V', r1, r2⟩, r3⟩
end
end Go.Proofs.Ytpadlcllcmodaaa
