/- leg: pong. -/
import Derived.Test.YtpadlcllcmodaaaY35
/- leg: pong. -/
namespace Go.Proofs.Ytpadlcllcmodaaa
open Go.RowKit
set_option linter.unusedSimpArgs false
set_option linter.unusedVariables false

/-- Where the first pong stands. -/
def pidx (l : List Fr) : Nat := (l.takeWhile (fun f => f.op != 10)).length
def pidxv (l : List Fr) : Int := if pidx l < l.length then (pidx l : Int) else -1
def setD (l : List Fr) (i : Nat) (d : ByteArray) : List Fr := l.modify i (fun f => { f with data := d })
def ponged (l : List Fr) (d : ByteArray) : List Fr := if pidx l < l.length then setD l (pidx l) d else l ++ [ctlF 10 d]
def Lg.pong (k : Lk) (L : Lg) (d : ByteArray) : Lg := if L.sent = true then L else { L with o := ({ L.o with ctl := ponged L.o.ctl d } : Ou).move k.out k.masks }
theorem pidx_pre : ∀ (l : List Fr) (k : Nat) (hk : k < l.length), (∀ j (hj : j < l.length), j < k → l[j].op ≠ 10) → l[k].op = 10 → pidx l = k := by
  intro l
  induction l with
  | nil => intro k hk; exact absurd hk (by simp)
  | cons f l ih =>
    intro k hk hj he
    rcases k with _ | k
    · simp at he
      simp [pidx, he]
    · have h0 := hj 0 (by simp) (by omega)
      simp at h0
      have := ih k (by simpa using hk) (fun j hj2 hjk => by have := hj (j + 1) (by simpa using hj2) (by omega); simpa using this) (by simpa using he)
      simp [pidx, h0] at this ⊢
      exact this
theorem pidx_none : ∀ (l : List Fr), (∀ j (hj : j < l.length), l[j].op ≠ 10) → pidx l = l.length := by
  intro l
  induction l with
  | nil => intro _; rfl
  | cons f l ih =>
    intro hj
    have h0 := hj 0 (by simp)
    simp at h0
    have := ih (fun j hj2 => by have := hj (j + 1) (by simpa using hj2); simpa using this)
    simp [pidx, h0] at this ⊢
    exact this
theorem frs_setD : ∀ (l : List Fr) (i : Nat), i < l.length → ∀ d, frs (setD l i d) = (frs l).set (i * 8 + 7) (.string d) := by
  intro l
  induction l with
  | nil => intro i hi; exact absurd hi (by simp)
  | cons f l ih =>
    intro i hi d
    rcases i with _ | i
    · simp [setD, frs, Fr.cl]
    · have := ih i (by simpa using hi) d
      simp only [setD, List.modify_succ_cons] at this ⊢
      rw [show frs (f :: l.modify i (fun f => { f with data := d })) = Fr.cl f ++ frs (l.modify i (fun f => { f with data := d })) from by simp [frs], this, show frs (f :: l) = Fr.cl f ++ frs l from by simp [frs]]
      rw [show (i + 1) * 8 + 7 = (Fr.cl f).length + (i * 8 + 7) from by simp [Fr.cl]; omega]
      rw [List.set_append_right _ _ (by omega)]
      congr 2
      omega
theorem setD_last : ∀ (l : List Fr) (f : Fr) (d : ByteArray), setD (l ++ [f]) l.length d = l ++ [{ f with data := d }] := by
  intro l
  induction l with
  | nil => intro f d; rfl
  | cons a l ih =>
    intro f d
    have := ih f d
    simp only [setD, List.cons_append, List.length_cons, List.modify_succ_cons] at this ⊢
    rw [this]
theorem Win.set_ {w : World} {e : TypeId} {size n c b off : Nat} {xs : List Value} (h : Win w e size (.slice (some ⟨b, off, none⟩) n c) n xs) (j : Nat) (hj : j < xs.length) (u : Value) : Win (w.setCell ⟨b, off + j, none⟩ u) e size (.slice (some ⟨b, off, none⟩) n c) n (xs.set j u) := by
  refine ⟨by rw [List.length_set]; exact h.1, .inr ?_⟩
  rcases h.2 with ⟨hv, _⟩ | ⟨g', off', c', cs, hv, hb, h1, h2, h3, h4⟩
  · cases hv
  · injection hv with e1 _ e3
    injection e1 with e1
    injection e1 with e1 e2
    subst e1 e2 e3
    refine ⟨_, _, _, _, rfl, hb.set_ (off + j) u, h1, h2, by simpa using h3, ?_⟩
    rw [Array.toList_setIfInBounds, List.drop_set, if_neg (by omega), show off + j - off = j from by omega, List.take_set, h4]
theorem OutH.data_ {w : World} {g : Nat} {k : Lk} {o : Ou} {sent got : Bool} {wrong : Int} {vt vr : Value} {b off n c : Nat} (h : OutH w g k o sent got wrong vt (.slice (some ⟨b, off, none⟩) n c) vr) (ha : Apart (.slice (some ⟨b, off, none⟩) n c) vr) (hn : n = o.ctl.length) (i : Nat) (hi : i < o.ctl.length) (d : ByteArray) (hd : d.size ≤ maxLen) :
    OutH (w.setCell ⟨b, off + i * 8 + 7, none⟩ (.string d)) g k { o with ctl := setD o.ctl i d } sent got wrong vt (.slice (some ⟨b, off, none⟩) n c) vr ∧ Touch (OA g k (.slice (some ⟨b, off, none⟩) n c)) w (w.setCell ⟨b, off + i * 8 + 7, none⟩ (.string d)) := by
  rw [Nat.add_assoc]
  obtain ⟨c1, c2, q1, q2⟩ := h.ring.blk
  obtain ⟨c3, q3⟩ := h.ctl.type (b := b) rfl
  have tb : Touch (At b) w (w.setCell ⟨b, off + (i * 8 + 7), none⟩ (.string d)) := (Touch.refl (At b) w).setAt _ _
  have hT : ∀ (t : TypeId) (cs : Array Value) (x : Nat), Blk w x t cs → t ≠ 59 → ¬ At b x := by
    intro t cs x hx t1 hS
    exact hx.ne_ q3 t1 hS
  have hl : (setD o.ctl i d).length = o.ctl.length := by simp [setD]
  have hc := h.ctl
  rw [← hn] at hc
  refine ⟨⟨h.blk.touch tb (hT _ _ _ h.blk (by decide)), h.ring.touch tb (hT _ _ _ q1 (by decide)) (hT _ _ _ q2 (by decide)), h.tail.touch tb fun x hx => ?_, ?_, h.rest.touch tb fun x hx hS => ?_, h.bytes, ?_, h.apart⟩, tb.mono fun x hx => Or.inr (by rw [show x = b from hx]; rfl)⟩
  · obtain ⟨cs, hc⟩ := h.tail.type hx
    exact hT _ _ _ hc (by decide)
  · show Win _ _ 8 _ (setD o.ctl i d).length (frs (setD o.ctl i d))
    rw [hl, ← hn, frs_setD _ _ hi]
    exact hc.set_ _ (by rw [frs_length]; omega) _
  · exact ha b rfl (by rw [← show x = b from hS]; exact hx)
  · intro x hx
    simp only [List.mem_append] at hx
    rcases hx with hx | hx
    · obtain ⟨j, hj, rfl⟩ := List.getElem_of_mem hx
      have hj2 : j < o.ctl.length := by rw [← hl]; exact hj
      have hg := h.good o.ctl[j] (List.mem_append.2 (.inl (List.getElem_mem hj2)))
      simp only [setD, List.getElem_modify]
      split
      · exact ⟨hg.1, hg.2.1, hd⟩
      · exact hg
    · exact h.good x (List.mem_append.2 (.inr hx))
set_option maxHeartbeats 3200000 in
set_option maxRecDepth 100000 in
theorem l_isp (f : Fr) (w : World) : Calls Try.prog 71 #[.agg f.cs] w fun e w' => e = .returned (.bool (f.op == 10)) ∧ Touch NoS w w' := by
  obtain ⟨fin, op, masked, k0, k1, k2, k3, data⟩ := f
  simp only [Fr.cs]
  go_enter Try.func71, Try.ntmps71
  go_wp2_with fail
  go_ret
  exact ⟨rfl, (Touch.refl _ _).alloc _⟩
set_option maxHeartbeats 6400000 in
set_option maxRecDepth 100000 in
theorem l_idx (A : Option Addr) (l : List Fr) (n cap : Nat) (hn : l.length = n) (w : World) (hr : Rd w A (frs l)) (hl : n ≤ 1000000) :
    Calls Try.prog 70 #[.slice A n cap, .func (.func 71) #[] #[]] w fun e w' => e = .returned (.int .i64 (pidxv l)) ∧ Touch NoS w w' := by
  have HR := Lib.hid hr
  have HL := Lib.hid hn
  clear hr hn
  go_enter Try.func70, Try.ntmps70
  go_wp2_with fail
  go_loopw [8] (fun i wr => ∃ k : Nat, k ≤ n ∧ i = .int .i64 k ∧ Hid (∀ j (hj : j < l.length), j < k → l[j].op ≠ 10) ∧ Touch NoS w wr) (fun i _ => n - (intOf i).toNat)
  case atStart => exact ⟨0, by omega, rfl, fun j h h2 => by omega, Touch.refl _ _⟩
  case round =>
    obtain ⟨k, hk, rfl, HP, ht⟩ := hrel
    have HT := Lib.hid ht
    by_cases hlt : k < n
    · have hkl : k < l.length := by rw [HL.out]; exact hlt
      obtain ⟨g, off, rfl, hg, c0, c1, c2, c3, c4, c5, c6, c7⟩ := fr_cells (HR.out.touch_no ht) k hkl
      have HE := Lib.hid (l_isp l[k])
      have HPK : Hid (∀ j (hj : j < l.length), j < k → l[j].op ≠ 10) := HP
      obtain ⟨f, hf⟩ : ∃ f, f = l[k] := ⟨_, rfl⟩
      rw [← hf] at c0 c1 c2 c3 c4 c5 c6 c7 HE
      have HF := Lib.hid hf
      obtain ⟨fin, op, masked, k0, k1, k2, k3, data⟩ := f
      simp only [Fr.cs] at HE
      clear ht hf
      go_wp2_with fail
      refine (HE.out _).mono ?_
      rintro e w2 ⟨rfl, ht2⟩
      have HT2 := Lib.hid (HT.out.trans ht2)
      clear ht2 c0 c1 c2 c3 c4 c5 c6 c7
      by_cases he : op = 10
      · subst he
        go_wp2_with fail
        go_ret
        have e1 := pidx_pre l k (by rw [HL.out]; exact hlt) HPK.out (by rw [← HF.out])
        refine ⟨?_, HT2.out⟩
        unfold pidxv
        rw [e1, if_pos (by rw [HL.out]; exact hlt)]
        rfl
      · have he' : (op == 10) = false := by rw [beq_eq_false_iff_ne]; exact he
        have HNE := Lib.hid he
        rw [he']
        clear he he'
        go_wp2_with fail
        go_roundw
        · refine ⟨k + 1, by omega, by go_num, ?_, HT2.out⟩
          intro j hj h
          by_cases hjk : j = k
          · subst hjk; rw [← HF.out]; exact HNE.out
          · exact HPK.out j hj (by omega)
        · simp [intOf]; omega
    · have hkn : k = n := by omega
      subst hkn
      have HPK : Hid (∀ j (hj : j < l.length), j < k → l[j].op ≠ 10) := HP
      clear ht HP
      go_wp2_with fail
      go_ret
      refine ⟨?_, HT.out⟩
      unfold pidxv
      rw [pidx_none l (fun j hj => HPK.out j hj (by rw [← HL.out]; exact hj)), if_neg (by omega)]
      rfl
section
variable {w : World} {g : Nat} {k : Lk} {L : Lg} {V : LV}
set_option maxHeartbeats 6400000 in
set_option maxRecDepth 100000 in
theorem l_pong_no (h : IsL w g k L V) (d : ByteArray) (hs : L.sent = true) :
    Calls Try.prog 50 #[.pointer (some ⟨g, 0, none⟩), .string d] w fun e w' => e = .returned (.tuple #[]) ∧ w = w' := by
  have hb := h.out.blk
  have c1 := hb.cell 20
  simp [lgCells] at c1
  rw [hs] at c1
  clear hb h hs
  go_enter Try.func50, Try.ntmps50
  go_wp2_with fail
  refine bodyPost_ret (results_none rfl _ _ _) rfl ?_
  exact ⟨rfl, rfl⟩
set_option maxHeartbeats 6400000 in
set_option maxRecDepth 100000 in
theorem l_pong_set (h : IsL w g k L V) (d : ByteArray) (hd : d.size ≤ maxLen) (hs : L.sent = false) (hn : L.o.ctl.length ≤ 1000000) (p : Nat) (hp : pidx L.o.ctl = p) (hpl : p < L.o.ctl.length) :
    Calls Try.prog 50 #[.pointer (some ⟨g, 0, none⟩), .string d] w fun e w' => e = .returned (.tuple #[]) ∧ (∃ V', IsL w' g k { L with o := ({ L.o with ctl := setD L.o.ctl p d } : Ou).move k.out k.masks } V' ∧ LLoc w V V') ∧ Touch (LF g k V) w w' := by
  have hb := h.out.blk
  have c1 := hb.cell 20
  have c4 := hb.cell 16
  obtain ⟨A, cc, hv, hcc, hcm, hrd, -, -⟩ := h.out.ctl.cases
  obtain ⟨b, off, rfl, hbl, d0, d1, d2, d3, d4, d5, d6, d7⟩ := fr_cells hrd p hpl
  simp [lgCells] at c1 c4
  rw [hs] at c1
  rw [hv] at c4
  have H := Lib.hid h
  have HVC := Lib.hid hv
  obtain ⟨n, hN⟩ : ∃ n, n = L.o.ctl.length := ⟨_, rfl⟩
  have HIX := Lib.hid (fun W => l_idx (some ⟨b, off, none⟩) L.o.ctl n cc hN.symm W)
  unfold pidxv at HIX
  rw [hp, if_pos hpl] at HIX
  have HRD := Lib.hid hrd
  rw [← hN] at c4 hn HVC hpl hcc
  have HN := Lib.hid hN
  clear hs hv hN hrd
  go_enter Try.func50, Try.ntmps50
  clear hb h
  go_wp2_with fail
  refine (HIX.out _ HRD.out hn).mono ?_
  rintro e w1 ⟨rfl, ht⟩
  have hb1 := H.out.out.blk.touch ht (fun h => h)
  have d7 := ht.cell d7
  have k16 := hb1.cell 16
  obtain ⟨cs1, hc1⟩ := (H.out.out.no ht).ctl.type (b := b) (by rw [HVC.out]; rfl)
  have fr := hc1.frozen (off + p * 8 + 7)
  have gl1 := hc1.lt
  simp [lgCells] at k16
  rw [HVC.out] at k16
  have hpi : (p : Int) < n := by omega
  have HT := Lib.hid ht
  clear ht hb1 hc1 d0 d1 d2 d3 d4 d5 d6 c1 c4 HIX
  have hov := H.out.out.no HT.out
  have hap := H.out.cr
  rw [HVC.out] at hov hap
  obtain ⟨F1, F2⟩ := hov.data_ (k := k) hap HN.out p (by rw [← HN.out]; exact hpl) d hd
  have G1 := Lib.hid F1
  have G2 : Hid (Touch (OA g k V.vc) w (w1.setCell ⟨b, off + p * 8 + 7, none⟩ (.string d))) := by
    rw [HVC.out]
    exact (HT.out.of_no).trans F2
  have G3 := Lib.hid hap
  have G4 : Hid (Loc w V.vc (.slice (some ⟨b, off, none⟩) n cc)) := by rw [HVC.out]; exact Loc.refl _ _
  clear F1 F2 hov hap
  go_wp2_with fail
  refine (l_move g k _ _ _ _ _ _ _ _ G1.out).mono ?_
  rintro e w6 ⟨vt6, vc6, vr6, rfl, ho6, lt6, lc6, lr6, ht6⟩
  have HR := Lib.hid (H.out.moved G2.out (Loc.refl _ _) G4.out (Loc.refl _ _) G3.out ho6 lt6 lc6 lr6 ht6)
  clear ho6 lt6 lc6 lr6 ht6
  go_wp2_with fail
  go_end0
  obtain ⟨V', r1, r2, r3⟩ := HR.out
  exact ⟨rfl, ⟨V', r1, r2⟩, r3⟩
set_option maxHeartbeats 6400000 in
set_option maxRecDepth 100000 in
theorem l_pong_new (h : IsL w g k L V) (d : ByteArray) (hd : d.size ≤ maxLen) (hs : L.sent = false) (hn : L.o.ctl.length ≤ 1000000) (hp : ¬ pidx L.o.ctl < L.o.ctl.length) :
    Calls Try.prog 50 #[.pointer (some ⟨g, 0, none⟩), .string d] w fun e w' => e = .returned (.tuple #[]) ∧ (∃ V', IsL w' g k (L.ctl k (ctlF 10 d)) V' ∧ LLoc w V V') ∧ Touch (LF g k V) w w' := by
  have hb := h.out.blk
  have c1 := hb.cell 20
  have c4 := hb.cell 16
  obtain ⟨i, hi, hz0, hz1, hz2⟩ := info_parts info_fr
  obtain ⟨A, cc, hv, hcc, hcm, hrd, -, -⟩ := h.out.ctl.cases
  simp [lgCells] at c1 c4
  rw [hs] at c1
  rw [hv] at c4
  have H := Lib.hid h
  have HVC := Lib.hid hv
  obtain ⟨n, hN⟩ : ∃ n, n = L.o.ctl.length := ⟨_, rfl⟩
  have HIX := Lib.hid (fun W => l_idx A L.o.ctl n cc hN.symm W)
  unfold pidxv at HIX
  rw [if_neg hp] at HIX
  have HRD := Lib.hid hrd
  rw [← hN] at c4 hn HVC hcc
  have HN := Lib.hid hN
  have HFO : Hid (∀ u ∈ Fr.cl (ctlF 10 ⟨#[]⟩), u.oneCell' = true) := by have := frs_one [ctlF 10 ⟨#[]⟩]; rw [frs_single] at this; exact this
  clear hs hv hN hrd hp
  go_enter Try.func50, Try.ntmps50
  clear hb h
  go_wp2_with fail
  refine (HIX.out _ HRD.out hn).mono ?_
  rintro e w1 ⟨rfl, ht⟩
  have hb1 := H.out.out.blk.touch ht (fun h => h)
  have k16 := hb1.cell 16
  have gl1 := hb1.lt
  simp [lgCells] at k16
  rw [HVC.out] at k16
  have HT := Lib.hid ht
  have hta : Touch NoS w1 (w1.alloc (.cells (Fr.cl (ctlF 10 ⟨#[]⟩)).toArray 59)) := (Touch.refl _ _).alloc _
  have HTA := Lib.hid hta
  have HE1 := Lib.hid ((H.out.out.no ht).no hta)
  have HRN : Hid (Rd (w1.alloc (.cells (Fr.cl (ctlF 10 ⟨#[]⟩)).toArray 59)) (some ⟨w1.heap.size, 0, none⟩) (Fr.cl (ctlF 10 ⟨#[]⟩))) := Rd.new w1 _ 59 (0, 0)
  have HWN : Hid (Win (w1.alloc (.cells (Fr.cl (ctlF 10 ⟨#[]⟩)).toArray 59)) 59 8 (.slice A n cc) n (frs L.o.ctl)) := by
    have := HE1.out.ctl
    rw [HVC.out] at this
    rw [← HN.out] at this
    exact this
  clear ht hb1 c1 c4 HIX hta
  go_wp2_with (at_builtin; refine wpList_app_win _ rfl (.tmp 20) (.tmp 22) 54 rfl 59 i _ 8 40 Try.underlying54 hi hz0 hz1 hz2 rfl (by decide) (.slice A n cc) n (frs L.o.ctl) rfl HWN.out ⟨w1.heap.size, 0, none⟩ 1 1 (Fr.cl (ctlF 10 ⟨#[]⟩)) rfl rfl (rd_cells_ HRN.out _ rfl) HFO.out (by unfold maxLen; omega) (by omega) ?_)
  intro v5 w5 hw5 ht5 hl5
  obtain ⟨A5, cc5, hv5, hcc5, -, hrd5, -, -⟩ := hw5.cases
  subst hv5
  obtain ⟨F1, F2, F3, f16, gl5, k165⟩ := HE1.out.ctl_ (f := ctlF 10 ⟨#[]⟩) H.out.cr (by rw [HVC.out]; exact ht5) (by rw [← HN.out]; exact hw5) (by rw [HVC.out]; exact hl5) (ctlF_good 10 (by omega) _ (by unfold maxLen; decide))
  rw [HVC.out] at k165
  have hln : (L.o.ctl ++ [ctlF 10 ⟨#[]⟩]).length = n + 1 := by rw [List.length_append, ← HN.out]; rfl
  obtain ⟨b, off, rfl, hbl, -, -, -, -, -, -, -, d7x⟩ := fr_cells (w := w5) (l := L.o.ctl ++ [ctlF 10 ⟨#[]⟩]) (A := A5) (by rw [frs_append, frs_single]; exact hrd5) n (by omega)
  obtain ⟨sx, d7⟩ : ∃ sx, w5.cell? ⟨b, off + n * 8 + 7, none⟩ = some (.string sx) := ⟨_, d7x⟩
  clear d7x
  have hbg : b ≠ g := fun e => by
    obtain ⟨cs, hc⟩ := hw5.type (b := b) rfl
    obtain ⟨cs2, hc2⟩ := F1.ctl.type (b := b) rfl
    exact (Blk.ne_ hc2 F1.blk (by decide)) e
  have fr5 : (w5.setCell ⟨g, 16, none⟩ (.slice (some ⟨b, off, none⟩) (n + 1) cc5)).frozen? ⟨b, off + n * 8 + 7, none⟩ = false := by
    obtain ⟨cs2, hc2⟩ := F1.ctl.type (b := b) rfl
    exact hc2.frozen _
  have hbl5 : b < w5.heap.size := hbl
  obtain ⟨J1, J2⟩ := F1.data_ (k := k) F3 (by show n + 1 = (L.o.ctl ++ [ctlF 10 ⟨#[]⟩]).length; omega) n (by show n < (L.o.ctl ++ [ctlF 10 ⟨#[]⟩]).length; omega) d hd
  have hsd : setD (L.o.ctl ++ [ctlF 10 ⟨#[]⟩]) n d = L.o.ctl ++ [ctlF 10 d] := by
    rw [HN.out, setD_last]
    rfl
  have hts : Touch (OA g k V.vc) w (w1.alloc (.cells (Fr.cl (ctlF 10 ⟨#[]⟩)).toArray 59)) := (HT.out.trans HTA.out).of_no
  have G1 : Hid (OutH ((w5.setCell ⟨g, 16, none⟩ (.slice (some ⟨b, off, none⟩) (n + 1) cc5)).setCell ⟨b, off + n * 8 + 7, none⟩ (.string d)) g k { L.o with ctl := L.o.ctl ++ [ctlF 10 d] } L.sent L.got L.wrong V.vt (.slice (some ⟨b, off, none⟩) (n + 1) cc5) V.vr) := by
    have := J1
    simp only [hsd] at this
    exact this
  have hlc : Loc w V.vc (.slice (some ⟨b, off, none⟩) (n + 1) cc5) := by
    rw [HVC.out]
    exact (Loc.refl w _).trans hl5 hts.size
  have G2 : Hid (Touch (OA g k V.vc) w ((w5.setCell ⟨g, 16, none⟩ (.slice (some ⟨b, off, none⟩) (n + 1) cc5)).setCell ⟨b, off + n * 8 + 7, none⟩ (.string d))) := by
    refine (hts.trans F2).trans' J2 fun x hx hS => ?_
    rcases hS with hS | hS
    · exact Or.inl hS
    · rcases hlc x hS with h | h
      · exact Or.inr h
      · omega
  have G3 := Lib.hid F3
  have G4 := Lib.hid hlc
  have hnn : (n : Int) < (n : Int) + 1 := by omega
  clear F1 F2 F3 J1 J2 hw5 ht5 hl5 hts hlc HWN HRN HFO HE1 HTA hrd5 hsd hln
  go_wp2_with fail
  refine (l_move g k _ _ _ _ _ _ _ _ G1.out).mono ?_
  rintro e w6 ⟨vt6, vc6, vr6, rfl, ho6, lt6, lc6, lr6, ht6⟩
  have HR := Lib.hid (H.out.moved G2.out (Loc.refl _ _) G4.out (Loc.refl _ _) G3.out ho6 lt6 lc6 lr6 ht6)
  clear ho6 lt6 lc6 lr6 ht6
  go_wp2_with fail
  go_end0
  obtain ⟨V', r1, r2, r3⟩ := HR.out
  exact ⟨rfl, ⟨V', r1, r2⟩, r3⟩
end
end Go.Proofs.Ytpadlcllcmodaaa
