/- leg: pong. | close: Code; ref11: Code. -/
import Derived.Test.YtlnabpoohnphiaaGreatB20
import Derived.Test.YtlnabpoohnphiaaGreatB13
/- leg: pong. -/
namespace Go.Proofs.YtlnabpoohnphiaaGreat
open Go.RowKit
set_option linter.unusedSimpArgs false
set_option linter.unusedVariables false

/-- Where the first pong stands. -/
def pidx (l : List Fr) : Nat := (l.takeWhile (fun f => f.op != 10)).length
def pidxv (l : List Fr) : Int := if pidx l < l.length then (pidx l : Int) else -1
def setD (l : List Fr) (i : Nat) (d : ByteArray) : List Fr := l.modify i (fun f => { f with data := d })
def ponged (l : List Fr) (d : ByteArray) : List Fr := if pidx l < l.length then setD l (pidx l) d else l ++ [ctlF 10 d]
def Lg.pong (k : Lk) (L : Lg) (d : ByteArray) : Lg := if L.sent = true then L else { L with o := ({ L.o with ctl := ponged L.o.ctl d } : Ou).move k.out k.masks }
theorem pidx_pre : ∀ (l : List Fr) (k : Nat) (hk : k < l.length), (∀ j (hj : j < l.length), j < k → l[j].op ≠ 10) → l[k].op = 10 → pidx l = k := by
  intro l
  induction l with
  | nil => intro k hk; exact absurd hk (by simp)
  | cons f l ih =>
    intro k hk hj he
    rcases k with _ | k
    · simp at he
      simp [pidx, he]
    · have h0 := hj 0 (by simp) (by omega)
      simp at h0
      have := ih k (by simpa using hk) (fun j hj2 hjk => by have := hj (j + 1) (by simpa using hj2) (by omega); simpa using this) (by simpa using he)
      simp [pidx, h0] at this ⊢
      exact this
theorem pidx_none : ∀ (l : List Fr), (∀ j (hj : j < l.length), l[j].op ≠ 10) → pidx l = l.length := by
  intro l
  induction l with
  | nil => intro _; rfl
  | cons f l ih =>
    intro hj
    have h0 := hj 0 (by simp)
    simp at h0
    have := ih (fun j hj2 => by have := hj (j + 1) (by simpa using hj2); simpa using this)
    simp [pidx, h0] at this ⊢
    exact this
theorem frs_setD : ∀ (l : List Fr) (i : Nat), i < l.length → ∀ d, frs (setD l i d) = (frs l).set (i * 8 + 7) (.string d) := by
  intro l
  induction l with
  | nil => intro i hi; exact absurd hi (by simp)
  | cons f l ih =>
    intro i hi d
    rcases i with _ | i
    · simp [setD, frs, Fr.cl]
    · have := ih i (by simpa using hi) d
      simp only [setD, List.modify_succ_cons] at this ⊢
      rw [show frs (f :: l.modify i (fun f => { f with data := d })) = Fr.cl f ++ frs (l.modify i (fun f => { f with data := d })) from by simp [frs], this, show frs (f :: l) = Fr.cl f ++ frs l from by simp [frs]]
      rw [show (i + 1) * 8 + 7 = (Fr.cl f).length + (i * 8 + 7) from by simp [Fr.cl]; omega]
      rw [List.set_append_right _ _ (by omega)]
      congr 2
      omega
theorem setD_last : ∀ (l : List Fr) (f : Fr) (d : ByteArray), setD (l ++ [f]) l.length d = l ++ [{ f with data := d }] := by
  intro l
  induction l with
  | nil => intro f d; rfl
  | cons a l ih =>
    intro f d
    have := ih f d
    simp only [setD, List.cons_append, List.length_cons, List.modify_succ_cons] at this ⊢
    rw [this]
theorem Win.set_ {w : World} {e : TypeId} {size n c b off : Nat} {xs : List Value} (h : Win w e size (.slice (some ⟨b, off, none⟩) n c) n xs) (j : Nat) (hj : j < xs.length) (u : Value) : Win (w.setCell ⟨b, off + j, none⟩ u) e size (.slice (some ⟨b, off, none⟩) n c) n (xs.set j u) := by
  refine ⟨by rw [List.length_set]; exact h.1, .inr ?_⟩
  rcases h.2 with ⟨hv, _⟩ | ⟨g', off', c', cs, hv, hb, h1, h2, h3, h4⟩
  · cases hv
  · injection hv with e1 _ e3
    injection e1 with e1
    injection e1 with e1 e2
    subst e1 e2 e3
    refine ⟨_, _, _, _, rfl, hb.set_ (off + j) u, h1, h2, by simpa using h3, ?_⟩
    rw [Array.toList_setIfInBounds, List.drop_set, if_neg (by omega), show off + j - off = j from by omega, List.take_set, h4]
theorem OutH.data_ {w : World} {g : Nat} {k : Lk} {o : Ou} {sent got : Bool} {wrong : Int} {vt vr : Value} {b off n c : Nat} (h : OutH w g k o sent got wrong vt (.slice (some ⟨b, off, none⟩) n c) vr) (ha : Apart (.slice (some ⟨b, off, none⟩) n c) vr) (hn : n = o.ctl.length) (i : Nat) (hi : i < o.ctl.length) (d : ByteArray) (hd : d.size ≤ maxLen) :
    OutH (w.setCell ⟨b, off + i * 8 + 7, none⟩ (.string d)) g k { o with ctl := setD o.ctl i d } sent got wrong vt (.slice (some ⟨b, off, none⟩) n c) vr ∧ Touch (OA g k (.slice (some ⟨b, off, none⟩) n c)) w (w.setCell ⟨b, off + i * 8 + 7, none⟩ (.string d)) := by
  rw [Nat.add_assoc]
  obtain ⟨c1, c2, q1, q2⟩ := h.ring.blk
  obtain ⟨c3, q3⟩ := h.ctl.type (b := b) rfl
  have tb : Touch (At b) w (w.setCell ⟨b, off + (i * 8 + 7), none⟩ (.string d)) := (Touch.refl (At b) w).setAt _ _
  have hT : ∀ (t : TypeId) (cs : Array Value) (x : Nat), Blk w x t cs → t ≠ 42 → ¬ At b x := by
    intro t cs x hx t1 hS
    exact hx.ne_ q3 t1 hS
  have hl : (setD o.ctl i d).length = o.ctl.length := by simp [setD]
  have hc := h.ctl
  rw [← hn] at hc
  refine ⟨⟨h.blk.touch tb (hT _ _ _ h.blk (by decide)), h.ring.touch tb (hT _ _ _ q1 (by decide)) (hT _ _ _ q2 (by decide)), h.tail.touch tb fun x hx => ?_, ?_, h.rest.touch tb fun x hx hS => ?_, h.bytes, ?_, h.apart⟩, tb.mono fun x hx => Or.inr (by rw [show x = b from hx]; rfl)⟩
  · obtain ⟨cs, hc⟩ := h.tail.type hx
    exact hT _ _ _ hc (by decide)
  · show Win _ _ 8 _ (setD o.ctl i d).length (frs (setD o.ctl i d))
    rw [hl, ← hn, frs_setD _ _ hi]
    exact hc.set_ _ (by rw [frs_length]; omega) _
  · exact ha b rfl (by rw [← show x = b from hS]; exact hx)
  · intro x hx
    simp only [List.mem_append] at hx
    rcases hx with hx | hx
    · obtain ⟨j, hj, rfl⟩ := List.getElem_of_mem hx
      have hj2 : j < o.ctl.length := by rw [← hl]; exact hj
      have hg := h.good o.ctl[j] (List.mem_append.2 (.inl (List.getElem_mem hj2)))
      simp only [setD, List.getElem_modify]
      split
      · exact ⟨hg.1, hg.2.1, hd⟩
      · exact hg
    · exact h.good x (List.mem_append.2 (.inr hx))
set_option maxHeartbeats 3200000 in
set_option maxRecDepth 100000 in
theorem l_isp (f : Fr) (w : World) : Calls Tryz.prog 128 #[.agg f.cs] w fun e w' => e = .returned (.bool (f.op == 10)) ∧ Touch NoS w w' := by
  obtain ⟨fin, op, masked, k0, k1, k2, k3, data⟩ := f
  simp only [Fr.cs]
  go_enter Tryz.func128, Tryz.ntmps128
  go_wp2_with fail
  go_ret
  exact ⟨rfl, (Touch.refl _ _).alloc _⟩
set_option maxHeartbeats 6400000 in
set_option maxRecDepth 100000 in
theorem l_idx (A : Option Addr) (l : List Fr) (n cap : Nat) (hn : l.length = n) (w : World) (hr : Rd w A (frs l)) (hl : n ≤ 1000000) :
    Calls Tryz.prog 127 #[.slice A n cap, .func (.func 128) #[] #[]] w fun e w' => e = .returned (.int .i64 (pidxv l)) ∧ Touch NoS w w' := by
  have HR := Lib.hid hr
  have HL := Lib.hid hn
  clear hr hn
  go_enter Tryz.func127, Tryz.ntmps127
  go_wp2_with fail
  go_loopw [8] (fun i wr => ∃ k : Nat, k ≤ n ∧ i = .int .i64 k ∧ Hid (∀ j (hj : j < l.length), j < k → l[j].op ≠ 10) ∧ Touch NoS w wr) (fun i _ => n - (intOf i).toNat)
  case atStart => exact ⟨0, by omega, rfl, fun j h h2 => by omega, Touch.refl _ _⟩
  case round =>
    obtain ⟨k, hk, rfl, HP, ht⟩ := hrel
    have HT := Lib.hid ht
    by_cases hlt : k < n
    · have hkl : k < l.length := by rw [HL.out]; exact hlt
      obtain ⟨g, off, rfl, hg, c0, c1, c2, c3, c4, c5, c6, c7⟩ := fr_cells (HR.out.touch_no ht) k hkl
      have HE := Lib.hid (l_isp l[k])
      have HPK : Hid (∀ j (hj : j < l.length), j < k → l[j].op ≠ 10) := HP
      obtain ⟨f, hf⟩ : ∃ f, f = l[k] := ⟨_, rfl⟩
      rw [← hf] at c0 c1 c2 c3 c4 c5 c6 c7 HE
      have HF := Lib.hid hf
      obtain ⟨fin, op, masked, k0, k1, k2, k3, data⟩ := f
      simp only [Fr.cs] at HE
      clear ht hf
      go_wp2_with fail
      refine (HE.out _).mono ?_
      rintro e w2 ⟨rfl, ht2⟩
      have HT2 := Lib.hid (HT.out.trans ht2)
      clear ht2 c0 c1 c2 c3 c4 c5 c6 c7
      by_cases he : op = 10
      · subst he
        go_wp2_with fail
        go_ret
        have e1 := pidx_pre l k (by rw [HL.out]; exact hlt) HPK.out (by rw [← HF.out])
        refine ⟨?_, HT2.out⟩
        unfold pidxv
        rw [e1, if_pos (by rw [HL.out]; exact hlt)]
        rfl
      · have he' : (op == 10) = false := by rw [beq_eq_false_iff_ne]; exact he
        have HNE := Lib.hid he
        rw [he']
        clear he he'
        go_wp2_with fail
        go_roundw
        · refine ⟨k + 1, by omega, by go_num, ?_, HT2.out⟩
          intro j hj h
          by_cases hjk : j = k
          · subst hjk; rw [← HF.out]; exact HNE.out
          · exact HPK.out j hj (by omega)
        · simp [intOf]; omega
    · have hkn : k = n := by omega
      subst hkn
      have HPK : Hid (∀ j (hj : j < l.length), j < k → l[j].op ≠ 10) := HP
      clear ht HP
      go_wp2_with fail
      go_ret
      refine ⟨?_, HT.out⟩
      unfold pidxv
      rw [pidx_none l (fun j hj => HPK.out j hj (by rw [← HL.out]; exact hj)), if_neg (by omega)]
      rfl
section
variable {w : World} {g : Nat} {k : Lk} {L : Lg} {V : LV}
set_option maxHeartbeats 6400000 in
set_option maxRecDepth 100000 in
theorem l_pong_no (h : IsL w g k L V) (d : ByteArray) (hs : L.sent = true) :
    Calls Tryz.prog 106 #[.pointer (some ⟨g, 0, none⟩), .string d] w fun e w' => e = .returned (.tuple #[]) ∧ w = w' := by
  have hb := h.out.blk
  have c1 := hb.cell 20
  simp [lgCells] at c1
  rw [hs] at c1
  clear hb h hs
  go_enter Tryz.func106, Tryz.ntmps106
  go_wp2_with fail
  refine bodyPost_ret (results_none rfl _ _ _) rfl ?_
  exact ⟨rfl, rfl⟩
set_option maxHeartbeats 6400000 in
set_option maxRecDepth 100000 in
theorem l_pong_set (h : IsL w g k L V) (d : ByteArray) (hd : d.size ≤ maxLen) (hs : L.sent = false) (hn : L.o.ctl.length ≤ 1000000) (p : Nat) (hp : pidx L.o.ctl = p) (hpl : p < L.o.ctl.length) :
    Calls Tryz.prog 106 #[.pointer (some ⟨g, 0, none⟩), .string d] w fun e w' => e = .returned (.tuple #[]) ∧ (∃ V', IsL w' g k { L with o := ({ L.o with ctl := setD L.o.ctl p d } : Ou).move k.out k.masks } V' ∧ LLoc w V V') ∧ Touch (LF g k V) w w' := by
  have hb := h.out.blk
  have c1 := hb.cell 20
  have c4 := hb.cell 16
  obtain ⟨A, cc, hv, hcc, hcm, hrd, -, -⟩ := h.out.ctl.cases
  obtain ⟨b, off, rfl, hbl, d0, d1, d2, d3, d4, d5, d6, d7⟩ := fr_cells hrd p hpl
  simp [lgCells] at c1 c4
  rw [hs] at c1
  rw [hv] at c4
  have H := Lib.hid h
  have HVC := Lib.hid hv
  obtain ⟨n, hN⟩ : ∃ n, n = L.o.ctl.length := ⟨_, rfl⟩
  have HIX := Lib.hid (fun W => l_idx (some ⟨b, off, none⟩) L.o.ctl n cc hN.symm W)
  unfold pidxv at HIX
  rw [hp, if_pos hpl] at HIX
  have HRD := Lib.hid hrd
  rw [← hN] at c4 hn HVC hpl hcc
  have HN := Lib.hid hN
  clear hs hv hN hrd
  go_enter Tryz.func106, Tryz.ntmps106
  clear hb h
  go_wp2_with fail
  refine (HIX.out _ HRD.out hn).mono ?_
  rintro e w1 ⟨rfl, ht⟩
  have hb1 := H.out.out.blk.touch ht (fun h => h)
  have d7 := ht.cell d7
  have k16 := hb1.cell 16
  obtain ⟨cs1, hc1⟩ := (H.out.out.no ht).ctl.type (b := b) (by rw [HVC.out]; rfl)
  have fr := hc1.frozen (off + p * 8 + 7)
  have gl1 := hc1.lt
  simp [lgCells] at k16
  rw [HVC.out] at k16
  have hpi : (p : Int) < n := by omega
  have HT := Lib.hid ht
  clear ht hb1 hc1 d0 d1 d2 d3 d4 d5 d6 c1 c4 HIX
  have hov := H.out.out.no HT.out
  have hap := H.out.cr
  rw [HVC.out] at hov hap
  obtain ⟨F1, F2⟩ := hov.data_ (k := k) hap HN.out p (by rw [← HN.out]; exact hpl) d hd
  have G1 := Lib.hid F1
  have G2 : Hid (Touch (OA g k V.vc) w (w1.setCell ⟨b, off + p * 8 + 7, none⟩ (.string d))) := by
    rw [HVC.out]
    exact (HT.out.of_no).trans F2
  have G3 := Lib.hid hap
  have G4 : Hid (Loc w V.vc (.slice (some ⟨b, off, none⟩) n cc)) := by rw [HVC.out]; exact Loc.refl _ _
  clear F1 F2 hov hap
  go_wp2_with fail
  refine (l_move g k _ _ _ _ _ _ _ _ G1.out).mono ?_
  rintro e w6 ⟨vt6, vc6, vr6, rfl, ho6, lt6, lc6, lr6, ht6⟩
  have HR := Lib.hid (H.out.moved G2.out (Loc.refl _ _) G4.out (Loc.refl _ _) G3.out ho6 lt6 lc6 lr6 ht6)
  clear ho6 lt6 lc6 lr6 ht6
  go_wp2_with fail
  go_end0
  obtain ⟨V', r1, r2, r3⟩ := HR.out
  exact ⟨rfl, ⟨V', r1, r2⟩, r3⟩
set_option maxHeartbeats 6400000 in
set_option maxRecDepth 100000 in
theorem l_pong_new (h : IsL w g k L V) (d : ByteArray) (hd : d.size ≤ maxLen) (hs : L.sent = false) (hn : L.o.ctl.length ≤ 1000000) (hp : ¬ pidx L.o.ctl < L.o.ctl.length) :
    Calls Tryz.prog 106 #[.pointer (some ⟨g, 0, none⟩), .string d] w fun e w' => e = .returned (.tuple #[]) ∧ (∃ V', IsL w' g k (L.ctl k (ctlF 10 d)) V' ∧ LLoc w V V') ∧ Touch (LF g k V) w w' := by
  have hb := h.out.blk
  have c1 := hb.cell 20
  have c4 := hb.cell 16
  obtain ⟨i, hi, hz0, hz1, hz2⟩ := info_parts info_fr
  obtain ⟨A, cc, hv, hcc, hcm, hrd, -, -⟩ := h.out.ctl.cases
  simp [lgCells] at c1 c4
  rw [hs] at c1
  rw [hv] at c4
  have H := Lib.hid h
  have HVC := Lib.hid hv
  obtain ⟨n, hN⟩ : ∃ n, n = L.o.ctl.length := ⟨_, rfl⟩
  have HIX := Lib.hid (fun W => l_idx A L.o.ctl n cc hN.symm W)
  unfold pidxv at HIX
  rw [if_neg hp] at HIX
  have HRD := Lib.hid hrd
  rw [← hN] at c4 hn HVC hcc
  have HN := Lib.hid hN
  have HFO : Hid (∀ u ∈ Fr.cl (ctlF 10 ⟨#[]⟩), u.oneCell' = true) := by have := frs_one [ctlF 10 ⟨#[]⟩]; rw [frs_single] at this; exact this
  clear hs hv hN hrd hp
  go_enter Tryz.func106, Tryz.ntmps106
  clear hb h
  go_wp2_with fail
  refine (HIX.out _ HRD.out hn).mono ?_
  rintro e w1 ⟨rfl, ht⟩
  have hb1 := H.out.out.blk.touch ht (fun h => h)
  have k16 := hb1.cell 16
  have gl1 := hb1.lt
  simp [lgCells] at k16
  rw [HVC.out] at k16
  have HT := Lib.hid ht
  have hta : Touch NoS w1 (w1.alloc (.cells (Fr.cl (ctlF 10 ⟨#[]⟩)).toArray 42)) := (Touch.refl _ _).alloc _
  have HTA := Lib.hid hta
  have HE1 := Lib.hid ((H.out.out.no ht).no hta)
  have HRN : Hid (Rd (w1.alloc (.cells (Fr.cl (ctlF 10 ⟨#[]⟩)).toArray 42)) (some ⟨w1.heap.size, 0, none⟩) (Fr.cl (ctlF 10 ⟨#[]⟩))) := Rd.new w1 _ 42 (0, 0)
  have HWN : Hid (Win (w1.alloc (.cells (Fr.cl (ctlF 10 ⟨#[]⟩)).toArray 42)) 42 8 (.slice A n cc) n (frs L.o.ctl)) := by
    have := HE1.out.ctl
    rw [HVC.out] at this
    rw [← HN.out] at this
    exact this
  clear ht hb1 c1 c4 HIX hta
  go_wp2_with (at_builtin; refine wpList_app_win _ rfl (.tmp 20) (.tmp 22) 51 rfl 42 i _ 8 40 Tryz.underlying51 hi hz0 hz1 hz2 rfl (by decide) (.slice A n cc) n (frs L.o.ctl) rfl HWN.out ⟨w1.heap.size, 0, none⟩ 1 1 (Fr.cl (ctlF 10 ⟨#[]⟩)) rfl rfl (rd_cells_ HRN.out _ rfl) HFO.out (by unfold maxLen; omega) (by omega) ?_)
  intro v5 w5 hw5 ht5 hl5
  obtain ⟨A5, cc5, hv5, hcc5, -, hrd5, -, -⟩ := hw5.cases
  subst hv5
  obtain ⟨F1, F2, F3, f16, gl5, k165⟩ := HE1.out.ctl_ (f := ctlF 10 ⟨#[]⟩) H.out.cr (by rw [HVC.out]; exact ht5) (by rw [← HN.out]; exact hw5) (by rw [HVC.out]; exact hl5) (ctlF_good 10 (by omega) _ (by unfold maxLen; decide))
  rw [HVC.out] at k165
  have hln : (L.o.ctl ++ [ctlF 10 ⟨#[]⟩]).length = n + 1 := by rw [List.length_append, ← HN.out]; rfl
  obtain ⟨b, off, rfl, hbl, -, -, -, -, -, -, -, d7x⟩ := fr_cells (w := w5) (l := L.o.ctl ++ [ctlF 10 ⟨#[]⟩]) (A := A5) (by rw [frs_append, frs_single]; exact hrd5) n (by omega)
  obtain ⟨sx, d7⟩ : ∃ sx, w5.cell? ⟨b, off + n * 8 + 7, none⟩ = some (.string sx) := ⟨_, d7x⟩
  clear d7x
  have hbg : b ≠ g := fun e => by
    obtain ⟨cs, hc⟩ := hw5.type (b := b) rfl
    obtain ⟨cs2, hc2⟩ := F1.ctl.type (b := b) rfl
    exact (Blk.ne_ hc2 F1.blk (by decide)) e
  have fr5 : (w5.setCell ⟨g, 16, none⟩ (.slice (some ⟨b, off, none⟩) (n + 1) cc5)).frozen? ⟨b, off + n * 8 + 7, none⟩ = false := by
    obtain ⟨cs2, hc2⟩ := F1.ctl.type (b := b) rfl
    exact hc2.frozen _
  have hbl5 : b < w5.heap.size := hbl
  obtain ⟨J1, J2⟩ := F1.data_ (k := k) F3 (by show n + 1 = (L.o.ctl ++ [ctlF 10 ⟨#[]⟩]).length; omega) n (by show n < (L.o.ctl ++ [ctlF 10 ⟨#[]⟩]).length; omega) d hd
  have hsd : setD (L.o.ctl ++ [ctlF 10 ⟨#[]⟩]) n d = L.o.ctl ++ [ctlF 10 d] := by
    rw [HN.out, setD_last]
    rfl
  have hts : Touch (OA g k V.vc) w (w1.alloc (.cells (Fr.cl (ctlF 10 ⟨#[]⟩)).toArray 42)) := (HT.out.trans HTA.out).of_no
  have G1 : Hid (OutH ((w5.setCell ⟨g, 16, none⟩ (.slice (some ⟨b, off, none⟩) (n + 1) cc5)).setCell ⟨b, off + n * 8 + 7, none⟩ (.string d)) g k { L.o with ctl := L.o.ctl ++ [ctlF 10 d] } L.sent L.got L.wrong V.vt (.slice (some ⟨b, off, none⟩) (n + 1) cc5) V.vr) := by
    have := J1
    simp only [hsd] at this
    exact this
  have hlc : Loc w V.vc (.slice (some ⟨b, off, none⟩) (n + 1) cc5) := by
    rw [HVC.out]
    exact (Loc.refl w _).trans hl5 hts.size
  have G2 : Hid (Touch (OA g k V.vc) w ((w5.setCell ⟨g, 16, none⟩ (.slice (some ⟨b, off, none⟩) (n + 1) cc5)).setCell ⟨b, off + n * 8 + 7, none⟩ (.string d))) := by
    refine (hts.trans F2).trans' J2 fun x hx hS => ?_
    rcases hS with hS | hS
    · exact Or.inl hS
    · rcases hlc x hS with h | h
      · exact Or.inr h
      · omega
  have G3 := Lib.hid F3
  have G4 := Lib.hid hlc
  have hnn : (n : Int) < (n : Int) + 1 := by omega
  clear F1 F2 F3 J1 J2 hw5 ht5 hl5 hts hlc HWN HRN HFO HE1 HTA hrd5 hsd hln
  go_wp2_with fail
  refine (l_move g k _ _ _ _ _ _ _ _ G1.out).mono ?_
  rintro e w6 ⟨vt6, vc6, vr6, rfl, ho6, lt6, lc6, lr6, ht6⟩
  have HR := Lib.hid (H.out.moved G2.out (Loc.refl _ _) G4.out (Loc.refl _ _) G3.out ho6 lt6 lc6 lr6 ht6)
  clear ho6 lt6 lc6 lr6 ht6
  go_wp2_with fail
  go_end0
  obtain ⟨V', r1, r2, r3⟩ := HR.out
  exact ⟨rfl, ⟨V', r1, r2⟩, r3⟩
end
end Go.Proofs.YtlnabpoohnphiaaGreat
/- close: Code; ref11: Code. -/
namespace Go.Proofs.YtlnabpoohnphiaaGreat
open Go.RowKit
set_option linter.unusedSimpArgs false
set_option linter.unusedVariables false

def i64s (l : List Int) : List Value := l.map (Value.int .i64)
/-- Where the first x of l lies; -1: nowhere. -/
def idx11 (x : Int) (l : List Int) : Int := if x ∈ l then ((l.takeWhile (fun y => y != x)).length : Int) else -1
theorem takeWhile_pre (x : Int) : ∀ (l : List Int) (k : Nat), k < l.length → (∀ j, j < k → l.getD j 0 ≠ x) → l.getD k 0 = x → (l.takeWhile (fun y => y != x)).length = k ∧ x ∈ l := by
  intro l
  induction l with
  | nil => intro k hk; exact absurd hk (by simp)
  | cons a t ih =>
    intro k hk hj hx
    cases k with
    | zero =>
      have ha : a = x := hx
      subst ha
      simp
    | succ k =>
      have ha : a ≠ x := hj 0 (by omega)
      have hne : (a != x) = true := by rw [bne_iff_ne]; exact ha
      obtain ⟨i1, i2⟩ := ih k (by simpa using hk) (fun j h => by have := hj (j + 1) (by omega); simpa using this) (by simpa using hx)
      refine ⟨?_, List.mem_cons_of_mem _ i2⟩
      rw [List.takeWhile_cons, hne]
      simp [i1]
theorem none_pre (x : Int) (l : List Int) (hj : ∀ j, j < l.length → l.getD j 0 ≠ x) : x ∉ l := by
  intro h
  obtain ⟨j, hl, he⟩ := List.getElem_of_mem h
  exact hj j hl (by rw [List.getD_eq_getElem?_getD, List.getElem?_eq_getElem hl]; exact he)

set_option maxHeartbeats 1600000 in
set_option maxRecDepth 100000 in
theorem s_index (A : Option Addr) (l : List Int) (n cap : Nat) (hn : l.length = n) (x : Int) (w : World) (hr : Rd w A (i64s l)) (hl : n ≤ 1000000) :
    Calls Tryz.prog 152 #[.slice A n cap, .int .i64 x] w fun e w' => e = .returned (.int .i64 (idx11 x l)) ∧ w = w' := by
  have HR := Lib.hid hr
  have HL := Lib.hid hn
  clear hr hn
  go_enter Tryz.func152, Tryz.ntmps152
  go_wp2_with fail
  go_loopw [8] (fun i wr => ∃ k : Nat, k ≤ n ∧ i = .int .i64 k ∧ (∀ j, j < k → l.getD j 0 ≠ x) ∧ wr = w) (fun i _ => n - (intOf i).toNat)
  case atStart => exact ⟨0, by omega, rfl, fun j h => by omega, rfl⟩
  case round =>
    obtain ⟨k, hk, rfl, hp, rfl⟩ := hrel
    have HP := Lib.hid hp
    clear hp
    by_cases hlt : k < n
    · obtain ⟨y, hy⟩ : ∃ y, y = l.getD k 0 := ⟨_, rfl⟩
      have hkl : k < l.length := by rw [HL.out]; exact hlt
      obtain ⟨g, off, rfl, hg, hc⟩ := HR.out (by intro h; have := congrArg List.length h; simp [i64s] at this; rw [this] at hkl; simp at hkl)
      have c0 : wr.cell? ⟨g, off + k, none⟩ = some (.int .i64 y) := by
        apply hc
        rw [i64s, List.getElem?_map, List.getElem?_eq_getElem hkl, hy, List.getD_eq_getElem?_getD, List.getElem?_eq_getElem hkl]
        rfl
      have HY := Lib.hid hy
      clear hy hc hkl
      by_cases he : x = y
      · subst he
        go_wp2
        go_ret
        obtain ⟨e1, e2⟩ := takeWhile_pre x l k (by rw [HL.out]; exact hlt) HP.out HY.out.symm
        refine ⟨?_, rfl⟩
        unfold idx11
        rw [if_pos e2, e1]
        rfl
      · have he' : (x == y) = false := by rw [beq_eq_false_iff_ne]; exact he
        have HE := Lib.hid he
        go_wp2
        go_roundw
        · refine ⟨k + 1, by omega, by go_num, fun j h => ?_, by first | trivial | rfl⟩
          by_cases hjk : j = k
          · subst hjk; rw [← HY.out]; exact fun h => HE.out h.symm
          · exact HP.out j (by omega)
        · simp [intOf]; omega
    · have hkn : k = n := by omega
      subst hkn
      go_wp2
      go_ret
      refine ⟨?_, rfl⟩
      unfold idx11
      rw [if_neg (none_pre x l (fun j h => HP.out j (by rw [← HL.out]; exact h)))]
      rfl

set_option maxRecDepth 100000 in
theorem s_contains (A : Option Addr) (l : List Int) (n cap : Nat) (hn : l.length = n) (x : Int) (w : World) (hr : Rd w A (i64s l)) (hl : n ≤ 1000000) :
    Calls Tryz.prog 145 #[.slice A n cap, .int .i64 x] w fun e w' => e = .returned (.bool (decide (x ∈ l))) ∧ w = w' := by
  have HI := Lib.hid (s_index A l n cap hn x w hr hl)
  by_cases h : x ∈ l
  · rw [decide_eq_true h]
    rw [show idx11 x l = ((l.takeWhile (fun y => y != x)).length : Int) from if_pos h] at HI
    obtain ⟨k, hk⟩ : ∃ k, k = (l.takeWhile (fun y => y != x)).length := ⟨_, rfl⟩
    rw [← hk] at HI
    clear hk hr hn h
    go_enter Tryz.func145, Tryz.ntmps145
    go_wp2_with fail
    refine HI.out.mono ?_
    rintro e w1 ⟨rfl, rfl⟩
    go_wp2
    go_ret
    exact ⟨rfl, rfl⟩
  · rw [decide_eq_false h]
    rw [show idx11 x l = -1 from if_neg h] at HI
    clear hr hn h
    go_enter Tryz.func145, Tryz.ntmps145
    go_wp2_with fail
    refine HI.out.mono ?_
    rintro e w1 ⟨rfl, rfl⟩
    go_wp2
    go_ret
    exact ⟨rfl, rfl⟩

set_option maxRecDepth 100000 in
theorem c_one (A : Option Addr) (l : List Int) (n cap : Nat) (hn : l.length = n) (x : Int) (w : World) (hr : Rd w A (i64s l)) (hl : n ≤ 1000000) :
    Calls Tryz.prog 130 #[.int .i64 x, .slice A n cap] w fun e w' => e = .returned (.bool (decide (x ∈ l))) ∧ w = w' := by
  have HI := Lib.hid (s_contains A l n cap hn x w hr hl)
  obtain ⟨b, hb⟩ : ∃ b, b = decide (x ∈ l) := ⟨_, rfl⟩
  rw [← hb] at HI ⊢
  clear hr hn hb
  go_enter Tryz.func130, Tryz.ntmps130
  go_wp2_with fail
  refine HI.out.mono ?_
  rintro e w1 ⟨rfl, rfl⟩
  go_wp2
  go_ret
  exact ⟨rfl, rfl⟩

set_option maxRecDepth 100000 in
theorem c_is (A : Option Addr) (l : List Int) (n cap : Nat) (hn : l.length = n) (x : Int) (g : Nat) (w : World) (hr : Rd w A (i64s l)) (hl : n ≤ 1000000) (hb : Blk w g 32 #[.int .i64 x]) :
    Calls Tryz.prog 129 #[.slice A n cap, .pointer (some ⟨g, 0, none⟩)] w fun e w' => e = .returned (.bool (decide (x ∈ l))) ∧ w = w' := by
  have HI := Lib.hid (c_one A l n cap hn x w hr hl)
  obtain ⟨b, hb'⟩ : ∃ b, b = decide (x ∈ l) := ⟨_, rfl⟩
  rw [← hb'] at HI ⊢
  have b0 := hb.cell 0
  simp at b0
  have hlt := hb.lt
  clear hr hn hb hb'
  go_enter Tryz.func129, Tryz.ntmps129
  go_wp2_with fail
  refine HI.out.mono ?_
  rintro e w1 ⟨rfl, rfl⟩
  go_wp2
  go_ret
  exact ⟨rfl, rfl⟩

/-- By which code one ends. -/
def code11 (e : Int) : Int := if e ∈ [0] then 1000 else if e ∈ [91, 100, 110, 120] then 1002 else if e ∈ [111, 122] then 1007 else if e ∈ [92, 121] then 1009 else 1011
theorem code11_valid (e : Int) : valid11 (code11 e) = true := by
  unfold code11
  split
  · decide
  split
  · decide
  split
  · decide
  split
  · decide
  · decide

set_option maxHeartbeats 3200000 in
set_option maxRecDepth 100000 in
theorem c_code (x : Int) (w : World) : Calls Tryz.prog 107 #[.int .i64 x] w fun e w' => e = .returned (.int .i64 (code11 x)) ∧ Touch NoS w w' := by
  have hmf : ∀ (fn : Fn) (first cap : Array Value) (w : World), (Instr.makeFunc fn first cap).run Tryz.prog w = .ok (.func fn first cap) w := fun _ _ _ _ => rfl
  have hb0 : Blk (w.alloc (.cells #[.int .i64 x] 32)) w.heap.size 32 #[.int .i64 x] := Blk.new _ _ _
  have ht0 : Touch NoS w (w.alloc (.cells #[.int .i64 x] 32)) := (Touch.refl _ _).alloc _
  have HB := Lib.hid hb0
  have HT := Lib.hid ht0
  clear hb0 ht0
  have HI : Hid (∀ (W : World) (L : List Int) (b : Bool) (n g : Nat), g = W.heap.size → L.length = n → n ≤ 1000 → decide (x ∈ L) = b → Blk W w.heap.size 32 #[.int .i64 x] →
      Calls Tryz.prog 129 #[.slice (some ⟨g, 0, none⟩) n n, .pointer (some ⟨w.heap.size, 0, none⟩)] (W.alloc (.cells (i64s L).toArray 32)) fun e w' => e = .returned (.bool b) ∧ Blk w' w.heap.size 32 #[.int .i64 x] ∧ Touch NoS W w') := by
    intro W L b n g hg hn h1 hb hk
    subst hb hg
    refine (c_is _ L n n hn x _ _ (Rd.new W (i64s L) 32 (0, 0)) (by omega) (hk.alloc _)).mono ?_
    rintro e w' ⟨rfl, rfl⟩
    exact ⟨rfl, hk.alloc _, (Touch.refl _ _).alloc _⟩
  have hsz : (w.alloc (.cells #[.int .i64 x] 32)).heap.size = w.heap.size + 1 := by simp
  have HSZ := Lib.hid hsz.symm
  clear hsz
  obtain ⟨R, hR⟩ : ∃ R, R = code11 x := ⟨_, rfl⟩
  rw [← hR]
  unfold code11 at hR
  obtain ⟨b0, h0⟩ : ∃ b, b = decide (x ∈ ([0] : List Int)) := ⟨_, rfl⟩
  obtain ⟨b1, h1⟩ : ∃ b, b = decide (x ∈ ([91, 100, 110, 120] : List Int)) := ⟨_, rfl⟩
  obtain ⟨b2, h2⟩ : ∃ b, b = decide (x ∈ ([111, 122] : List Int)) := ⟨_, rfl⟩
  obtain ⟨b3, h3⟩ : ∃ b, b = decide (x ∈ ([92, 121] : List Int)) := ⟨_, rfl⟩
  have hR' : R = if b0 = true then 1000 else if b1 = true then 1002 else if b2 = true then 1007 else if b3 = true then 1009 else 1011 := by
    rw [h0, h1, h2, h3, hR]
    simp only [decide_eq_true_eq]
  have H0 := Lib.hid h0.symm
  have H1 := Lib.hid h1.symm
  have H2 := Lib.hid h2.symm
  have H3 := Lib.hid h3.symm
  have HRR := Lib.hid hR'
  clear hR hR' h0 h1 h2 h3
  go_enter Tryz.func107, Tryz.ntmps107
  go_wp2_with fail
  refine (HI.out (w.alloc (.cells #[.int .i64 x] 32)) [0] b0 1 _ HSZ.out rfl (by omega) H0.out HB.out).mono ?_
  rintro e w1 ⟨rfl, hb, ht⟩
  have HB1 := Lib.hid hb
  have HT1 := Lib.hid (HT.out.trans ht)
  clear hb ht HB HT HSZ
  cases b0 with
  | true =>
    have hR := HRR.out
    rw [if_pos rfl] at hR
    subst hR
    go_wp2
    go_ret
    exact ⟨rfl, HT1.out⟩
  | false =>
    go_wp2_with fail
    refine (HI.out w1 [91, 100, 110, 120] b1 4 _ rfl rfl (by omega) H1.out HB1.out).mono ?_
    rintro e w2 ⟨rfl, hb, ht⟩
    have HB2 := Lib.hid hb
    have HT2 := Lib.hid (HT1.out.trans ht)
    clear hb ht HB1 HT1
    cases b1 with
    | true =>
      have hR := HRR.out
      rw [if_neg (by simp), if_pos rfl] at hR
      subst hR
      go_wp2
      go_ret
      exact ⟨rfl, HT2.out⟩
    | false =>
      go_wp2_with fail
      refine (HI.out w2 [111, 122] b2 2 _ rfl rfl (by omega) H2.out HB2.out).mono ?_
      rintro e w3 ⟨rfl, hb, ht⟩
      have HB3 := Lib.hid hb
      have HT3 := Lib.hid (HT2.out.trans ht)
      clear hb ht HB2 HT2
      cases b2 with
      | true =>
        have hR := HRR.out
        rw [if_neg (by simp), if_neg (by simp), if_pos rfl] at hR
        subst hR
        go_wp2
        go_ret
        exact ⟨rfl, HT3.out⟩
      | false =>
        go_wp2_with fail
        refine (HI.out w3 [92, 121] b3 2 _ rfl rfl (by omega) H3.out HB3.out).mono ?_
        rintro e w4 ⟨rfl, hb, ht⟩
        have HT4 := Lib.hid (HT3.out.trans ht)
        clear hb ht HB3 HT3
        cases b3 with
        | true =>
          have hR := HRR.out
          rw [if_neg (by simp), if_neg (by simp), if_neg (by simp), if_pos rfl] at hR
          subst hR
          go_wp2
          go_ret
          exact ⟨rfl, HT4.out⟩
        | false =>
          have hR := HRR.out
          rw [if_neg (by simp), if_neg (by simp), if_neg (by simp), if_neg (by simp)] at hR
          subst hR
          go_wp2
          go_ret
          exact ⟨rfl, HT4.out⟩
end Go.Proofs.YtlnabpoohnphiaaGreat
