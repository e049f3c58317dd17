/- ref12: Same. | leg: Feed, in plain Lean. -/
import Derived.Test.YtpadlcllcmodaaaY29
import Derived.Test.YtpadlcllcmodaaaY39
import Derived.Deep.LoopGhost
/- ref12: Same. -/
namespace Go.Proofs.Ytpadlcllcmodaaa
open Go.RowKit
set_option linter.unusedSimpArgs false
set_option linter.unusedVariables false

theorem evCells_length (l : List Ev) : (evCells l).length = l.length * 3 := by
  induction l with
  | nil => rfl
  | cons e l ih => simp [evCells, Ev.cs] at ih ⊢; omega
theorem evCells_append (a b : List Ev) : evCells (a ++ b) = evCells a ++ evCells b := by simp [evCells]
theorem evCells_single (e : Ev) : evCells [e] = e.cs := by simp [evCells]
theorem evCells_one (l : List Ev) : ∀ u ∈ evCells l, u.oneCell' = true := by
  intro u hu
  simp only [evCells, List.mem_flatMap] at hu
  obtain ⟨e, _, hu⟩ := hu
  simp [Ev.cs] at hu
  rcases hu with rfl | rfl | rfl <;> rfl
theorem info_ev : (Try.prog.info? 47).map (fun i => (i.zero, i.size, i.bytes)) = some (some (.agg #[.int .i64 0, .int .i64 0, .string ⟨#[]⟩]), 3, 32) := by kernel_rfl
set_option maxHeartbeats 3200000 in
set_option maxRecDepth 100000 in
theorem r12_same (A B : Option Addr) (l m : List Ev) (n n' c c' : Nat) (hn : l.length = n) (hn' : m.length = n') (w : World) (ha : Rd w A (evCells l)) (hb : Rd w B (evCells m)) (hl : n ≤ 1000000) (hl' : n' ≤ 1000000) :
    Calls Try.prog 13 #[.slice A n c, .slice B n' c'] w fun e w' => e = .returned (.bool (decide (l = m))) ∧ Touch NoS w w' := by
  by_cases hnn : n = n'
  · subst hnn
    have HA := Lib.hid ha
    have HB := Lib.hid hb
    have HN := Lib.hid hn
    have HN' := Lib.hid hn'
    obtain ⟨R, hR⟩ : ∃ R, R = decide (l = m) := ⟨_, rfl⟩
    have HR := Lib.hid hR
    rw [← hR]
    clear ha hb hn hn' hR
    go_enter Try.func13, Try.ntmps13
    go_wp2_with fail
    go_loopw [5] (fun i wr => ∃ k : Nat, k ≤ n ∧ i = .int .i64 k ∧ Hid (l.take k = m.take k) ∧ Touch NoS w wr) (fun i _ => n - (intOf i).toNat)
    case atStart => exact ⟨0, by omega, rfl, rfl, Touch.refl _ _⟩
    case round =>
      obtain ⟨k, hk, rfl, he, ht⟩ := hrel
      have HE := Lib.hid he
      have HT := Lib.hid ht
      by_cases hlt : k < n
      · have hk1 : k < l.length := by rw [HN.out]; exact hlt
        have hk2 : k < m.length := by rw [HN'.out]; exact hlt
        obtain ⟨g, off, rfl, hg, a0, a1, a2⟩ := ev_cells (HA.out.touch_no ht) k hk1
        obtain ⟨g', off', rfl, hg', b0, b1, b2⟩ := ev_cells (HB.out.touch_no ht) k hk2
        have hts := take_succ_eq l m k hk1 hk2 he.out
        obtain ⟨f, hf⟩ : ∃ f, f = l[k] := ⟨_, rfl⟩
        obtain ⟨f', hf'⟩ : ∃ f, f = m[k] := ⟨_, rfl⟩
        rw [← hf] at a0 a1 a2 hts
        rw [← hf'] at b0 b1 b2 hts
        obtain ⟨b, hbb⟩ : ∃ b, b = f.same f' := ⟨_, rfl⟩
        have hneq := neq_ev_all f f' b hbb.symm
        have HTS : Hid (l.take (k + 1) = m.take (k + 1) ↔ b = true) := by
          show l.take (k + 1) = m.take (k + 1) ↔ b = true
          rw [hts, hbb, Ev.same_iff]
        obtain ⟨op, code, d⟩ := f
        obtain ⟨op', code', d'⟩ := f'
        clear he ht hk1 hk2 hts hf hf' hbb
        go_wp2_with fail
        go_quiet (fail)
        cases b with
        | true =>
          go_wp2_with fail
          go_roundw
          · exact ⟨k + 1, by omega, by go_num, HTS.out.2 rfl, HT.out.drewN _⟩
          · simp [intOf]; omega
        | false =>
          go_wp2
          go_ret
          refine ⟨?_, HT.out.drewN _⟩
          rw [HR.out, decide_eq_false (fun h => by have := HTS.out.1 (by rw [h]); cases this)]
          rfl
      · have hkn : k = n := by omega
        subst hkn
        clear he ht
        go_wp2
        go_ret
        refine ⟨?_, HT.out⟩
        have h := HE.out.out
        rw [List.take_of_length_le (by rw [HN.out]; exact Nat.le_refl _), List.take_of_length_le (by rw [HN'.out]; exact Nat.le_refl _)] at h
        rw [HR.out, decide_eq_true h]
        rfl
  · have hd : decide (l = m) = false := decide_eq_false (fun h => hnn (by rw [← hn, ← hn', h]))
    have hq : ((n : Int) != n') = true := by rw [bne_iff_ne]; omega
    have hq2 : ¬ (n : Int) = n' := by omega
    rw [hd]
    clear ha hb hn hn' hd
    go_enter Try.func13, Try.ntmps13
    go_wp2
    go_ret
    exact ⟨rfl, Touch.refl _ _⟩
end Go.Proofs.Ytpadlcllcmodaaa
/- leg: Feed, in plain Lean. -/
namespace Go.Proofs.Ytpadlcllcmodaaa
open Go.RowKit
set_option linter.unusedSimpArgs false
set_option linter.unusedVariables false

def Lg.down (L : Lg) : Bool := L.got || decide (L.wrong ≠ 0)
def feedStep (k : Lk) (s : Lg × List Ev × Bool) (f : Fr) : Lg × List Ev × Bool :=
  if s.2.2 = true then s else ((s.1.takeF k f).1, (if (s.1.takeF k f).2.2 = true then s.2.1 ++ [(s.1.takeF k f).2.1] else s.2.1), (s.1.takeF k f).1.down)
def feedFs (k : Lk) (L : Lg) (fs : List Fr) : Lg × List Ev × Bool := fs.foldl (feedStep k) (L, [], false)
def Lg.fed (k : Lk) (L : Lg) (b : List Int) : Lg := { L with part := (scan (!k.masks) (most16 k) (L.part ++ b)).2.1, serr := (scan (!k.masks) (most16 k) (L.part ++ b)).2.2 }
def Lg.feed (k : Lk) (L : Lg) (b : List Int) : Lg × List Ev :=
  if L.down = true then (L, [])
  else if (feedFs k (L.fed k b) (scan (!k.masks) (most16 k) (L.part ++ b)).1).2.2 = true then ((feedFs k (L.fed k b) (scan (!k.masks) (most16 k) (L.part ++ b)).1).1, (feedFs k (L.fed k b) (scan (!k.masks) (most16 k) (L.part ++ b)).1).2.1)
  else if (scan (!k.masks) (most16 k) (L.part ++ b)).2.2 ≠ 0 then ((feedFs k (L.fed k b) (scan (!k.masks) (most16 k) (L.part ++ b)).1).1.fail k (scan (!k.masks) (most16 k) (L.part ++ b)).2.2, (feedFs k (L.fed k b) (scan (!k.masks) (most16 k) (L.part ++ b)).1).2.1)
  else ((feedFs k (L.fed k b) (scan (!k.masks) (most16 k) (L.part ++ b)).1).1, (feedFs k (L.fed k b) (scan (!k.masks) (most16 k) (L.part ++ b)).1).2.1)
theorem feedFs_stop (k : Lk) (s : Lg × List Ev × Bool) (h : s.2.2 = true) : ∀ fs : List Fr, fs.foldl (feedStep k) s = s := by
  intro fs
  induction fs with
  | nil => rfl
  | cons f fs ih => rw [List.foldl_cons, feedStep, if_pos h]; exact ih
theorem feedFs_take (k : Lk) (L : Lg) (fs : List Fr) (j : Nat) (hj : j < fs.length) {Lj : Lg} {outs : List Ev} (h : feedFs k L (fs.take j) = (Lj, outs, false)) :
    feedFs k L (fs.take (j + 1)) = ((Lj.takeF k fs[j]).1, (if (Lj.takeF k fs[j]).2.2 = true then outs ++ [(Lj.takeF k fs[j]).2.1] else outs), (Lj.takeF k fs[j]).1.down) := by
  have e : fs.take (j + 1) = fs.take j ++ [fs[j]] := by simp
  unfold feedFs at h ⊢
  rw [e, List.foldl_append, h, List.foldl_cons, List.foldl_nil, feedStep, if_neg (by simp)]
theorem feedFs_early (k : Lk) (L : Lg) (fs : List Fr) (j : Nat) {s : Lg × List Ev × Bool} (h : feedFs k L (fs.take j) = s) (hs : s.2.2 = true) : feedFs k L fs = s := by
  unfold feedFs at h ⊢
  conv => lhs; rw [← List.take_append_drop j fs, List.foldl_append, h]
  exact feedFs_stop k s hs _
theorem Ou.step_ctl {mk : Bool} {o o2 : Ou} (h : o.step mk = some o2) : o2.ctl.length ≤ o.ctl.length := by
  obtain ⟨r, t, c, s, d⟩ := o
  rcases c with _ | ⟨f, fs⟩
  · rcases s with _ | ⟨f, fs⟩
    · simp [Ou.step] at h
    · simp [Ou.step] at h
      subst h
      simp
  · simp [Ou.step] at h
    subst h
    simp
theorem Ou.moveN_ctl (M : Nat) (mk : Bool) : ∀ (n : Nat) (o : Ou), (o.moveN M mk n).ctl.length ≤ o.ctl.length := by
  intro n
  induction n with
  | zero => intro o; exact Nat.le_refl _
  | succ n ih =>
    intro o
    unfold Ou.moveN
    split
    · rcases h : (o.push M).step mk with _ | o2
      · exact Nat.le_refl _
      · exact Nat.le_trans (ih o2) (show o2.ctl.length ≤ (o.push M).ctl.length from Ou.step_ctl h)
    · exact Nat.le_refl _
theorem Ou.move_ctl (M : Nat) (mk : Bool) (o : Ou) : (o.move M mk).ctl.length ≤ o.ctl.length := Ou.moveN_ctl M mk _ o
theorem Lg.ctl_ctl (k : Lk) (L : Lg) (f : Fr) : (L.ctl k f).o.ctl.length ≤ L.o.ctl.length + 1 := by
  refine Nat.le_trans (Ou.move_ctl _ _ _) ?_
  simp
theorem Lg.close_ctl (k : Lk) (L : Lg) (code : Int) (s : ByteArray) : (L.close k code s).1.o.ctl.length ≤ L.o.ctl.length + 1 := by
  unfold Lg.close
  split
  · exact Nat.le_succ _
  · exact Lg.ctl_ctl k _ _
theorem ponged_len (l : List Fr) (d : ByteArray) : (ponged l d).length ≤ l.length + 1 := by
  unfold ponged setD
  split
  · simp
  · simp
theorem Lg.pong_ctl (k : Lk) (L : Lg) (d : ByteArray) : (L.pong k d).o.ctl.length ≤ L.o.ctl.length + 1 := by
  unfold Lg.pong
  split
  · exact Nat.le_succ _
  · exact Nat.le_trans (Ou.move_ctl _ _ _) (ponged_len _ _)
theorem Lg.fail_ctl (k : Lk) (L : Lg) (e : Int) : (L.fail k e).o.ctl.length ≤ L.o.ctl.length + 1 := Lg.close_ctl k _ _ _
theorem Lg.takeF_ctl (k : Lk) (L : Lg) (f : Fr) : (L.takeF k f).1.o.ctl.length ≤ L.o.ctl.length + 1 := by
  unfold Lg.takeF
  split
  · exact Lg.fail_ctl k _ _
  split
  · exact Lg.pong_ctl k _ _
  split
  · exact Lg.close_ctl k _ _ _
  · exact Nat.le_succ _
theorem cget_len (d : ByteArray) : (cget d).2.1.size ≤ d.size := by
  unfold cget
  repeat' split
  all_goals first | exact Nat.zero_le _ | (simp only [ByteArray.size_extract]; omega)
theorem mtake_len {c : Mc} (h : c.good) (f : Fr) : (mtake c f).2.1.data.size ≤ 1048576 + f.data.size := by
  have hsz := h.size
  have hm := h.most
  have hz : (c.part ++ f.data).size = c.part.size + f.data.size := ByteArray.size_append
  have h0 : Ev.zero.data.size ≤ 1048576 + f.data.size := Nat.zero_le _
  have hgo : ∀ c' : Mc, c'.part = c.part → (mgo c' f).2.1.data.size ≤ 1048576 + f.data.size := by
    intro c' hc
    have hz' : (c'.part ++ f.data).size ≤ 1048576 + f.data.size := by rw [hc, hz]; omega
    unfold mgo
    repeat' split
    all_goals first | exact h0 | exact hz'
  unfold mtake
  split
  · exact h0
  split
  · exact h0
  split
  · exact h0
  split
  · unfold mend
    split
    · have := cget_len f.data
      show (cget f.data).2.1.size ≤ _
      omega
    · exact h0
  split
  · show f.data.size ≤ _
    omega
  · unfold mdata
    split
    · split
      · exact h0
      · exact hgo c rfl
    · split
      · exact hgo _ rfl
      · exact h0
end Go.Proofs.Ytpadlcllcmodaaa
