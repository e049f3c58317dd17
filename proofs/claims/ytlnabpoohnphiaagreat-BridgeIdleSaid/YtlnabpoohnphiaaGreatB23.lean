/- leg: Feed, in plain Lean. | leg: Feed. | route.Check on the laws' configuration. -/
import Derived.Test.YtlnabpoohnphiaaGreatB22
import Derived.Test.YtlnabpoohnphiaaGreatB13
import Derived.Test.YtlnabpoohnphiaaGreatB02
import Derived.Laws.Externs
/- leg: Feed, in plain Lean. -/
namespace Go.Proofs.YtlnabpoohnphiaaGreat
open Go.RowKit
set_option linter.unusedSimpArgs false
set_option linter.unusedVariables false

def Lg.down (L : Lg) : Bool := L.got || decide (L.wrong ≠ 0)
def feedStep (k : Lk) (s : Lg × List Ev × Bool) (f : Fr) : Lg × List Ev × Bool :=
  if s.2.2 = true then s else ((s.1.takeF k f).1, (if (s.1.takeF k f).2.2 = true then s.2.1 ++ [(s.1.takeF k f).2.1] else s.2.1), (s.1.takeF k f).1.down)
def feedFs (k : Lk) (L : Lg) (fs : List Fr) : Lg × List Ev × Bool := fs.foldl (feedStep k) (L, [], false)
def Lg.fed (k : Lk) (L : Lg) (b : List Int) : Lg := { L with part := (scan (!k.masks) (most16 k) (L.part ++ b)).2.1, serr := (scan (!k.masks) (most16 k) (L.part ++ b)).2.2 }
def Lg.feed (k : Lk) (L : Lg) (b : List Int) : Lg × List Ev :=
  if L.down = true then (L, [])
  else if (feedFs k (L.fed k b) (scan (!k.masks) (most16 k) (L.part ++ b)).1).2.2 = true then ((feedFs k (L.fed k b) (scan (!k.masks) (most16 k) (L.part ++ b)).1).1, (feedFs k (L.fed k b) (scan (!k.masks) (most16 k) (L.part ++ b)).1).2.1)
  else if (scan (!k.masks) (most16 k) (L.part ++ b)).2.2 ≠ 0 then ((feedFs k (L.fed k b) (scan (!k.masks) (most16 k) (L.part ++ b)).1).1.fail k (scan (!k.masks) (most16 k) (L.part ++ b)).2.2, (feedFs k (L.fed k b) (scan (!k.masks) (most16 k) (L.part ++ b)).1).2.1)
  else ((feedFs k (L.fed k b) (scan (!k.masks) (most16 k) (L.part ++ b)).1).1, (feedFs k (L.fed k b) (scan (!k.masks) (most16 k) (L.part ++ b)).1).2.1)
theorem feedFs_stop (k : Lk) (s : Lg × List Ev × Bool) (h : s.2.2 = true) : ∀ fs : List Fr, fs.foldl (feedStep k) s = s := by
  intro fs
  induction fs with
  | nil => rfl
  | cons f fs ih => rw [List.foldl_cons, feedStep, if_pos h]; exact ih
theorem feedFs_take (k : Lk) (L : Lg) (fs : List Fr) (j : Nat) (hj : j < fs.length) {Lj : Lg} {outs : List Ev} (h : feedFs k L (fs.take j) = (Lj, outs, false)) :
    feedFs k L (fs.take (j + 1)) = ((Lj.takeF k fs[j]).1, (if (Lj.takeF k fs[j]).2.2 = true then outs ++ [(Lj.takeF k fs[j]).2.1] else outs), (Lj.takeF k fs[j]).1.down) := by
  have e : fs.take (j + 1) = fs.take j ++ [fs[j]] := by simp
  unfold feedFs at h ⊢
  rw [e, List.foldl_append, h, List.foldl_cons, List.foldl_nil, feedStep, if_neg (by simp)]
theorem feedFs_early (k : Lk) (L : Lg) (fs : List Fr) (j : Nat) {s : Lg × List Ev × Bool} (h : feedFs k L (fs.take j) = s) (hs : s.2.2 = true) : feedFs k L fs = s := by
  unfold feedFs at h ⊢
  conv => lhs; rw [← List.take_append_drop j fs, List.foldl_append, h]
  exact feedFs_stop k s hs _
theorem Ou.step_ctl {mk : Bool} {o o2 : Ou} (h : o.step mk = some o2) : o2.ctl.length ≤ o.ctl.length := by
  obtain ⟨r, t, c, s, d⟩ := o
  rcases c with _ | ⟨f, fs⟩
  · rcases s with _ | ⟨f, fs⟩
    · simp [Ou.step] at h
    · simp [Ou.step] at h
      subst h
      simp
  · simp [Ou.step] at h
    subst h
    simp
theorem Ou.moveN_ctl (M : Nat) (mk : Bool) : ∀ (n : Nat) (o : Ou), (o.moveN M mk n).ctl.length ≤ o.ctl.length := by
  intro n
  induction n with
  | zero => intro o; exact Nat.le_refl _
  | succ n ih =>
    intro o
    unfold Ou.moveN
    split
    · rcases h : (o.push M).step mk with _ | o2
      · exact Nat.le_refl _
      · exact Nat.le_trans (ih o2) (show o2.ctl.length ≤ (o.push M).ctl.length from Ou.step_ctl h)
    · exact Nat.le_refl _
theorem Ou.move_ctl (M : Nat) (mk : Bool) (o : Ou) : (o.move M mk).ctl.length ≤ o.ctl.length := Ou.moveN_ctl M mk _ o
theorem Lg.ctl_ctl (k : Lk) (L : Lg) (f : Fr) : (L.ctl k f).o.ctl.length ≤ L.o.ctl.length + 1 := by
  refine Nat.le_trans (Ou.move_ctl _ _ _) ?_
  simp
theorem Lg.close_ctl (k : Lk) (L : Lg) (code : Int) (s : ByteArray) : (L.close k code s).1.o.ctl.length ≤ L.o.ctl.length + 1 := by
  unfold Lg.close
  split
  · exact Nat.le_succ _
  · exact Lg.ctl_ctl k _ _
theorem ponged_len (l : List Fr) (d : ByteArray) : (ponged l d).length ≤ l.length + 1 := by
  unfold ponged setD
  split
  · simp
  · simp
theorem Lg.pong_ctl (k : Lk) (L : Lg) (d : ByteArray) : (L.pong k d).o.ctl.length ≤ L.o.ctl.length + 1 := by
  unfold Lg.pong
  split
  · exact Nat.le_succ _
  · exact Nat.le_trans (Ou.move_ctl _ _ _) (ponged_len _ _)
theorem Lg.fail_ctl (k : Lk) (L : Lg) (e : Int) : (L.fail k e).o.ctl.length ≤ L.o.ctl.length + 1 := Lg.close_ctl k _ _ _
theorem Lg.takeF_ctl (k : Lk) (L : Lg) (f : Fr) : (L.takeF k f).1.o.ctl.length ≤ L.o.ctl.length + 1 := by
  unfold Lg.takeF
  split
  · exact Lg.fail_ctl k _ _
  split
  · exact Lg.pong_ctl k _ _
  split
  · exact Lg.close_ctl k _ _ _
  · exact Nat.le_succ _
theorem cget_len (d : ByteArray) : (cget d).2.1.size ≤ d.size := by
  unfold cget
  repeat' split
  all_goals first | exact Nat.zero_le _ | (simp only [ByteArray.size_extract]; omega)
theorem mtake_len {c : Mc} (h : c.good) (f : Fr) : (mtake c f).2.1.data.size ≤ 1048576 + f.data.size := by
  have hsz := h.size
  have hm := h.most
  have hz : (c.part ++ f.data).size = c.part.size + f.data.size := ByteArray.size_append
  have h0 : Ev.zero.data.size ≤ 1048576 + f.data.size := Nat.zero_le _
  have hgo : ∀ c' : Mc, c'.part = c.part → (mgo c' f).2.1.data.size ≤ 1048576 + f.data.size := by
    intro c' hc
    have hz' : (c'.part ++ f.data).size ≤ 1048576 + f.data.size := by rw [hc, hz]; omega
    unfold mgo
    repeat' split
    all_goals first | exact h0 | exact hz'
  unfold mtake
  split
  · exact h0
  split
  · exact h0
  split
  · exact h0
  split
  · unfold mend
    split
    · have := cget_len f.data
      show (cget f.data).2.1.size ≤ _
      omega
    · exact h0
  split
  · show f.data.size ≤ _
    omega
  · unfold mdata
    split
    · split
      · exact h0
      · exact hgo c rfl
    · split
      · exact hgo _ rfl
      · exact h0
end Go.Proofs.YtlnabpoohnphiaaGreat
/- leg: Feed. -/
namespace Go.Proofs.YtlnabpoohnphiaaGreat
open Go.RowKit
set_option linter.unusedSimpArgs false
set_option linter.unusedVariables false

theorem LAct.own {w w' : World} {g : Nat} {k : Lk} {L L' : Lg} {V : LV} (a : LAct w w' g k V L') (h : IsL w g k L V) {base : Nat} {e : TypeId} {size n : Nat} {v : Value} {xs : List Value} (ho : w.ownsRow base e size v n xs) (he : Outer e) : w'.ownsRow base e size v n xs := by
  obtain ⟨V1, _, _, t1⟩ := a
  exact own_touch ho t1 fun b hb hS => by
    obtain ⟨cs, hc⟩ := own_type ho hb
    exact h.outer hc he hS
theorem IsL.in_act2 {w w' : World} {g : Nat} {k : Lk} {L : Lg} {V : LV} (h : IsL w g k L V) {part' : List Int} {e' : Int} {v1 : Value} (h' : IsStv w' 0 k.sg (!k.masks) (most16 k) part' e' v1) (l : Loc w V.vs v1) (ht : Touch (SO k.sg V.vs) w w') :
    IsL w' g k { L with part := part', serr := e' } { V with vs := v1 } ∧ LLoc w V { V with vs := v1 } ∧ Touch (LF g k V) w w' := by
  obtain ⟨c1, c2, q1, q2⟩ := h.out.ring.blk
  have hT : ∀ (t : TypeId) (cs : Array Value) (b : Nat), Blk w b t cs → t ≠ 139 → (t = 5 → V.vs.ownBlock ≠ some b) → ¬ SO k.sg V.vs b := by
    intro t cs b hb t1 t4 hS
    rcases hS with hS | hS
    · exact hb.ne_ h.ins.1 t1 hS
    · by_cases ht : t = 5
      · exact t4 ht hS
      · obtain ⟨cs', hc⟩ := own_type h.ins.2 hS
        exact hb.ne_ hc ht rfl
  refine ⟨⟨?_, h', ?_, h.good, ?_, ?_, ?_, h.mt, h.mr, h.cr⟩, ⟨l, Loc.refl _ _, Loc.refl _ _, Loc.refl _ _, Loc.refl _ _⟩, ?_⟩
  · refine h.out.touch ht (hT _ _ _ h.out.blk (by decide) (fun e => absurd e (by decide))) (hT _ _ _ q1 (by decide) (fun e => absurd e (by decide))) (hT _ _ _ q2 (by decide) (fun _ => h.sr)) ?_ ?_ ?_
    · intro b hb
      obtain ⟨cs, hc⟩ := h.out.tail.type hb
      exact hT _ _ _ hc (by decide) fun _ e => h.st b e hb
    · intro b hb
      obtain ⟨cs, hc⟩ := h.out.ctl.type hb
      exact hT _ _ _ hc (by decide) (fun e => absurd e (by decide))
    · intro b hb
      obtain ⟨cs, hc⟩ := h.out.rest.type hb
      exact hT _ _ _ hc (by decide) (fun e => absurd e (by decide))
  · refine h.mac.touch ht (hT _ _ _ h.mac.1 (by decide) (fun e => absurd e (by decide))) (hT _ _ _ h.mac.2.2 (by decide) (fun e => absurd e (by decide))) fun b hb => ?_
    obtain ⟨cs, hc⟩ := own_type h.mac.2.1 hb
    exact hT _ _ _ hc (by decide) fun _ e => h.sm b e hb
  · exact l.apart_l h.sm fun b hb => h.lt (by simp [LF, hb])
  · exact l.apart_l h.st fun b hb => h.lt (by simp [LF, hb])
  · exact l.ne h.sr q2.lt
  · refine ht.mono fun b hb => ?_
    rcases hb with hb | hb
    · simp [LF, hb]
    · simp [LF, hb]
theorem LAct.ownN {w w' : World} {g : Nat} {k : Lk} {L' : Lg} {V : LV} (a : LAct w w' g k V L') {base : Nat} {e : TypeId} {size n : Nat} {v : Value} {xs : List Value} (ho : w.ownsRow base e size v n xs) (hn : ∀ b, v.ownBlock = some b → ¬ LF g k V b) : w'.ownsRow base e size v n xs := by
  obtain ⟨V1, _, _, t1⟩ := a
  exact own_touch ho t1 fun b hb hS => hn b hb hS
theorem LAct.grown {w w4 w5 : World} {g : Nat} {k : Lk} {V : LV} {L2 : Lg} (h : LAct w w4 g k V L2) {base : Nat} {e : TypeId} {size n : Nat} {v : Value} {xs : List Value} (ho : w4.ownsRow base e size v n xs) (he : Outer e) (hb : w.heap.size ≤ base) (hg : w4.grownBy w5 v.ownBlock) : LAct w w5 g k V L2 := by
  obtain ⟨V1, i1, l1, t1⟩ := h
  have t2 : Touch (fun b => v.ownBlock = some b) w4 w5 := (Touch.refl _ _).grown hg (fun q hq _ => hq)
  refine ⟨V1, i1.touch t2 fun x hx hS => ?_, l1, t1.trans' t2 fun x hx hS => ?_⟩
  · obtain ⟨cs, hc⟩ := own_type ho hS
    exact i1.outer hc he hx
  · have := own_base ho hS
    omega
section
variable {w : World} {g : Nat} {k : Lk} {L : Lg} {V : LV}
set_option maxHeartbeats 6400000 in
set_option maxRecDepth 100000 in
theorem l_feed_no (h : IsL w g k L V) (A2 : Option Addr) (n cap : Nat) (hd : L.down = true) :
    Calls Tryz.prog 59 #[.pointer (some ⟨g, 0, none⟩), .slice A2 n cap] w fun e w' => e = .returned (.slice none 0 0) ∧ w = w' := by
  have hb := h.out.blk
  have c1 := hb.cell 21
  have c2 := hb.cell 22
  simp [lgCells] at c1 c2
  unfold Lg.down at hd
  obtain ⟨s, hs⟩ : ∃ s, s = L.got := ⟨_, rfl⟩
  obtain ⟨e, he⟩ : ∃ s, s = L.wrong := ⟨_, rfl⟩
  rw [← hs] at c1 hd
  rw [← he] at c2 hd
  clear hb h hs he
  rcases s with _ | _
  · have hne : e ≠ 0 := by simpa using hd
    clear hd
    go_enter Tryz.func59, Tryz.ntmps59
    go_wp2_with fail
    go_ret
    exact ⟨rfl, rfl⟩
  · clear hd
    go_enter Tryz.func59, Tryz.ntmps59
    go_wp2_with fail
    go_ret
    exact ⟨rfl, rfl⟩
set_option maxHeartbeats 12800000 in
set_option maxRecDepth 100000 in
theorem l_feed_go (h : IsL w g k L V) (hk : k.message ≤ 65536) (b : List Int) (A2 : Option Addr) (n cap : Nat) (hn : b.length = n) (hr : Rd w A2 (u8s b)) (hin : bytesIn (L.part ++ b)) (hl : L.part.length + n ≤ 1000000) (hc : L.o.ctl.length + L.part.length + n ≤ 900000) (hse : L.serr = 0) (hd : L.down = false) :
    Calls Tryz.prog 59 #[.pointer (some ⟨g, 0, none⟩), .slice A2 n cap] w fun e w' => ∃ A c, e = .returned (.slice A (L.feed k b).2.length c) ∧ w'.ownsRow w.heap.size 37 3 (.slice A (L.feed k b).2.length c) (L.feed k b).2.length (evCells (L.feed k b).2) ∧ LAct w w' g k V (L.feed k b).1 := by
  have hwf : (Lit.int .i64 (most16 k)).wf = true := wf_i64 (by unfold most16; omega) (by unfold most16; omega)
  obtain ⟨fs, rest, e1, hsc⟩ : ∃ fs rest e1, scan (!k.masks) (most16 k) (L.part ++ b) = (fs, rest, e1) := ⟨_, _, _, rfl⟩
  have hml : (L.part ++ b).length ≤ maxLen := by rw [List.length_append, hn]; unfold maxLen; omega
  obtain ⟨sf1, -, -, -⟩ := scan_facts (!k.masks) (most16 k) (by unfold most16; omega) (L.part ++ b).length (L.part ++ b) (Nat.le_refl _) hin hml
  obtain ⟨-, -, sf3⟩ := scan_in (!k.masks) (most16 k) (L.part ++ b).length (L.part ++ b) (Nat.le_refl _) hin hml
  have hfd : L.fed k b = { L with part := rest, serr := e1 } := by unfold Lg.fed; rw [hsc]
  obtain ⟨R, hR⟩ : ∃ x, x = L.feed k b := ⟨_, rfl⟩
  unfold Lg.feed at hR
  rw [show L.feed k b = R from by rw [hR]; rfl]
  rw [if_neg (by rw [hd]; simp), hfd, hsc] at hR
  rw [hsc] at sf1 sf3
  simp only at hR sf1 sf3
  rw [List.length_append, hn] at sf3
  have hm16 : most16 k ≤ 65536 := by unfold most16; omega
  have HFG : Hid (∀ f ∈ fs, f.good ∧ f.data.size ≤ 65536) := fun f hf => ⟨(sf1 f hf).1, by have := (sf1 f hf).2.2; omega⟩
  obtain ⟨N, hN⟩ : ∃ N, N = fs.length := ⟨_, rfl⟩
  rw [← hN] at sf3
  have hcN : L.o.ctl.length + N ≤ 900000 := by omega
  have hNl : N ≤ 900000 := by omega
  have HN := Lib.hid hN
  have hb := h.out.blk
  have g21 := hb.cell 21
  have g22 := hb.cell 22
  have g12 := hb.cell 12
  simp [lgCells] at g21 g22 g12
  have hgt : L.got = false ∧ L.wrong = 0 := by
    unfold Lg.down at hd
    simpa using hd
  rw [hgt.1] at g21
  rw [hgt.2] at g22
  have h0 := h.ins
  rw [hse] at h0
  have HST := Lib.hid (stv_feed h0 hwf (Nat.zero_le _) b A2 n cap hn hr hin hl fs rest e1 hsc)
  rw [← hN] at HST
  have H := Lib.hid h
  have HR := Lib.hid hR
  have HCN := Lib.hid hcN
  obtain ⟨i, hi, hz0, hz1, hz2⟩ := info_parts info_ev
  clear hb h hR hwf hml sf1 sf3 hfd hsc hin hr hn hl hc hd hgt h0 hm16 hN hse hcN hk
  go_enter Tryz.func59, Tryz.ntmps59
  go_wp2_with fail
  refine HST.out.mono ?_
  rintro x w1 ⟨A1, c1, v1, rfl, ho1, hs1, hl1, ht1⟩
  obtain ⟨ia, la, ta⟩ := H.out.in_act2 hs1 hl1 ht1
  have hnf : ∀ b, (Value.slice A1 N c1).ownBlock = some b → b < w1.heap.size ∧ ¬ LF g k { V with vs := v1 } b := by
    intro b hb
    obtain ⟨cs, hc⟩ := own_type ho1 hb
    have hbase := own_base ho1 hb
    refine ⟨hc.lt, fun hF => ?_⟩
    by_cases hv : v1.ownBlock = some b
    · obtain ⟨cs2, hc2⟩ := own_type ia.ins.2 hv
      exact hc.ne_ hc2 (by decide) rfl
    · have : LF g k V b := by
        unfold LF at hF ⊢
        simp only at hF
        rcases hF with h | h | h | h | h | h | h | h
        · exact .inl h
        · exact .inr (.inl h)
        · exact .inr (.inr (.inl h))
        · exact .inr (.inr (.inr (.inl h)))
        · exact .inr (.inr (.inr (.inr (.inl h))))
        · exact .inr (.inr (.inr (.inr (.inr (.inl h)))))
        · exact absurd h hv
        · exact .inr (.inr (.inr (.inr (.inr (.inr (.inr h))))))
      have := H.out.lt this
      omega
  have HNF := Lib.hid hnf
  have HO1 := Lib.hid ho1
  have HIA := Lib.hid ia
  have HLA := Lib.hid la
  have HTA := Lib.hid ta
  have hws : w.heap.size ≤ w1.heap.size := ta.size
  have HWS := Lib.hid hws
  clear ho1 hs1 hl1 ht1 ia la ta hnf HST g21 g22 g12 hws
  go_wp2_with fail
  go_loopw [7, 34] (fun o iv wr => ∃ (j : Nat) (Lj : Lg) (outs : List Ev) (Ao : Option Addr) (co : Nat), j ≤ N ∧ iv = .int .i64 j ∧ o = .slice Ao outs.length co ∧ Hid (feedFs k { L with part := rest, serr := e1 } (fs.take j) = (Lj, outs, false)) ∧ Lj.o.ctl.length ≤ L.o.ctl.length + j ∧ outs.length ≤ j ∧ wr.ownsRow w1.heap.size 37 3 (.slice Ao outs.length co) outs.length (evCells outs) ∧ wr.ownsRow w.heap.size 42 8 (.slice A1 N c1) N (frs fs) ∧ LAct w1 wr g k { V with vs := v1 } Lj) (fun _ iv _ => N - (intOf iv).toNat)
  case atStart =>
    exact ⟨0, { L with part := rest, serr := e1 }, [], none, 0, Nat.zero_le _, rfl, rfl, rfl, Nat.le_refl _, Nat.le_refl _, own_nil _ _ _ _, HO1.out, LAct.refl HIA.out (Touch.refl _ _)⟩
  case round =>
    obtain ⟨j, Lj, outs, Ao, co, hj, rfl, rfl, HF, hjc, hjo, hoe, hof, haj⟩ := hrel
    obtain ⟨Vj, ij, lj, tj⟩ := haj
    have HFF : Hid (feedFs k { L with part := rest, serr := e1 } (fs.take j) = (Lj, outs, false)) := HF
    have HJC := Lib.hid hjc
    have HOE := Lib.hid hoe
    have HOF := Lib.hid hof
    have HIJ := Lib.hid ij
    have HLJ := Lib.hid lj
    have HTJ := Lib.hid tj
    by_cases hlt : j < N
    · have hjl : j < fs.length := by rw [← HN.out]; exact hlt
      obtain ⟨gf, of, rfl, hgf, a0, a1, a2, a3, a4, a5, a6, a7⟩ := fr_cells (Row.of_own hof).rd j hjl
      have hff := HFG.out fs[j] (List.getElem_mem hjl)
      have HSTEP := Lib.hid (feedFs_take k { L with part := rest, serr := e1 } fs j hjl HFF.out)
      have hctl := Lg.takeF_ctl k Lj fs[j]
      have hml := mtake_len ij.good fs[j]
      obtain ⟨f, hfe⟩ : ∃ f, f = fs[j] := ⟨_, rfl⟩
      rw [← hfe] at a0 a1 a2 a3 a4 a5 a6 a7 hff HSTEP hctl hml
      have HTK := Lib.hid (fun W (t : Touch NoS wr W) => l_takeF (ij.no t) f hff.1 (by have := hff.2; omega) (by have := HCN.out; omega) (by unfold maxLen; have := hff.2; omega))
      obtain ⟨⟨L2, x, is⟩, hT⟩ : ∃ r, r = Lj.takeF k f := ⟨_, rfl⟩
      rw [← hT] at HSTEP HTK hctl
      simp only at HSTEP HTK hctl
      have HCT : Hid (L2.o.ctl.length ≤ L.o.ctl.length + (j + 1)) := by show L2.o.ctl.length ≤ L.o.ctl.length + (j + 1); omega
      obtain ⟨xo, xc, xd⟩ := x
      obtain ⟨fin, op, masked, k0, k1, k2, k3, d⟩ := f
      simp only [Fr.cs, evAgg] at HTK
      clear hoe hof hfe hff hctl hml hT ij lj tj hjc HF
      go_upto_region 9 with (fail)
      refine (HTK.out _ ((Touch.refl _ _).alloc _)).mono ?_
      rintro e w2 ⟨rfl, ha2⟩
      have hta : Touch NoS wr (wr.alloc (.cells #[.bool fin, .int .i64 op, .bool masked, .int .u8 k0, .int .u8 k1, .int .u8 k2, .int .u8 k3, .string d] 42)) := (Touch.refl _ _).alloc _
      have HOE2 := Lib.hid (ha2.own (HIJ.out.no hta) (own_no HOE.out hta) (by decide))
      have HOF2 := Lib.hid (ha2.ownN (own_no HOF.out hta) (fun b hb hS => by
        obtain ⟨q1, q2⟩ := HNF.out b hb
        rcases LF_loc HLJ.out hS with q | q
        · exact q2 q
        · omega))
      have HA2 := Lib.hid (LAct.via HLJ.out HTJ.out (LAct.pre hta ha2))
      have hw12 : w1.heap.size ≤ w2.heap.size := by
        obtain ⟨_, _, _, t⟩ := HA2.out
        exact t.size
      clear ha2 hta HOE HOF HIJ HLJ HTJ HTK a0 a1 a2 a3 a4 a5 a6 a7
      go_upto_if 44 with (fail)
      go_cut [7] (fun o wx => ∃ Ao co, o = .slice Ao (if is = true then outs ++ [⟨xo, xc, xd⟩] else outs).length co ∧ wx.ownsRow w1.heap.size 37 3 (.slice Ao (if is = true then outs ++ [⟨xo, xc, xd⟩] else outs).length co) (if is = true then outs ++ [⟨xo, xc, xd⟩] else outs).length (evCells (if is = true then outs ++ [⟨xo, xc, xd⟩] else outs)) ∧ wx.ownsRow w.heap.size 42 8 (.slice (some ⟨gf, of, none⟩) N c1) N (frs fs) ∧ LAct w1 wx g k { V with vs := v1 } L2)
      case first =>
        have HEV : Hid (∀ u ∈ evCells [(⟨xo, xc, xd⟩ : Ev)], u.oneCell' = true) := evCells_one _
        rw [evCells_single] at HEV
        cases is with
        | false =>
          go_wp2_with fail
          go_meet
          exact ⟨Ao, co, rfl, own_no HOE2.out ((Touch.refl _ _).alloc _), own_no HOF2.out ((Touch.refl _ _).alloc _), HA2.out.no ((Touch.refl _ _).alloc _)⟩
        | true =>
          have hty : Touch NoS w2 ((w2.alloc (.cells #[.int .i64 xo, .int .i64 xc, .string xd] 37)).alloc (.cells (Ev.cs ⟨xo, xc, xd⟩).toArray 37)) := ((Touch.refl _ _).alloc _).alloc _
          have HTY := Lib.hid hty
          have HRN : Hid (Rd ((w2.alloc (.cells #[.int .i64 xo, .int .i64 xc, .string xd] 37)).alloc (.cells (Ev.cs ⟨xo, xc, xd⟩).toArray 37)) (some ⟨w2.heap.size + 1, 0, none⟩) (Ev.cs ⟨xo, xc, xd⟩)) := by
            have := Rd.new (w2.alloc (.cells #[.int .i64 xo, .int .i64 xc, .string xd] 37)) (Ev.cs ⟨xo, xc, xd⟩) 37 (0, 0)
            rw [show (w2.alloc (.cells #[.int .i64 xo, .int .i64 xc, .string xd] 37)).heap.size = w2.heap.size + 1 from by simp] at this
            exact this
          have HOE3 := Lib.hid (own_no HOE2.out hty)
          clear hty
          go_wp2_with (at_builtin; refine wpList_app_row _ rfl (.tmp 45) (.tmp 47) 24 rfl w1.heap.size 37 i _ 3 32 Tryz.underlying24 hi hz0 hz1 hz2 rfl (by decide) (.slice Ao outs.length co) outs.length (evCells outs) rfl HOE3.out (some ⟨w2.heap.size + 1, 0, none⟩) 1 1 (Ev.cs ⟨xo, xc, xd⟩) rfl rfl HRN.out HEV.out (by unfold maxLen; omega) (by omega) (by simp; omega) ?_)
          intro v5 w5 ho5 hg5 _
          have hA3 := (HA2.out.no HTY.out).grown (own_no HOE2.out HTY.out) (by decide) (Nat.le_refl _) hg5
          have hF3 := own_apart (own_no HOF2.out HTY.out) (own_no HOE2.out HTY.out) (by decide) hg5
          obtain ⟨A5, c5, rfl, -⟩ := own_cases ho5
          have HA3 := Lib.hid hA3
          have HF3 := Lib.hid hF3
          have HO5 := Lib.hid ho5
          clear hA3 hF3 ho5 hg5
          go_wp2_with fail
          go_meet
          refine ⟨A5, c5, ?_, ?_, HF3.out, HA3.out⟩
          · simp
          · have := HO5.out
            rw [← evCells_single ⟨xo, xc, xd⟩, ← evCells_append] at this
            simpa using this
      case rest =>
        obtain ⟨A5, c5, rfl, ho5, hf5, ha5⟩ := hcut
        obtain ⟨wd, rfl⟩ : ∃ we : World, we = wc := ⟨_, rfl⟩
        obtain ⟨out2, hout2⟩ : ∃ o, o = (if is = true then outs ++ [(⟨xo, xc, xd⟩ : Ev)] else outs) := ⟨_, rfl⟩
        rw [← hout2] at HSTEP ho5 ⊢
        have hol : out2.length ≤ j + 1 := by
          rw [hout2]
          split
          · simp; omega
          · omega
        obtain ⟨V5, i5, l5, t5⟩ := ha5
        have hb5 := i5.out.blk
        have g21 := hb5.cell 21
        have g22 := hb5.cell 22
        have gl := hb5.lt
        simp [lgCells] at g21 g22
        have HO5 := Lib.hid ho5
        have HF5 := Lib.hid hf5
        have HI5 := Lib.hid i5
        have HL5 := Lib.hid l5
        have HT5 := Lib.hid t5
        obtain ⟨gt, hgt⟩ : ∃ x, x = L2.got := ⟨_, rfl⟩
        obtain ⟨wg, hwg⟩ : ∃ x, x = L2.wrong := ⟨_, rfl⟩
        have hdn : L2.down = (gt || decide (wg ≠ 0)) := by unfold Lg.down; rw [hgt, hwg]
        rw [← hgt] at g21
        rw [← hwg] at g22
        rw [hdn] at HSTEP
        clear ho5 hf5 i5 l5 t5 hb5 hout2 hgt hwg hdn HOE2 HOF2 HA2
        by_cases hgw : (gt || decide (wg ≠ 0)) = true
        · rw [hgw] at HSTEP
          have HEND : Hid (R = (L2, out2)) := by
            have he := feedFs_early k { L with part := rest, serr := e1 } fs (j + 1) HSTEP.out rfl
            have := HR.out
            rw [he] at this
            show R = (L2, out2)
            rw [this]
            rfl
          have HFIN : Hid (∃ A c, Ending.returned (Value.slice A5 out2.length c5) = .returned (.slice A R.2.length c) ∧ wd.ownsRow w.heap.size 37 3 (.slice A R.2.length c) R.2.length (evCells R.2) ∧ LAct w wd g k V R.1) := by
            show ∃ A c, _
            rw [HEND.out]
            exact ⟨A5, c5, rfl, own_lower HO5.out HWS.out, LAct.via HLA.out HTA.out ⟨V5, HI5.out, HL5.out, HT5.out⟩⟩
          cases gt with
          | true =>
            clear hgw
            go_wp2_with fail
            go_ret
            exact HFIN.out
          | false =>
            have hne : wg ≠ 0 := by simpa using hgw
            clear hgw
            go_wp2_with fail
            go_ret
            exact HFIN.out
        · have hg0 : gt = false ∧ wg = 0 := by simpa using hgw
          obtain ⟨rfl, rfl⟩ := hg0
          clear hgw
          go_wp2_with fail
          go_roundw
          · exact ⟨j + 1, L2, out2, A5, c5, by omega, by go_num, rfl, HSTEP.out, HCT.out, hol, HO5.out, HF5.out, V5, HI5.out, HL5.out, HT5.out⟩
          · simp [intOf]; omega
    · have hjn : j = N := by omega
      subst hjn
      have HALL : Hid (feedFs k { L with part := rest, serr := e1 } fs = (Lj, outs, false)) := by
        have := HFF.out
        rw [HN.out, List.take_length] at this
        exact this
      have hR2 := HR.out
      rw [HALL.out] at hR2
      simp only [Bool.false_eq_true, if_false] at hR2
      have HFL := Lib.hid (l_fail ij e1 (by have := HCN.out; omega))
      have HR2 := Lib.hid hR2
      clear hR2 hoe hof ij lj tj hjc HF
      by_cases he : e1 = 0
      · have HR3 : Hid (R = (Lj, outs)) := by show R = (Lj, outs); rw [HR2.out, if_neg (by rw [he]; simp)]
        go_wp2_with fail
        go_ret
        rw [HR3.out]
        exact ⟨Ao, co, rfl, own_lower HOE.out HWS.out, LAct.via HLA.out HTA.out ⟨Vj, HIJ.out, HLJ.out, HTJ.out⟩⟩
      · have HR3 : Hid (R = (Lj.fail k e1, outs)) := by show R = (Lj.fail k e1, outs); rw [HR2.out, if_pos he]
        go_wp2_with fail
        refine HFL.out.mono ?_
        rintro y w3 ⟨rfl, ha3⟩
        have HO3 := Lib.hid (ha3.own HIJ.out HOE.out (by decide))
        have HA3 := Lib.hid (LAct.via HLA.out HTA.out (LAct.via HLJ.out HTJ.out ha3))
        clear ha3
        go_wp2_with fail
        go_ret
        rw [HR3.out]
        exact ⟨Ao, co, rfl, own_lower HO3.out HWS.out, HA3.out⟩
end
end Go.Proofs.YtlnabpoohnphiaaGreat
/- route.Check on the laws' configuration. -/
namespace Go.Proofs.YtlnabpoohnphiaaGreat
open Go.RowKit
set_option linter.unusedSimpArgs false
set_option linter.unusedVariables false

set_option maxHeartbeats 3200000 in
set_option maxRecDepth 100000 in
theorem r_in (n a b : Int) (h1 : a ≤ n) (h2 : n ≤ b) (w : World) : Calls Tryz.prog 77 #[.int .i64 n, .int .i64 a, .int .i64 b] w fun e w' => e = .returned (.bool true) ∧ w = w' := by
  go_enter Tryz.func77, Tryz.ntmps77
  go_wp2
  go_ret
  exact ⟨rfl, rfl⟩
set_option maxHeartbeats 3200000 in
set_option maxRecDepth 100000 in
theorem r_visible_1 (w : World) : Calls Tryz.prog 99 #[.string ⟨#[47]⟩] w fun e w' => e = .returned (.bool true) ∧ w = w' := by
  go_enter Tryz.func99, Tryz.ntmps99
  go_wp2_with fail
  go_loopw [6] (fun i wr => ∃ k : Nat, k ≤ 1 ∧ i = .int .i64 k ∧ w = wr) (fun i _ => 1 - (intOf i).toNat)
  case atStart => exact ⟨0, by omega, rfl, rfl⟩
  case round =>
    obtain ⟨k, hk, rfl, rfl⟩ := hrel
    by_cases hlt : k < 1
    · obtain rfl : k = 0 := by omega
      go_wp2
      go_roundw
      · exact ⟨1, by omega, by go_num, by first | trivial | rfl⟩
      · simp [intOf]
    · obtain rfl : k = 1 := by omega
      go_wp2
      go_ret
      exact ⟨rfl, rfl⟩
set_option maxHeartbeats 3200000 in
set_option maxRecDepth 100000 in
theorem r_visible_2 (w : World) : Calls Tryz.prog 99 #[.string ⟨#[120]⟩] w fun e w' => e = .returned (.bool true) ∧ w = w' := by
  go_enter Tryz.func99, Tryz.ntmps99
  go_wp2_with fail
  go_loopw [6] (fun i wr => ∃ k : Nat, k ≤ 1 ∧ i = .int .i64 k ∧ w = wr) (fun i _ => 1 - (intOf i).toNat)
  case atStart => exact ⟨0, by omega, rfl, rfl⟩
  case round =>
    obtain ⟨k, hk, rfl, rfl⟩ := hrel
    by_cases hlt : k < 1
    · obtain rfl : k = 0 := by omega
      go_wp2
      go_roundw
      · exact ⟨1, by omega, by go_num, by first | trivial | rfl⟩
      · simp [intOf]
    · obtain rfl : k = 1 := by omega
      go_wp2
      go_ret
      exact ⟨rfl, rfl⟩
theorem ext_idx (w : World) : (callFunc 149 #[.string ⟨#[47]⟩, .int .u8 63]).run Tryz.prog w = .ok (.value (.int .i64 (-1))) w := by
  rw [run_callFunc_extern Tryz.func149 (by kernel_rfl) (by kernel_rfl) (by kernel_rfl) (e := Extern.BytealgIndexByte.indexByte) (by kernel_rfl), run_indexByte_string]
  rfl
set_option maxHeartbeats 3200000 in
set_option maxRecDepth 100000 in
theorem s_ibyte (w : World) : Calls Tryz.prog 137 #[.string ⟨#[47]⟩, .int .u8 63] w fun e w' => e = .returned (.int .i64 (-1)) ∧ w = w' := by
  have hx := fun W => ext_idx W
  go_enter Tryz.func137, Tryz.ntmps137
  go_wp2_with fail
  go_ret
  exact ⟨rfl, rfl⟩
set_option maxHeartbeats 3200000 in
set_option maxRecDepth 100000 in
theorem s_idx (w : World) : Calls Tryz.prog 136 #[.string ⟨#[47]⟩, .string ⟨#[63]⟩] w fun e w' => e = .returned (.int .i64 (-1)) ∧ w = w' := by
  have HX := Lib.hid (fun W => s_ibyte W)
  go_enter Tryz.func136, Tryz.ntmps136
  go_wp2_with fail
  refine (HX.out _).mono ?_
  rintro e w1 ⟨rfl, rfl⟩
  go_wp2_with fail
  go_ret
  exact ⟨rfl, rfl⟩
set_option maxHeartbeats 3200000 in
set_option maxRecDepth 100000 in
theorem s_idx2 (w : World) : Calls Tryz.prog 120 #[.string ⟨#[47]⟩, .string ⟨#[63]⟩] w fun e w' => e = .returned (.int .i64 (-1)) ∧ w = w' := by
  have HX := Lib.hid (fun W => s_idx W)
  go_enter Tryz.func120, Tryz.ntmps120
  go_wp2_with fail
  refine (HX.out _).mono ?_
  rintro e w1 ⟨rfl, rfl⟩
  go_wp2_with fail
  go_ret
  exact ⟨rfl, rfl⟩
set_option maxHeartbeats 3200000 in
set_option maxRecDepth 100000 in
theorem s_has (w : World) : Calls Tryz.prog 100 #[.string ⟨#[47]⟩, .string ⟨#[63]⟩] w fun e w' => e = .returned (.bool false) ∧ w = w' := by
  have HX := Lib.hid (fun W => s_idx2 W)
  go_enter Tryz.func100, Tryz.ntmps100
  go_wp2_with fail
  refine (HX.out _).mono ?_
  rintro e w1 ⟨rfl, rfl⟩
  go_wp2_with fail
  go_ret
  exact ⟨rfl, rfl⟩
set_option maxHeartbeats 3200000 in
set_option maxRecDepth 100000 in
theorem r_right (w : World) : Calls Tryz.prog 78 #[.agg #[.string ⟨#[47]⟩, .string ⟨#[]⟩, .string ⟨#[120]⟩]] w fun e w' => e = .returned (.bool true) ∧ Touch NoS w w' := by
  have H1 := Lib.hid (fun W => r_visible_1 W)
  have H2 := Lib.hid (fun W => r_visible_2 W)
  have H3 := Lib.hid (fun W => s_has W)
  go_enter Tryz.func78, Tryz.ntmps78
  go_wp2_with fail
  refine (H1.out _).mono ?_
  rintro e w1 ⟨rfl, hw⟩
  have HT : Hid (Touch NoS w w1) := by rw [← hw]; exact (Touch.refl _ _).alloc _
  have hb : Blk w1 w.heap.size 101 #[.string ⟨#[47]⟩, .string ⟨#[]⟩, .string ⟨#[120]⟩] := by rw [← hw]; exact Blk.new _ _ _
  have c0 := hb.cell 0
  have c1 := hb.cell 1
  have c2 := hb.cell 2
  have cl := hb.lt
  simp at c0 c1 c2
  clear hw hb
  go_wp2_with fail
  refine (H3.out _).mono ?_
  rintro e w2 ⟨rfl, rfl⟩
  go_wp2_with fail
  refine (H2.out _).mono ?_
  rintro e w2 ⟨rfl, rfl⟩
  go_wp2_with fail
  go_ret
  exact ⟨rfl, HT.out⟩
set_option maxHeartbeats 3200000 in
set_option maxRecDepth 100000 in
theorem r_index0 (A : Option Addr) (c : Nat) (w : World) : Calls Tryz.prog 102 #[.slice A 0 c, .agg #[.string ⟨#[47]⟩, .string ⟨#[]⟩, .string ⟨#[120]⟩]] w fun e w' => e = .returned (.int .i64 (-1)) ∧ Touch NoS w w' := by
  go_enter Tryz.func102, Tryz.ntmps102
  go_wp2_with fail
  go_loopw [8] (fun i wr => i = .int .i64 0 ∧ Touch NoS w wr) (fun i _ => 1)
  case atStart => exact ⟨rfl, (Touch.refl _ _).alloc _⟩
  case round =>
    obtain ⟨rfl, ht⟩ := hrel
    go_wp2_with fail
    go_ret
    exact ⟨rfl, ht⟩
set_option maxHeartbeats 3200000 in
set_option maxRecDepth 100000 in
theorem r_contains0 (A : Option Addr) (c : Nat) (w : World) : Calls Tryz.prog 79 #[.slice A 0 c, .agg #[.string ⟨#[47]⟩, .string ⟨#[]⟩, .string ⟨#[120]⟩]] w fun e w' => e = .returned (.bool false) ∧ Touch NoS w w' := by
  have HX := Lib.hid (fun W => r_index0 A c W)
  go_enter Tryz.func79, Tryz.ntmps79
  go_wp2_with fail
  refine (HX.out _).mono ?_
  rintro e w1 ⟨rfl, ht⟩
  have HT := Lib.hid (((Touch.refl NoS w).alloc (.cells #[.string ⟨#[47]⟩, .string ⟨#[]⟩, .string ⟨#[120]⟩] 101)).trans ht)
  clear ht
  go_wp2_with fail
  go_ret
  exact ⟨rfl, HT.out⟩
end Go.Proofs.YtlnabpoohnphiaaGreat
