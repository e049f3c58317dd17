/- leg: what goes out, in plain Lean; move. | leg: its block; what is to go out in memory; push and next on it. | leg: move. -/
import Derived.Test.YtpadlcllcmodaaaY12
import Derived.Test.YtpadlcllcmodaaaY10
/- leg: what goes out, in plain Lean; move. -/
namespace Go.Proofs.Ytpadlcllcmodaaa
open Go.RowKit
set_option linter.unusedSimpArgs false
set_option linter.unusedVariables false

/-- A frame's bytes; none if it may not be. -/
def fputz (f : Fr) : List Int := if check9 f = 0 then fput f else []
/-- What is to go out. -/
structure Ou where
  ring : List Int
  tail : List Int
  ctl : List Fr
  rest : List Fr
  draw : Int
def Ou.push (M : Nat) (o : Ou) : Ou := { o with ring := o.ring ++ o.tail.take (M - o.ring.length), tail := o.tail.drop (M - o.ring.length) }
def Ou.fr (mk : Bool) (o : Ou) (f : Fr) : Fr := if mk then mask1 f (nd o.draw) else f
def Ou.dr (mk : Bool) (o : Ou) : Int := if mk then nd o.draw else o.draw
def Ou.step (mk : Bool) (o : Ou) : Option Ou :=
  match o.ctl, o.rest with
  | f :: fs, _ => some { o with ctl := fs, draw := o.dr mk, tail := fputz (o.fr mk f) }
  | [], f :: fs => some { o with rest := fs, draw := o.dr mk, tail := fputz (o.fr mk f) }
  | [], [] => none
def Ou.moveN (M : Nat) (mk : Bool) : Nat → Ou → Ou
  | 0, o => o.push M
  | n + 1, o => if (o.push M).tail = [] then match (o.push M).step mk with
    | none => o.push M
    | some o2 => o2.moveN M mk n
    else o.push M
def Ou.left (o : Ou) : Nat := o.ctl.length + o.rest.length
def Ou.move (M : Nat) (mk : Bool) (o : Ou) : Ou := o.moveN M mk o.left
theorem Ou.step_left {mk : Bool} {o o2 : Ou} (h : o.step mk = some o2) : o2.left + 1 = o.left := by
  obtain ⟨r, t, c, s, d⟩ := o
  rcases c with _ | ⟨f, fs⟩
  · rcases s with _ | ⟨f, fs⟩
    · simp [Ou.step] at h
    · simp [Ou.step] at h
      subst h
      simp [Ou.left]
  · simp [Ou.step] at h
    subst h
    simp [Ou.left]
    omega
theorem Ou.push_left (M : Nat) (o : Ou) : (o.push M).left = o.left := rfl
theorem Ou.step_none {mk : Bool} {o : Ou} : o.step mk = none ↔ o.left = 0 := by
  obtain ⟨r, t, c, s, d⟩ := o
  rcases c with _ | ⟨f, fs⟩
  · rcases s with _ | ⟨f, fs⟩
    · simp [Ou.step, Ou.left]
    · simp [Ou.step, Ou.left]
  · simp [Ou.step, Ou.left]
theorem Ou.move_eq (M : Nat) (mk : Bool) (o : Ou) : o.move M mk = if (o.push M).tail = [] then match (o.push M).step mk with
    | none => o.push M
    | some o2 => o2.move M mk
    else o.push M := by
  unfold Ou.move
  rcases h : o.left with _ | n
  · have : (o.push M).step mk = none := Ou.step_none.2 (by rw [Ou.push_left]; exact h)
    simp only [Ou.moveN, this, ite_self]
  · simp only [Ou.moveN]
    split
    · rcases h2 : (o.push M).step mk with _ | o2
      · rfl
      · have := Ou.step_left h2
        rw [Ou.push_left] at this
        simp only
        rw [show o2.left = n from by omega]
    · rfl
end Go.Proofs.Ytpadlcllcmodaaa
/- leg: its block; what is to go out in memory; push and next on it. -/
namespace Go.Proofs.Ytpadlcllcmodaaa
open Go.RowKit
set_option linter.unusedSimpArgs false
set_option linter.unusedVariables false

/-- What a leg is made of, once and for all. -/
structure Lk where
  routes : Value
  origins : Value
  table : Int
  message : Nat
  frame : Nat
  count : Int
  bytes : Int
  out : Nat
  shake : Int
  idle : Int
  pong : Int
  close : Int
  sg : Nat
  mg : Nat
  mcu : Nat
  rg : Nat
  rb : Nat
  masks : Bool
def lgCells (k : Lk) (vt vc vr : Value) (draw : Int) (sent got : Bool) (wrong : Int) : Array Value :=
  #[k.routes, k.origins, .int .i64 k.table, .int .i64 k.message, .int .i64 k.frame, .int .i64 k.count, .int .i64 k.bytes, .int .i64 k.out, .int .i64 k.shake, .int .i64 k.idle, .int .i64 k.pong, .int .i64 k.close,
    .pointer (some ⟨k.sg, 0, none⟩), .pointer (some ⟨k.mg, 0, none⟩), .pointer (some ⟨k.rg, 0, none⟩), vt, vc, vr, .bool k.masks, .int .u32 draw, .bool sent, .bool got, .int .i64 wrong]
/-- What is to go out, in memory. -/
structure OutH (w : World) (g : Nat) (k : Lk) (o : Ou) (sent got : Bool) (wrong : Int) (vt vc vr : Value) : Prop where
  blk : Blk w g 71 (lgCells k vt vc vr o.draw sent got wrong)
  ring : IsR w k.rg k.rb k.out o.ring
  tail : Win w 5 1 vt o.tail.length (u8s o.tail)
  ctl : Win w 59 8 vc o.ctl.length (frs o.ctl)
  rest : Win w 59 8 vr o.rest.length (frs o.rest)
  bytes : bytesIn o.tail
  good : ∀ f ∈ o.ctl ++ o.rest, f.good
  apart : vt.ownBlock ≠ some k.rb
/-- What moving on may write. -/
def LO (g : Nat) (k : Lk) (i : Nat) : Prop := i = g ∨ RO k.rg k.rb i
theorem Win.of_type {w w' : World} {S : Nat → Prop} {e : TypeId} {size n : Nat} {v : Value} {xs : List Value} (h : Win w e size v n xs) (k : Touch S w w') (hS : ∀ b, S b → ∃ t cs, Blk w b t cs ∧ e ≠ t) : Win w' e size v n xs :=
  h.touch k fun b hb hs => by
    obtain ⟨t, cs, h1, h2⟩ := hS b hs
    obtain ⟨cs', h3⟩ := h.type hb
    exact h3.ne_ h1 h2 rfl
theorem o_push (g : Nat) (k : Lk) (o : Ou) (sent got : Bool) (wrong : Int) (vt vc vr : Value) (w : World) (h : OutH w g k o sent got wrong vt vc vr) :
    Calls Try.prog 54 #[.pointer (some ⟨g, 14, none⟩)] w fun e w' => ∃ vt', e = .returned (.bool (decide ((o.push k.out).tail = []))) ∧ OutH w' g k (o.push k.out) sent got wrong vt' vc vr ∧ vt'.ownBlock = vt.ownBlock ∧ Touch (LO g k) w w' := by
  refine (l_push g k.rg k.rb k.out o.ring o.tail h.bytes vt _ w h.blk rfl rfl h.ring h.tail h.apart).mono ?_
  rintro e w' ⟨v', rfl, h1, h2, h3, h4, h5⟩
  have hS : ∀ b, LO g k b → ∃ t cs, Blk w b t cs ∧ 59 ≠ t := by
    obtain ⟨c1, c2, q1, q2⟩ := h.ring.blk
    rintro b (rfl | rfl | rfl)
    · exact ⟨_, _, h.blk, by decide⟩
    · exact ⟨_, _, q1, by decide⟩
    · exact ⟨_, _, q2, by decide⟩
  exact ⟨v', rfl, ⟨h1, h2, h3, h.ctl.of_type h5 hS, h.rest.of_type h5 hS, h.bytes.drop _, h.good, by rw [h4]; exact h.apart⟩, h4, h5⟩
theorem mask1_good {f : Fr} (h : f.good) (d : Int) (h0 : 0 ≤ d) (h1 : d ≤ 4294967295) : (mask1 f d).good := by
  refine ⟨h.1, ?_, h.2.2⟩
  intro x hx
  simp [mask1, Fr.key] at hx
  rcases hx with rfl | rfl | rfl | rfl <;> omega
theorem o_next_none (g : Nat) (k : Lk) (o : Ou) (sent got : Bool) (wrong : Int) (vt vc vr : Value) (w : World) (h : OutH w g k o sent got wrong vt vc vr) (hs : o.step k.masks = none) :
    Calls Try.prog 55 #[.pointer (some ⟨g, 0, none⟩)] w fun e w' => e = .returned (.tuple #[.agg (Fr.cs ⟨false, 0, false, 0, 0, 0, 0, ⟨#[]⟩⟩), .bool false]) ∧ Touch NoS w w' := by
  have hl := Ou.step_none.1 hs
  unfold Ou.left at hl
  obtain ⟨A1, c1, hv1, _⟩ := h.ctl.cases
  obtain ⟨A2, c2, hv2, _⟩ := h.rest.cases
  rw [show o.ctl.length = 0 from by omega] at hv1
  rw [show o.rest.length = 0 from by omega] at hv2
  have hb := h.blk
  rw [hv1, hv2] at hb
  exact l_next_none g _ w hb A1 A2 c1 c2 rfl rfl
theorem o_next (g : Nat) (k : Lk) (o o2 : Ou) (sent got : Bool) (wrong : Int) (vt vc vr : Value) (w : World) (h : OutH w g k o sent got wrong vt vc vr) (hs : o.step k.masks = some o2) :
    Calls Try.prog 55 #[.pointer (some ⟨g, 0, none⟩)] w fun e w' => ∃ f vc' vr', e = .returned (.tuple #[.agg f.cs, .bool true]) ∧ f.good ∧ o2.tail = fputz f ∧ o2.ring = o.ring ∧ OutH w' g k { o2 with tail := o.tail } sent got wrong vt vc' vr' ∧ vc'.ownBlock = vc.ownBlock ∧ vr'.ownBlock = vr.ownBlock ∧ Touch (At g) w w' := by
  obtain ⟨ring, tail, ctl, rest, draw⟩ := o
  have hS : ∀ b, At g b → ∃ t cs, Blk w b t cs ∧ 59 ≠ t := by
    rintro b rfl
    exact ⟨_, _, h.blk, by decide⟩
  have hS2 : ∀ b, At g b → ∃ t cs, Blk w b t cs ∧ 5 ≠ t := by
    rintro b rfl
    exact ⟨_, _, h.blk, by decide⟩
  have hrg : g ≠ k.rg ∧ g ≠ k.rb := by
    obtain ⟨c1, c2, q1, q2⟩ := h.ring.blk
    exact ⟨h.blk.ne_ q1 (by decide), h.blk.ne_ q2 (by decide)⟩
  have hgd := h.good
  rcases ctl with _ | ⟨f, fs⟩
  · rcases rest with _ | ⟨f, fs⟩
    · simp [Ou.step] at hs
    · obtain ⟨A1, c1, hv1, _⟩ := h.ctl.cases
      simp [Ou.step] at hs
      subst hs
      have hf : f.good := hgd f (by simp)
      have hb := h.blk
      rw [hv1] at hb
      rcases hmk : k.masks with _ | _
      · refine (l_next_17_p g _ w hb A1 c1 rfl vr f fs draw rfl h.rest (by rw [← hmk]; rfl) rfl).mono ?_
        rintro e w' ⟨v', rfl, h1, h2, h3, h4⟩
        exact ⟨f, vc, v', rfl, hf, by simp [Ou.fr], rfl, ⟨by rw [hv1]; simpa [Ou.dr, lgCells] using h1, h.ring.touch h4 (fun e => hrg.1 e.symm) (fun e => hrg.2 e.symm), h.tail.of_type h4 hS2, h.ctl.of_type h4 hS, h2, h.bytes, fun x hx => hgd x (by simp at hx ⊢; exact .inr hx), h.apart⟩, rfl, h3, h4⟩
      · refine (l_next_17_m g _ w hb A1 c1 rfl vr f fs draw rfl h.rest (by rw [← hmk]; rfl) rfl).mono ?_
        rintro e w' ⟨v', rfl, h1, h2, h3, h4⟩
        exact ⟨mask1 f (nd draw), vc, v', rfl, mask1_good hf _ (nd_in _).1 (nd_in _).2, by simp [Ou.fr], rfl, ⟨by rw [hv1]; simpa [Ou.dr, lgCells] using h1, h.ring.touch h4 (fun e => hrg.1 e.symm) (fun e => hrg.2 e.symm), h.tail.of_type h4 hS2, h.ctl.of_type h4 hS, h2, h.bytes, fun x hx => hgd x (by simp at hx ⊢; exact .inr hx), h.apart⟩, rfl, h3, h4⟩
  · simp [Ou.step] at hs
    subst hs
    have hf : f.good := hgd f (by simp)
    have hb := h.blk
    rcases hmk : k.masks with _ | _
    · refine (l_next_16_p g _ w hb vc f fs draw rfl h.ctl (by rw [← hmk]; rfl) rfl).mono ?_
      rintro e w' ⟨v', rfl, h1, h2, h3, h4⟩
      exact ⟨f, v', vr, rfl, hf, by simp [Ou.fr], rfl, ⟨by simpa [Ou.dr, lgCells] using h1, h.ring.touch h4 (fun e => hrg.1 e.symm) (fun e => hrg.2 e.symm), h.tail.of_type h4 hS2, h2, h.rest.of_type h4 hS, h.bytes, fun x hx => hgd x (by simp at hx ⊢; exact .inr hx), h.apart⟩, h3, rfl, h4⟩
    · refine (l_next_16_m g _ w hb vc f fs draw rfl h.ctl (by rw [← hmk]; rfl) rfl).mono ?_
      rintro e w' ⟨v', rfl, h1, h2, h3, h4⟩
      exact ⟨mask1 f (nd draw), v', vr, rfl, mask1_good hf _ (nd_in _).1 (nd_in _).2, by simp [Ou.fr], rfl, ⟨by simpa [Ou.dr, lgCells] using h1, h.ring.touch h4 (fun e => hrg.1 e.symm) (fun e => hrg.2 e.symm), h.tail.of_type h4 hS2, h2, h.rest.of_type h4 hS, h.bytes, fun x hx => hgd x (by simp at hx ⊢; exact .inr hx), h.apart⟩, h3, rfl, h4⟩
end Go.Proofs.Ytpadlcllcmodaaa
/- leg: move. -/
namespace Go.Proofs.Ytpadlcllcmodaaa
open Go.RowKit
set_option linter.unusedSimpArgs false
set_option linter.unusedVariables false

section
variable {w w' : World} {g : Nat} {k : Lk} {o : Ou} {sent got : Bool} {wrong : Int} {vt vc vr : Value}
theorem OutH.no (h : OutH w g k o sent got wrong vt vc vr) (t : Touch NoS w w') : OutH w' g k o sent got wrong vt vc vr :=
  ⟨h.blk.touch t (fun h => h), h.ring.no t, h.tail.no t, h.ctl.no t, h.rest.no t, h.bytes, h.good, h.apart⟩
end
/-- frame.Put, whatever the frame. -/
theorem f_putz (f : Fr) (hf : f.good) (w : World) : Calls Try.prog 56 #[.agg f.cs] w fun e w' => ∃ v er, e = .returned (.tuple #[v, .int .i64 er]) ∧ Win w' 5 1 v (fputz f).length (u8s (fputz f)) ∧ (∀ b, v.ownBlock = some b → w.heap.size ≤ b) ∧ Touch NoS w w' := by
  unfold fputz
  by_cases h : check9 f = 0
  · rw [if_pos h]
    refine (f_put f hf h w).mono ?_
    rintro e w' ⟨v, rfl, h1, h2⟩
    exact ⟨v, 0, rfl, Win.of_own h1, fun b hb => own_base h1 hb, h2⟩
  · rw [if_neg h]
    refine (f_put_no f hf h w).mono ?_
    rintro e w' ⟨rfl, h2⟩
    exact ⟨.slice none 0 0, _, rfl, Win.nil_ _ _ _, fun b hb => (by cases hb), h2⟩
def lenS (w : World) (g i : Nat) : Nat := match w.cell? ⟨g, i, none⟩ with
  | some (.slice _ n _) => n
  | _ => 0
theorem OutH.left {w : World} {g : Nat} {k : Lk} {o : Ou} {sent got : Bool} {wrong : Int} {vt vc vr : Value} (h : OutH w g k o sent got wrong vt vc vr) : lenS w g 16 + lenS w g 17 = o.left := by
  obtain ⟨A1, c1, hv1, _⟩ := h.ctl.cases
  obtain ⟨A2, c2, hv2, _⟩ := h.rest.cases
  have e1 := h.blk.cell 16
  have e2 := h.blk.cell 17
  simp [lgCells] at e1 e2
  unfold lenS Ou.left
  rw [e1, e2, hv1, hv2]
set_option maxHeartbeats 3200000 in
set_option maxRecDepth 100000 in
theorem l_move (g : Nat) (k : Lk) (o : Ou) (sent got : Bool) (wrong : Int) (vt vc vr : Value) (w : World) (h : OutH w g k o sent got wrong vt vc vr) :
    Calls Try.prog 35 #[.pointer (some ⟨g, 0, none⟩)] w fun e w' => ∃ vt' vc' vr', e = .returned (.tuple #[]) ∧ OutH w' g k (o.move k.out k.masks) sent got wrong vt' vc' vr' ∧ Loc w vt vt' ∧ vc'.ownBlock = vc.ownBlock ∧ vr'.ownBlock = vr.ownBlock ∧ Touch (LO g k) w w' := by
  have H := Lib.hid h
  clear h
  go_enter Try.func35, Try.ntmps35
  go_wp2_with fail
  go_loopw [] (fun wr => ∃ o1 vt1 vc1 vr1, OutH wr g k o1 sent got wrong vt1 vc1 vr1 ∧ Hid (o1.move k.out k.masks = o.move k.out k.masks) ∧ Loc w vt vt1 ∧ vc1.ownBlock = vc.ownBlock ∧ vr1.ownBlock = vr.ownBlock ∧ Touch (LO g k) w wr) (fun wr => lenS wr g 16 + lenS wr g 17)
  case atStart =>
    exact ⟨o, vt, vc, vr, H.out, rfl, Loc.refl _ _, rfl, rfl, Touch.refl _ _⟩
  case round =>
    obtain ⟨o1, vt1, vc1, vr1, h1, hm, hl, hc, hr, ht⟩ := hrel
    have H1 := Lib.hid h1
    have HL := Lib.hid hl
    have HC := Lib.hid hc
    have HR := Lib.hid hr
    have HT := Lib.hid ht
    have hlf := h1.left
    clear h1 hl hc hr ht H
    go_wp2_with fail
    refine (o_push g k o1 sent got wrong vt1 vc1 vr1 wr H1.out).mono ?_
    rintro e w1 ⟨vt2, rfl, h2, hv2, ht2⟩
    have H2 := Lib.hid h2
    have HV2 := Lib.hid hv2
    have HT2 := Lib.hid ht2
    clear h2 hv2 ht2
    have hmv := Ou.move_eq k.out k.masks o1
    by_cases hpt : (o1.push k.out).tail = []
    · rw [if_pos hpt] at hmv
      have hd : decide ((o1.push k.out).tail = []) = true := decide_eq_true hpt
      rw [hd]
      clear hd
      rcases hst : (o1.push k.out).step k.masks with _ | o2
      · rw [hst] at hmv
        simp only at hmv
        have HMV := Lib.hid hmv
        have HST := Lib.hid hst
        clear hmv hst hpt
        go_wp2_with fail
        refine (o_next_none g k _ sent got wrong vt2 vc1 vr1 w1 H2.out HST.out).mono ?_
        rintro e w2 ⟨rfl, ht2⟩
        simp only [Fr.cs]
        go_wp2_with fail
        refine bodyPost_ret (results_none rfl _ _ _) rfl ?_
        refine ⟨vt2, vc1, vr1, rfl, ?_, ?_, HC.out, HR.out, ?_⟩
        · rw [← hm.out, HMV.out]
          exact H2.out.no (ht2.alloc _)
        · intro b hb
          exact HL.out b (HV2.out ▸ hb)
        · exact (HT.out.trans HT2.out).trans (ht2.alloc _).of_no
      · rw [hst] at hmv
        simp only at hmv
        have HMV := Lib.hid hmv
        have HST := Lib.hid hst
        have hol := Ou.step_left hst
        rw [Ou.push_left] at hol
        clear hmv hst hpt
        go_wp2_with fail
        refine (o_next g k _ o2 sent got wrong vt2 vc1 vr1 w1 H2.out HST.out).mono ?_
        rintro e w2 ⟨f, vc3, vr3, rfl, hfg, hft, hrg, h3, hc3, hr3, ht3⟩
        have HFG := Lib.hid hfg
        have HFT := Lib.hid hft
        have HRG := Lib.hid hrg
        have H3 := Lib.hid h3
        have HC3 := Lib.hid hc3
        have HR3 := Lib.hid hr3
        have HT3 := Lib.hid ht3
        clear hfg hft hrg h3 hc3 hr3 ht3
        have HPZ := Lib.hid (fun W => f_putz f HFG.out W)
        obtain ⟨fin, op, masked, k0, k1, k2, k3, data⟩ := f
        simp only [Fr.cs] at HPZ
        simp only [Fr.cs]
        go_wp2_with fail
        refine (HPZ.out _).mono ?_
        rintro e w4 ⟨v, er, rfl, hw4, hv4, ht4⟩
        obtain ⟨A4, c4, hv4e, -⟩ := hw4.cases
        subst hv4e
        have HW4 := Lib.hid hw4
        have HV4 := Lib.hid hv4
        have hT24 : Touch NoS w2 w4 := ((Touch.refl NoS w2).alloc _).trans ht4
        have HT24 := Lib.hid hT24
        have hb4 := H3.out.blk.touch hT24 (fun h => h)
        have c15 := hb4.cell 15
        simp [lgCells] at c15
        have f15 := hb4.frozen 15
        have lg4 := hb4.lt
        clear hw4 hv4 ht4 hT24 hb4
        go_wp2_with fail
        have h4 := H3.out.no HT24.out
        have tg : ∀ u, Touch (At g) w4 (w4.setCell ⟨g, 15, none⟩ u) := fun u => (Touch.refl (At g) w4).setAt 15 u
        have hS : ∀ b, At g b → ∃ t cs, Blk w4 b t cs ∧ 59 ≠ t := by
          rintro b rfl
          exact ⟨_, _, h4.blk, by decide⟩
        have hS2 : ∀ b, At g b → ∃ t cs, Blk w4 b t cs ∧ 5 ≠ t := by
          rintro b rfl
          exact ⟨_, _, h4.blk, by decide⟩
        have hrg : g ≠ k.rg ∧ g ≠ k.rb ∧ k.rb < w2.heap.size := by
          obtain ⟨c1, c2, q1, q2⟩ := H3.out.ring.blk
          exact ⟨H3.out.blk.ne_ q1 (by decide), H3.out.blk.ne_ q2 (by decide), q2.lt⟩
        have h5 : OutH (w4.setCell ⟨g, 15, none⟩ (.slice A4 (fputz ⟨fin, op, masked, k0, k1, k2, k3, data⟩).length c4)) g k o2 sent got wrong (.slice A4 (fputz ⟨fin, op, masked, k0, k1, k2, k3, data⟩).length c4) vc3 vr3 := by
          refine ⟨by simpa [lgCells] using h4.blk.set_ 15 _, h4.ring.touch (tg _) (fun e => hrg.1 e.symm) (fun e => hrg.2.1 e.symm), ?_, h4.ctl.of_type (tg _) hS, h4.rest.of_type (tg _) hS, ?_, h4.good, ?_⟩
          · rw [HFT.out]
            exact HW4.out.of_type (tg _) hS2
          · rw [HFT.out]
            unfold fputz
            split
            · rename_i hc9
              exact fput_in _ HFG.out (by have := (check_ok hc9).1; omega)
            · exact fun x hx => (by cases hx)
          · intro e
            have := HV4.out _ e
            simp at this
            omega
        have hll := h5.left
        have HH5 := Lib.hid h5
        clear h4 h5 hS hS2
        go_roundw
        · refine ⟨o2, _, vc3, vr3, HH5.out, Lib.hid (HMV.out.symm.trans hm.out), ?_, HC3.out.trans HC.out, HR3.out.trans HR.out, ?_⟩
          · intro b hb
            right
            have := HV4.out _ hb
            have := (HT.out.trans HT2.out).size
            have := HT3.out.size
            simp at *
            omega
          · refine ((HT.out.trans HT2.out).trans (HT3.out.mono (fun i hi => Or.inl hi))).trans ((HT24.out.of_no (S := LO g k)).trans ((tg _).mono fun i hi => Or.inl hi))
        · omega
    · rw [if_neg hpt] at hmv
      have hd : decide ((o1.push k.out).tail = []) = false := decide_eq_false hpt
      rw [hd]
      clear hd hpt
      have HMV := Lib.hid hmv
      clear hmv
      go_wp2_with fail
      go_end0
      refine ⟨vt2, vc1, vr1, rfl, ?_, ?_, HC.out, HR.out, HT.out.trans HT2.out⟩
      · rw [← hm.out, HMV.out]
        exact H2.out
      · intro b hb
        exact HL.out b (HV2.out ▸ hb)
end Go.Proofs.Ytpadlcllcmodaaa
