/- bridge: settle: the walk. | law16: awake. | bridge: what goes out. -/
import Derived.Test.YtlnabpoohnphiaaGreatB33
import Derived.Test.YtlnabpoohnphiaaGreatB24
import Derived.Test.YtlnabpoohnphiaaGreatB05
import Derived.Test.YtlnabpoohnphiaaGreatB26
import Derived.Deep.LoopGhost
/- bridge: settle: the walk. -/
namespace Go.Proofs.YtlnabpoohnphiaaGreat
open Go.RowKit
set_option linter.unusedSimpArgs false
set_option linter.unusedVariables false

def Br.settleI (K : Bk) (i : Bool) (B : Br) : Br :=
  (B.set i { B i with leg := (settle1 (K.k i) (B i).lost (B i).last (B i).leg (B (!i)).q).1 }).set (!i) { B (!i) with q := (settle1 (K.k i) (B i).lost (B i).last (B i).leg (B (!i)).q).2 }
theorem settle_two (K : Bk) (B : Br) : (B.settleI K false).settleI K true = B.settle K := by
  funext j
  cases j <;> rfl
/-- A side with a leg and a queue of its own. -/
def Br.at2 (B : Br) (i : Bool) (L : Lg) (l : List Ev) : Br := (B.set i { B i with leg := L }).set (!i) { B (!i) with q := l }
theorem at2_i (B : Br) (i : Bool) (L : Lg) (l : List Ev) : B.at2 i L l i = { B i with leg := L } := by
  cases i <;> rfl
theorem at2_o (B : Br) (i : Bool) (L : Lg) (l : List Ev) : B.at2 i L l (!i) = { B (!i) with q := l } := by
  cases i <;> rfl
theorem at2_at2 (B : Br) (i : Bool) (L M : Lg) (l m : List Ev) : (B.at2 i L l).at2 i M m = B.at2 i M m := by
  funext j
  cases i <;> cases j <;> rfl
theorem at2_self (B : Br) (i : Bool) : B.at2 i (B i).leg (B (!i)).q = B := by
  funext j
  cases i <;> cases j <;> rfl
theorem settleI_at2 (K : Bk) (i : Bool) (B : Br) : B.settleI K i = B.at2 i (settle1 (K.k i) (B i).lost (B i).last (B i).leg (B (!i)).q).1 (settle1 (K.k i) (B i).lost (B i).last (B i).leg (B (!i)).q).2 := rfl
theorem send_false {k : Lk} {L : Lg} {op : Int} {s : ByteArray} (h : (L.send k op s).2 = false) : (L.send k op s).1 = L := by
  unfold Lg.send at h ⊢
  split
  · rename_i hc
    rw [if_pos hc] at h
    cases h
  · rfl
def nextS (K : Bk) (i : Bool) (B : Br) (L : Lg) (l : List Ev) : Br × Bool := match l with
    | [] => (B.at2 i L l, false)
    | e :: m => if (L.send (K.k i) e.op e.data).2 = true then (B.at2 i (L.send (K.k i) e.op e.data).1 m, true) else (B.at2 i L l, false)
theorem nextS_go {K : Bk} {i : Bool} {B : Br} {L : Lg} {e : Ev} {m : List Ev} (h : (L.send (K.k i) e.op e.data).2 = true) : nextS K i B L (e :: m) = (B.at2 i (L.send (K.k i) e.op e.data).1 m, true) := if_pos h
theorem nextS_no {K : Bk} {i : Bool} {B : Br} {L : Lg} {l : List Ev} (h : ¬ ∃ e m, l = e :: m ∧ (L.send (K.k i) e.op e.data).2 = true) : nextS K i B L l = (B.at2 i L l, false) := by
  rcases l with _ | ⟨e, m⟩
  · rfl
  · exact if_neg fun h2 => h ⟨e, m, rfl, h2⟩
theorem next_at2 (K : Bk) (i : Bool) (B : Br) (L : Lg) (l : List Ev) : (B.at2 i L l).next K i = nextS K i B L l := by
  unfold nextS
  unfold Br.next
  rw [at2_o, at2_i]
  rcases l with _ | ⟨e, m⟩
  · rfl
  · simp only
    cases hs : (L.send (K.k i) e.op e.data).2 with
    | true =>
      rw [if_pos rfl, if_pos rfl]
      have := at2_at2 B i L (L.send (K.k i) e.op e.data).1 (e :: m) m
      unfold Br.at2 at this ⊢
      refine Prod.ext ?_ rfl
      funext j
      cases i <;> cases j <;> rfl
    | false =>
      rw [if_neg (by simp), if_neg (by simp), send_false hs]
      refine Prod.ext ?_ rfl
      funext j
      cases i <;> cases j <;> rfl
/-- A side moves on: sent as far as may be. -/
theorem sendAll_stop {k : Lk} {l : List Ev} {L : Lg} (h : ∀ e m, l = e :: m → (L.send k e.op e.data).2 = false) : sendAll k l L = (L, l) := by
  rcases l with _ | ⟨e, m⟩
  · rfl
  · unfold sendAll
    rw [h e m rfl]
    simp
theorem sendAll_go {k : Lk} {e : Ev} {m : List Ev} {L : Lg} (h : (L.send k e.op e.data).2 = true) : sendAll k (e :: m) L = sendAll k m (L.send k e.op e.data).1 := by
  conv => lhs; unfold sendAll
  rw [if_pos h]
theorem BrI.at2 {K : Bk} {n : Nat} {t : Int} {B : Br} (h : BrI K n t B) (i : Bool) {L : Lg} {l : List Ev} (hL : LgI (K.k i) n L) (hl : Qfit K l) : BrI K n t (B.at2 i L l) := by
  have h1 := h.side i
  have h2 := h.side (!i)
  exact (h.set (s := { B i with leg := L }) i ⟨hL, h1.q, h1.heard, h1.ending, h1.last⟩).set (s := { B (!i) with q := l }) (!i) ⟨h2.leg, hl, h2.heard, h2.ending, h2.last⟩
section
variable {E : Nat → Prop} {w w' : World} {g : Nat} {X : Bx} {K : Bk} {gl gq : Bool → Nat} {B B' : Br}
/-- What settle has done on its way. -/
structure Sett (E : Nat → Prop) (w wr : World) (g : Nat) (X : Bx) (K : Bk) (gl gq : Bool → Nat) (B : Br) : Prop where
  is : IsB E wr g X K gl gq B
  touch : Touch (Non E) w wr
  byT : ByT BrT w wr
theorem Sett.no {wr : World} (h : Sett E w wr g X K gl gq B) (t : Touch NoS wr w') : Sett E w w' g X K gl gq B := ⟨h.is.no t, h.touch.trans t.of_no, h.byT.trans (ByT.no t)⟩
theorem Sett.trans {wr : World} (h : Sett E w wr g X K gl gq B) (h1 : IsB E w' g X K gl gq B') (h2 : Touch (Non E) wr w') (h3 : ByT BrT wr w') : Sett E w w' g X K gl gq B' := ⟨h1, h.touch.trans h2, h.byT.trans h3⟩
theorem BrI.settleI {n : Nat} {t : Int} (h : BrI K n t B) (hK : Kfits K) (i : Bool) : BrI K n t (B.settleI K i) := h.at2 i (LgI.settle1 (hK.k i) (h.leg i)) (h.q (!i)).settle1
theorem set_q_at2 (B : Br) (i : Bool) (l : List Ev) : B.set (!i) { B (!i) with q := l } = B.at2 i (B i).leg l := by
  funext j
  cases i <;> cases j <;> rfl
theorem set_l_at2 (B : Br) (i : Bool) (L M : Lg) (l : List Ev) : (B.at2 i L l).set i { (B.at2 i L l) i with leg := M } = B.at2 i M l := by
  funext j
  cases i <;> cases j <;> rfl
/-- The first one that waits is taken. -/
theorem b_qtake {w0 : World} {i : Bool} {L : Lg} {l : List Ev} (h : Sett E w0 w g X K gl gq (B.at2 i L l)) : Calls Tryz.prog 65 #[.pointer (some ⟨gq (!i), 0, none⟩)] w fun e w' =>
    (∃ op code data, e = .returned (.tuple #[.agg #[.int .i64 op, .int .i64 code, .string data], .bool (!l.isEmpty)])) ∧ Sett E w0 w' g X K gl gq (B.at2 i L l.tail) ∧ ByT BrT w w' := by
  have hq := h.is.q (!i)
  obtain ⟨A9, c9, hb9, -⟩ := hq
  have hl : ((B.at2 i L l) (!i)).q = l := by rw [at2_o]
  refine (q_take (gq (!i)) _ w (h.is.q (!i))).mono ?_
  rintro e w' ⟨rfl, hq7, ht7⟩
  have hby : ByT BrT w w' := ByT.at_ (T := BrT) ht7 hb9 (.inr (.inl rfl))
  have hB7 := h.is.que (l := l.tail) (by rw [hl] at hq7; exact hq7) ht7
  rw [set_q_at2] at hB7
  have he : (B.at2 i L l).at2 i ((B.at2 i L l) i).leg l.tail = B.at2 i L l.tail := by rw [at2_at2, at2_i]
  rw [he] at hB7
  refine ⟨⟨(l.headD Ev.zero).op, (l.headD Ev.zero).code, (l.headD Ev.zero).data, ?_⟩, h.trans hB7 (ht7.mono fun b (hb : b = gq (!i)) => by subst hb; exact h.is.newq (!i)) hby, hby⟩
  rw [hl]
  rfl
theorem out_box {t : TypeId} (h : Outer t) (h1 : t ≠ 119) (h2 : t ≠ 80) {b : Nat} {cs : Array Value} (k : ByT BrT w w') (hb : Blk w b t cs) : Blk w' b t cs := k.blk hb (brT_not h h1 h2)
theorem two_boxes (w : World) (t1 t2 : TypeId) (a b : Array Value) : Blk ((w.alloc (.cells a t1)).alloc (.cells b t2)).drew w.heap.size t1 a ∧ Blk ((w.alloc (.cells a t1)).alloc (.cells b t2)).drew (w.heap.size + 1) t2 b ∧ Touch NoS w ((w.alloc (.cells a t1)).alloc (.cells b t2)).drew := by
  refine ⟨(Blk.new w t1 a).alloc _, ?_, (((Touch.refl _ _).alloc _).alloc _).drew⟩
  have := Blk.new (w.alloc (.cells a t1)) t2 b
  rw [show (w.alloc (.cells a t1)).heap.size = w.heap.size + 1 from by simp] at this
  exact this
theorem sett_cells (h : IsB E w g X K gl gq B) (i : Bool) : w.cell? ⟨g, so i, none⟩ = some (.pointer (some ⟨gl i, 0, none⟩)) ∧ w.cell? ⟨g, so i + 2, none⟩ = some (.bool (B i).lost) ∧ w.cell? ⟨g, so i + 3, none⟩ = some (.int .i64 (B i).last) ∧ g < w.heap.size := by
  refine ⟨?_, ?_, ?_, h.blk.lt⟩
  all_goals rw [h.blk.cell]; cases i <;> rfl
set_option maxHeartbeats 12800000 in
set_option maxRecDepth 100000 in
theorem b_settle (h : IsB E w g X K gl gq B) {n : Nat} {t : Int} (hI : BrI K n t B) (hK : Kfits K) (hn : n ≤ 100000) :
    Calls Tryz.prog 42 #[.pointer (some ⟨g, 0, none⟩)] w fun e w' => e = .returned (.tuple #[]) ∧ Sett E w w' g X K gl gq (B.settle K) := by
  have hmf : ∀ (fn : Fn) (first cap : Array Value) (w : World), (Instr.makeFunc fn first cap).run Tryz.prog w = .ok (.func fn first cap) w := fun _ _ _ _ => rfl
  have HH := Lib.hid h
  have HI := Lib.hid hI
  have HK := Lib.hid hK
  have hbl := h.blk.lt
  clear h hI hK
  go_enter Tryz.func42, Tryz.ntmps42
  go_wp2_with fail
  go_loopw [8] (fun iv wr => ∃ (j : Nat) (B1 : Br), j ≤ 2 ∧ iv = .int .i64 j ∧ Hid (Sett E w wr g X K gl gq B1) ∧ Hid (BrI K n t B1) ∧ Hid (B1 = if j = 0 then B else if j = 1 then B.settleI K false else B.settle K)) (fun iv _ => 2 - (intOf iv).toNat)
  case atStart => exact ⟨0, B, by omega, rfl, ⟨HH.out, Touch.refl _ _, ByT.no (Touch.refl _ _)⟩, HI.out, rfl⟩
  case round =>
    obtain ⟨j, B1, hj, rfl, hst, hi1, hB1⟩ := hrel
    have HS1 : Hid (Sett E w wr g X K gl gq B1) := hst
    have HI1 : Hid (BrI K n t B1) := hi1
    have HB1 : Hid (B1 = if j = 0 then B else if j = 1 then B.settleI K false else B.settle K) := hB1
    clear hst hi1 hB1
    by_cases hj2 : j < 2
    · obtain ⟨i, hi⟩ : ∃ i : Bool, i.toNat = j := by
        rcases (show j = 0 ∨ j = 1 by omega) with h | h
        · exact ⟨false, h.symm⟩
        · exact ⟨true, h.symm⟩
      obtain ⟨j', hj'⟩ : ∃ x : Nat, x = (!i).toNat := ⟨_, rfl⟩
      have hjj : j + j' = 1 := by
        rw [hj', ← hi]
        cases i <;> rfl
      have hw1 : IntKind.i64.wrap (1 - (j : Int)) = (j' : Int) := by rw [IntWalk.i64_in _ (by omega)]; omega
      have HIJ := Lib.hid hi
      have hji : (j : Int) < 2 := by omega
      have hji' : (j' : Int) < 2 := by omega
      have HNX : Hid (B1.settleI K i = if j + 1 = 0 then B else if j + 1 = 1 then B.settleI K false else B.settle K) := by
        show B1.settleI K i = _
        rw [HB1.out, ← hi]
        cases i
        · rfl
        · exact settle_two K B
      have hbs := HS1.out.is.blk
      have hqp : wr.cell? ⟨g, 12 + j' * 7 + 1, none⟩ = some (.pointer (some ⟨gq (!i), 0, none⟩)) := by rw [hbs.cell, hj']; cases i <;> rfl
      have hbl1 := hbs.lt
      have hso : so i = 12 + j * 7 := by rw [← hi]; rfl
      have HSO := Lib.hid hso
      obtain ⟨qo, hqo⟩ : ∃ x, x = gq (!i) := ⟨_, rfl⟩
      rw [← hqo] at hqp
      have HQO := Lib.hid hqo
      clear hi hj' hbs hso hqo HB1
      go_upto_region 3 with (fail)
      go_cut [3, 4] (fun v3 v4 wx => ∃ b1 b2, v3 = .pointer (some ⟨b1, 0, none⟩) ∧ v4 = .pointer (some ⟨b2, 0, none⟩) ∧ Blk wx b1 90 #[.pointer (some ⟨g, 12 + j * 7, none⟩)] ∧ Blk wx b2 75 #[.pointer (some ⟨qo, 0, none⟩)] ∧ Touch NoS wr wx)
      case first =>
        go_region
        all_goals
          go_wp2_with fail
          go_meet
          first
            | (obtain ⟨q1, q2, q3⟩ := two_boxes wr 90 75 #[.pointer (some ⟨g, 12 + j * 7, none⟩)] #[.pointer (some ⟨qo, 0, none⟩)]
               exact ⟨_, _, rfl, rfl, q1, q2, q3⟩)
            | (obtain ⟨q1, q2, q3⟩ := two_boxes wr 75 90 #[.pointer (some ⟨qo, 0, none⟩)] #[.pointer (some ⟨g, 12 + j * 7, none⟩)]
               exact ⟨_, _, rfl, rfl, q2, q1, q3⟩)
      case rest =>
        obtain ⟨b1, b2, rfl, rfl, hb1, hb2, ht2⟩ := hcut
        obtain ⟨wd, rfl⟩ : ∃ we : World, we = wc := ⟨_, rfl⟩
        have HS2 := Lib.hid (HS1.out.no ht2)
        have HB1 := Lib.hid hb1
        have HB2 := Lib.hid hb2
        obtain ⟨d0, d2, d3, dl⟩ := sett_cells HS2.out.is i
        rw [HSO.out] at d0 d2 d3
        have k1 := hb1.cell 0
        have k1l := hb1.lt
        have k2 := hb2.cell 0
        have k2l := hb2.lt
        simp at k1 k2
        obtain ⟨w0, hsd⟩ := HS2.out.is.side i
        have HSENT := Lib.hid (lg_sent hsd)
        obtain ⟨li, hli⟩ : ∃ x, x = gl i := ⟨_, rfl⟩
        rw [← hli] at d0 HSENT
        obtain ⟨lost, hlost⟩ : ∃ x, x = (B1 i).lost := ⟨_, rfl⟩
        obtain ⟨sent, hsent⟩ : ∃ x, x = (B1 i).leg.sent := ⟨_, rfl⟩
        rw [← hlost] at d2
        rw [← hsent] at HSENT
        have HLO := Lib.hid hlost
        have HSE := Lib.hid hsent
        have HLI := Lib.hid hli
        clear hb1 hb2 ht2 hsd hli hlost hsent HS1 hqp hbl1
        go_upto_region 4 with (fail)
        go_cut [34] (fun v wx => v = .bool (lost || sent) ∧ wx = wd)
        case first =>
          cases lost with
          | true =>
            go_wp2_with fail
            go_meet
            exact ⟨rfl, rfl⟩
          | false =>
            go_wp2_with fail
            refine HSENT.out.mono ?_
            rintro e w6 ⟨rfl, rfl⟩
            go_wp2_with fail
            go_meet
            exact ⟨rfl, rfl⟩
        case rest =>
          obtain ⟨rfl, hwx⟩ := hcut
          obtain ⟨we, rfl⟩ : ∃ w : World, w = wc := ⟨_, rfl⟩
          subst hwx
          obtain ⟨bq, hbq⟩ : ∃ b, b = (lost || sent) := ⟨_, rfl⟩
          rw [← hbq]
          have HBQ := Lib.hid hbq
          clear hbq
          cases bq with
          | true =>
            have hse1 : B1.settleI K i = B1.at2 i (B1 i).leg [] := by
              rw [settleI_at2]
              have : settle1 (K.k i) (B1 i).lost (B1 i).last (B1 i).leg (B1 (!i)).q = ((B1 i).leg, []) := by
                unfold settle1
                rw [if_pos (by rw [← HLO.out, ← HSE.out]; have h := HBQ.out.symm; rw [Bool.or_eq_true] at h; exact h)]
              rw [this]
            have HSE1 := Lib.hid hse1
            obtain ⟨L0, hL0⟩ : ∃ x, x = (B1 i).leg := ⟨_, rfl⟩
            obtain ⟨q0, hq0⟩ : ∃ x, x = (B1 (!i)).q := ⟨_, rfl⟩
            rw [← hL0] at HSE1
            have HS3 : Hid (Sett E w we g X K gl gq (B1.at2 i L0 q0)) := by
              show Sett E w we g X K gl gq (B1.at2 i L0 q0)
              rw [hL0, hq0, at2_self]
              exact HS2.out
            have HTK := Lib.hid (b_qtake HS3.out)
            rw [← HQO.out] at HTK
            clear hse1 hL0 hq0
            go_wp2_with fail
            refine HTK.out.mono ?_
            rintro e w7 ⟨⟨op, code, data, rfl⟩, hs7, hy7⟩
            have HS7 := Lib.hid hs7
            have HB7 := Lib.hid (out_box (by decide) (by decide) (by decide) hy7 HB2.out)
            clear hs7 hy7 HTK HS3 d0 d2 d3 dl k1 k1l k2 k2l
            go_wp2_with fail
            go_loopg [5, 6] q0.length (fun gk ev isv wq => ∃ (l : List Ev) (bx : Nat) (op code : Int) (data : ByteArray) (is : Bool), ev = .pointer (some ⟨bx, 0, none⟩) ∧ isv = .bool is ∧ Hid (Sett E w wq g X K gl gq (B1.at2 i L0 l)) ∧ Hid (Blk wq bx 37 #[.int .i64 op, .int .i64 code, .string data]) ∧ Hid (Blk wq b2 75 #[.pointer (some ⟨qo, 0, none⟩)]) ∧ Hid (is = false → l = []) ∧ Hid (is = true → l.length + 1 ≤ gk))
            case atStart =>
              refine ⟨q0.tail, w7.heap.size, op, code, data, !q0.isEmpty, rfl, rfl, HS7.out.no ((Touch.refl _ _).alloc _), Blk.new _ _ _, HB7.out.alloc _, ?_, ?_⟩
              · intro h; cases q0 <;> simp_all
              · intro h; cases q0 <;> simp_all
            case round =>
              obtain ⟨l, bx, op, code, data, is, rfl, rfl, hs, hbx, hbq, he, hlen⟩ := hrel
              have HS := Lib.hid (show Sett E w wr g X K gl gq (B1.at2 i L0 l) from hs)
              have hbx' : Blk wr bx 37 #[.int .i64 op, .int .i64 code, .string data] := hbx
              have hbq' : Blk wr b2 75 #[.pointer (some ⟨qo, 0, none⟩)] := hbq
              have HBQ2 := Lib.hid hbq'
              have HE : Hid (is = false → l = []) := he
              have HLEN : Hid (is = true → l.length + 1 ≤ gk) := hlen
              cases is with
              | true =>
                have hg1 := hlen rfl
                have HG1 := Lib.hid hg1
                have e0 := hbx'.cell 0
                have e1 := hbx'.cell 1
                have e2 := hbx'.cell 2
                have el := hbx'.lt
                simp at e0 e1 e2
                have HTK := Lib.hid (fun W (t : Touch NoS wr W) => b_qtake (HS.out.no t))
                rw [← HQO.out] at HTK
                have k2 := hbq'.cell 0
                have k2l := hbq'.lt
                simp at k2
                clear hs hbx hbq he hlen hbx' hbq' HE
                go_wp2_with fail
                refine (HTK.out _ ((Touch.refl _ _).alloc _)).mono ?_
                rintro e w9 ⟨⟨op2, code2, data2, rfl⟩, hs9, hy9⟩
                have hbn : Blk (wr.alloc (.cells #[.int .i64 op, .int .i64 code, .string data] 37)) wr.heap.size 37 #[.int .i64 op, .int .i64 code, .string data] := Blk.new _ _ _
                have HS9 := Lib.hid hs9
                have HBN := Lib.hid (out_box (by decide) (by decide) (by decide) hy9 hbn)
                have HB9 := Lib.hid (out_box (by decide) (by decide) (by decide) hy9 (HBQ2.out.alloc (.cells #[.int .i64 op, .int .i64 code, .string data] 37)))
                clear hs9 hy9 hbn HTK HS hg1 HLEN
                go_wp2_with fail
                go_roundg (gk - 1)
                case measure => have := HG1.out; omega
                case rel =>
                  refine ⟨l.tail, _, op, code, data, !l.isEmpty, rfl, rfl, HS9.out, HBN.out, HB9.out, ?_, ?_⟩
                  · intro h; cases l <;> simp_all
                  · intro h
                    have h1 := HG1.out
                    cases l with
                    | nil => simp at h
                    | cons a l => simp at h1 ⊢; omega
              | false =>
                have hl0 := he rfl
                subst hl0
                have HFIN : Hid (Sett E w wr g X K gl gq (B1.settleI K i)) := by
                  show Sett E w wr g X K gl gq (B1.settleI K i)
                  rw [HSE1.out]
                  exact HS.out
                have HFI := Lib.hid (HI1.out.settleI HK.out i)
                clear hs hbx hbq he hlen hbx' hbq' HE HLEN HS
                go_wp2_with fail
                go_roundw
                · exact ⟨j + 1, B1.settleI K i, by omega, by go_num, HFIN.out, HFI.out, HNX.out⟩
                · simp [intOf]; omega
          | false =>
            obtain ⟨L0, hL0⟩ : ∃ x, x = (B1 i).leg := ⟨_, rfl⟩
            obtain ⟨q0, hq0⟩ : ∃ x, x = (B1 (!i)).q := ⟨_, rfl⟩
            obtain ⟨la, hla⟩ : ∃ x, x = (B1 i).last := ⟨_, rfl⟩
            have hls : (B1 i).lost = false ∧ (B1 i).leg.sent = false := by
              have h := HBQ.out.symm
              rw [Bool.or_eq_false_iff] at h
              rw [← HLO.out, ← HSE.out]
              exact h
            have hse1 : B1.settleI K i = if 0 ≤ la ∧ (sendAll (K.k i) q0 L0).1.free = true ∧ (sendAll (K.k i) q0 L0).2 = [] then B1.at2 i ((sendAll (K.k i) q0 L0).1.close (K.k i) la ⟨#[]⟩).1 [] else B1.at2 i (sendAll (K.k i) q0 L0).1 (sendAll (K.k i) q0 L0).2 := by
              rw [settleI_at2]
              unfold settle1
              rw [if_neg (by rw [hls.1, hls.2]; simp), ← hL0, ← hq0, ← hla]
              split <;> rfl
            have HSE1 := Lib.hid hse1
            have HS3 : Hid (Sett E w we g X K gl gq (B1.at2 i L0 q0)) := by
              show Sett E w we g X K gl gq (B1.at2 i L0 q0)
              rw [hL0, hq0, at2_self]
              exact HS2.out
            have HI3 : Hid (BrI K n t (B1.at2 i L0 q0)) := by
              show BrI K n t (B1.at2 i L0 q0)
              rw [hL0, hq0, at2_self]
              exact HI1.out
            have HLA := Lib.hid hla
            clear hse1 hL0 hq0 hla hls d0 d2 d3 dl k1 k1l k2 k2l HSENT
            go_wp2_with fail
            go_loopg [] (q0.length + 1) (fun gk wq => ∃ (L : Lg) (l : List Ev), Hid (Sett E w wq g X K gl gq (B1.at2 i L l)) ∧ Hid (BrI K n t (B1.at2 i L l)) ∧ Hid (sendAll (K.k i) l L = sendAll (K.k i) q0 L0) ∧ l.length + 1 ≤ gk ∧ Hid (Blk wq b1 90 #[.pointer (some ⟨g, 12 + j * 7, none⟩)]) ∧ Hid (Blk wq b2 75 #[.pointer (some ⟨qo, 0, none⟩)]))
            case atStart => exact ⟨L0, q0, HS3.out, HI3.out, rfl, Nat.le_refl _, HB1.out, HB2.out⟩
            case round =>
              obtain ⟨L, l, hs, hi, hsa, hlen, hbx, hbq⟩ := hrel
              have HS := Lib.hid (show Sett E w wr g X K gl gq (B1.at2 i L l) from hs)
              have HIB := Lib.hid (show BrI K n t (B1.at2 i L l) from hi)
              have HSA := Lib.hid (show sendAll (K.k i) l L = sendAll (K.k i) q0 L0 from hsa)
              have hbx' : Blk wr b1 90 #[.pointer (some ⟨g, 12 + j * 7, none⟩)] := hbx
              have hbq' : Blk wr b2 75 #[.pointer (some ⟨qo, 0, none⟩)] := hbq
              have HBX2 := Lib.hid hbx'
              have HBQ2 := Lib.hid hbq'
              have HNXT := Lib.hid (b_next HS.out.is HIB.out HK.out i b1 b2 (by rw [HSO.out]; exact hbx') (by rw [← HQO.out]; exact hbq'))
              clear hs hi hsa hbx hbq hbx' hbq' HS3 HI3
              go_wp2_with fail
              refine HNXT.out.mono ?_
              rintro e w9 ⟨rfl, hs9, ht9, hy9⟩
              have hS9 := HS.out.trans hs9 ht9 hy9
              have HB9 := Lib.hid (out_box (by decide) (by decide) (by decide) hy9 HBX2.out)
              have HQ9 := Lib.hid (out_box (by decide) (by decide) (by decide) hy9 HBQ2.out)
              rw [next_at2] at hS9 ⊢
              clear hs9 ht9 hy9 HNXT
              by_cases hgo : ∃ e m, l = e :: m ∧ (L.send (K.k i) e.op e.data).2 = true
              · obtain ⟨e, m, rfl, hsd⟩ := hgo
                rw [nextS_go hsd] at hS9 ⊢
                have hi9 : BrI K n t (B1.at2 i (L.send (K.k i) e.op e.data).1 m) := by
                  have h1 := HIB.out.leg i
                  rw [at2_i] at h1
                  have h2 := HIB.out.q (!i)
                  rw [at2_o] at h2
                  have h3 := HIB.out.at2 i (LgI.send h1 (HK.out.k i) e.op e.data) (Qfit.post (p := [e]) (q := m) h2)
                  rw [at2_at2] at h3
                  exact h3
                have HI9 := Lib.hid hi9
                have HS9 := Lib.hid hS9
                have hsa9 : sendAll (K.k i) m (L.send (K.k i) e.op e.data).1 = sendAll (K.k i) q0 L0 := by rw [← sendAll_go hsd]; exact HSA.out
                have HSA9 := Lib.hid hsa9
                have hm1 : m.length + 1 + 1 ≤ gk := hlen
                have HM1 := Lib.hid hm1
                clear hi9 hS9 hsa9 hsd hlen hm1 HS HIB HSA
                go_wp2_with fail
                go_roundg (gk - 1)
                case measure => have := HM1.out; omega
                case rel => exact ⟨_, m, HS9.out, HI9.out, HSA9.out, by have := HM1.out; omega, HB9.out, HQ9.out⟩
              · have hst : sendAll (K.k i) l L = (L, l) := sendAll_stop fun e m he => by
                  cases hsd : (L.send (K.k i) e.op e.data).2 with
                  | false => rfl
                  | true => exact absurd ⟨e, m, he, hsd⟩ hgo
                have hnx := nextS_no (K := K) (i := i) (B := B1) (L := L) (l := l) hgo
                rw [hnx] at hS9 ⊢
                have hse2 := HSE1.out
                rw [← HSA.out, hst] at hse2
                simp only at hse2 hS9
                have HSE2 := Lib.hid hse2
                have HS9 := Lib.hid hS9
                obtain ⟨d0, -, d3, dl⟩ := sett_cells hS9.is i
                rw [HSO.out] at d0 d3
                rw [at2_i] at d3
                have d3' : w9.cell? ⟨g, 12 + j * 7 + 3, none⟩ = some (.int .i64 la) := by rw [d3, HLA.out]
                rw [← HLI.out] at d0
                have k1 := HB9.out.cell 0
                have k1l := HB9.out.lt
                have k2 := HQ9.out.cell 0
                have k2l := HQ9.out.lt
                simp at k1 k2
                obtain ⟨w0, hsd⟩ := hS9.is.side i
                rw [at2_i] at hsd
                have HFR := Lib.hid (lg_free hsd)
                have HLEN := Lib.hid (q_len (gq (!i)) _ w9 (hS9.is.q (!i)))
                rw [← HLI.out] at HFR
                rw [at2_o, ← HQO.out] at HLEN
                obtain ⟨fr, hfr⟩ : ∃ x, x = L.free := ⟨_, rfl⟩
                obtain ⟨ln, hln⟩ : ∃ x, x = l.length := ⟨_, rfl⟩
                simp only at HFR HLEN
                rw [← hfr] at HFR
                rw [← hln] at HLEN
                have HFR2 := Lib.hid hfr
                have HLN := Lib.hid hln
                clear hse2 hS9 hsd hst hnx hgo d3 hfr hln hlen HS HSA
                go_upto_region 12 with (fail)
                go_cut [66] (fun v wx => v = .bool (decide (0 ≤ la) && fr && decide (ln = 0)) ∧ wx = w9)
                case first =>
                  by_cases hla0 : 0 ≤ la
                  · cases fr with
                    | true =>
                      by_cases hl0 : ln = 0
                      · subst hl0
                        go_wp2_with fail
                        refine HFR.out.mono ?_
                        rintro e w10 ⟨rfl, rfl⟩
                        go_wp2_with fail
                        refine HLEN.out.mono ?_
                        rintro e w10 ⟨rfl, rfl⟩
                        go_wp2_with fail
                        go_meet
                        exact ⟨by first | rfl | simp [hla0], rfl⟩
                      · have hl0i : ¬ (ln : Int) = 0 := by omega
                        go_wp2_with fail
                        refine HFR.out.mono ?_
                        rintro e w10 ⟨rfl, rfl⟩
                        go_wp2_with fail
                        refine HLEN.out.mono ?_
                        rintro e w10 ⟨rfl, rfl⟩
                        go_wp2_with fail
                        go_meet
                        exact ⟨by first | rfl | simp [hl0, hla0], rfl⟩
                    | false =>
                      go_wp2_with fail
                      refine HFR.out.mono ?_
                      rintro e w10 ⟨rfl, rfl⟩
                      go_wp2_with fail
                      go_meet
                      exact ⟨by first | rfl | simp, rfl⟩
                  · have HLA0 := Lib.hid hla0
                    go_wp2_with fail
                    go_meet
                    exact ⟨by rw [decide_eq_false (by have := HLA0.out; omega)]; rfl, rfl⟩
                case rest =>
                  obtain ⟨rfl, hwx⟩ := hcut
                  obtain ⟨wf, rfl⟩ : ∃ w : World, w = wc := ⟨_, rfl⟩
                  subst hwx
                  obtain ⟨bc, hbc⟩ : ∃ b, b = (decide (0 ≤ la) && fr && decide (ln = 0)) := ⟨_, rfl⟩
                  rw [← hbc]
                  have HBC := Lib.hid hbc
                  clear hbc
                  cases bc with
                  | false =>
                    have hno : B1.settleI K i = B1.at2 i L l := by
                      rw [HSE2.out]
                      refine if_neg fun h => ?_
                      have hb := HBC.out
                      rw [decide_eq_true h.1, HFR2.out, h.2.1, HLN.out, h.2.2] at hb
                      simp at hb
                    have HFIN : Hid (Sett E w wf g X K gl gq (B1.settleI K i)) := by show Sett E w wf g X K gl gq (B1.settleI K i); rw [hno]; exact HS9.out
                    have HFI := Lib.hid (HI1.out.settleI HK.out i)
                    clear hno HS9
                    go_wp2_with fail
                    go_roundw
                    · exact ⟨j + 1, B1.settleI K i, by omega, by go_num, HFIN.out, HFI.out, HNX.out⟩
                    · simp [intOf]; omega
                  | true =>
                    have hyes : 0 ≤ la ∧ L.free = true ∧ l = [] := by
                      have hb := HBC.out.symm
                      simp only [Bool.and_eq_true, decide_eq_true_eq] at hb
                      exact ⟨hb.1.1, by rw [← HFR2.out]; exact hb.1.2, List.eq_nil_of_length_eq_zero (by rw [← HLN.out]; exact hb.2)⟩
                    have hfe : B1.settleI K i = B1.at2 i (L.close (K.k i) la ⟨#[]⟩).1 [] := by rw [HSE2.out]; exact if_pos hyes
                    have hl0 := hyes.2.2
                    subst hl0
                    have hctl : L.o.ctl.length ≤ 1000000 := by
                      have h1 := HIB.out.leg i
                      rw [at2_i] at h1
                      have h2 : L.o.ctl.length ≤ n + 2 := h1.ctl
                      omega
                    have HCL : Hid (∀ W, Touch NoS wf W → Calls Tryz.prog 70 #[.pointer (some ⟨li, 0, none⟩), .int .i64 la, .string ⟨#[]⟩] W fun e w' => (∃ r, e = .returned (.bool r)) ∧ Sett E w w' g X K gl gq (B1.settleI K i) ∧ w'.cell? ⟨b1, 0, none⟩ = some (.pointer (some ⟨g, 12 + j * 7, none⟩))) := fun W t => by
                      have hs := HS9.out.no t
                      have hc := lb_close i hs.is.legs la ⟨#[]⟩ (by unfold maxLen; decide) (by simp only [at2_i]; exact hctl)
                      rw [← HLI.out] at hc
                      refine hc.mono ?_
                      rintro e w' ⟨rfl, q1, q2, q3⟩
                      have hbk := ((out_box (by decide) (by decide) (by decide) (q3.mono (U := BrT) fun t ht => .inl ht) (HB9.out.touch t (fun h => h)))).cell 0
                      simp at hbk
                      refine ⟨⟨_, rfl⟩, ?_, hbk⟩
                      have hb := hs.is.leg q1 q3
                      have hs2 := hs.trans hb q2 (q3.mono (U := BrT) fun t ht => .inl ht)
                      simp only [at2_i] at hs2
                      rw [hfe]
                      have e2 : (B1.at2 i L []).set i { ({ B1 i with leg := L } : Sd) with leg := (L.close (K.k i) la ⟨#[]⟩).1 } = B1.at2 i (L.close (K.k i) la ⟨#[]⟩).1 [] := by
                        have := set_l_at2 B1 i L (L.close (K.k i) la ⟨#[]⟩).1 []
                        rw [at2_i] at this
                        exact this
                      rw [e2] at hs2
                      exact hs2
                    have HFI := Lib.hid (HI1.out.settleI HK.out i)
                    have m1 : wf.drew.cell? ⟨b1, 0, none⟩ = some (.pointer (some ⟨g, 12 + j * 7, none⟩)) := k1
                    have m2 : wf.drew.cell? ⟨g, 12 + j * 7, none⟩ = some (.pointer (some ⟨li, 0, none⟩)) := d0
                    have m3 : wf.drew.cell? ⟨g, 12 + j * 7 + 3, none⟩ = some (.int .i64 la) := d3'
                    have mt : Touch NoS wf wf.drew := (Touch.refl _ _).drew
                    have HY1 : Hid (∀ W, IsB E W g X K gl gq (B1.settleI K i) → W.cell? ⟨g, 12 + j * 7, none⟩ = some (.pointer (some ⟨li, 0, none⟩)) ∧ W.cell? ⟨g, 12 + j * 7 + 3, none⟩ = some (.int .i64 la)) := fun W h => by
                      obtain ⟨z0, -, z3, -⟩ := sett_cells h i
                      rw [HSO.out] at z0 z3
                      rw [← HLI.out] at z0
                      have e3 : (B1.settleI K i i).last = (B1 i).last := by rw [hfe, at2_i]
                      rw [e3, ← HLA.out] at z3
                      exact ⟨z0, z3⟩
                    clear hyes hfe HS9 hctl d0 d3' k1
                    go_upto_region 13 with (fail)
                    go_region_held3 (fun w' => w'.cell? ⟨b1, 0, none⟩ = some (.pointer (some ⟨g, 12 + j * 7, none⟩)) ∧ w'.cell? ⟨g, 12 + j * 7, none⟩ = some (.pointer (some ⟨li, 0, none⟩)) ∧ w'.cell? ⟨g, 12 + j * 7 + 3, none⟩ = some (.int .i64 la))
                      (first | exact ⟨m1, m2, m3⟩ | exact ⟨y1, y2, y3⟩)
                      (first
                        | (go_at_call 70; refine (HCL.out _ mt).mono ?_; rintro e w11 ⟨⟨r11, rfl⟩, hs11, y1⟩; have HS11 := Lib.hid hs11; have y2 := (HY1.out _ hs11.is).1; have y3 := (HY1.out _ hs11.is).2; clear hs11))
                    all_goals
                      go_wp2_with fail
                      go_roundw
                      · exact ⟨j + 1, B1.settleI K i, by omega, by go_num, HS11.out, HFI.out, HNX.out⟩
                      · simp [intOf]; omega
    · have hj3 : j = 2 := by omega
      subst hj3
      have hst := HS1.out
      rw [HB1.out] at hst
      have HST := Lib.hid hst
      clear hst
      go_wp2_with fail
      go_end0
      exact ⟨rfl, HST.out⟩
end
end Go.Proofs.YtlnabpoohnphiaaGreat
/- law16: awake. -/
namespace Go.Proofs.YtlnabpoohnphiaaGreat
open Go.RowKit
set_option linter.unusedSimpArgs false
set_option linter.unusedVariables false

theorem Blk.rd_all {w : World} {g : Nat} {t : TypeId} {xs : List Value} (h : Blk w g t xs.toArray) : Rd w (some ⟨g, 0, none⟩) xs := h.rd 0 xs (fun j u hu => by rw [Nat.zero_add]; simpa using hu)
end Go.Proofs.YtlnabpoohnphiaaGreat
/- bridge: what goes out. -/
namespace Go.Proofs.YtlnabpoohnphiaaGreat
/-- What goes out on a side first. -/
def outB (s : Sd) (n : Int) : List Int := if s.lost = true then [] else s.leg.o.ring.take (pk n s.leg.o.ring.length)
end Go.Proofs.YtlnabpoohnphiaaGreat
