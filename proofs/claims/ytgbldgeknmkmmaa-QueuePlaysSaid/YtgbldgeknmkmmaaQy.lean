/- The law QueuePlays: the walk. -/
import Derived.Test.YtgbldgeknmkmmaaQx
import Derived.Test.YtgbldgeknmkmmaaQr
import Derived.Deep.DeepCutAuto
import Derived.Deep.CutBlock
import Derived.Deep.LoopGhost
namespace Go.Proofs.Ytgbldgeknmkmmaa
open Go.RowKit
set_option linter.unusedSimpArgs false
set_option linter.unusedVariables false

structure QAct where
  kind : Int
  n : Int
  e : Ev
instance : Inhabited QAct := ⟨⟨0, 0, Ev.zero⟩⟩
def QAct.cs (a : QAct) : List Value := [.int .i64 a.kind] ++ ([.int .i64 a.n] ++ a.e.cs)
def QAct.good (a : QAct) : Prop := (Lit.int .i64 a.kind).wf = true ∧ (Lit.int .i64 a.n).wf = true ∧ a.e.good
theorem dec_qact : Dec 34 QAct.cs QAct.good :=
  (dec_trip 1 1 3 Try.underlying34 rfl rfl rfl (by kernel_rfl) (by kernel_rfl) (by kernel_rfl) (by kernel_rfl) (dec_int Try.underlying3) (dec_int Try.underlying3) dec_ev).iso
    (fun x => ⟨x.1, x.2.1, x.2.2⟩) (fun _ => rfl) (fun _ h => h)
theorem open_qacts {H : Type} {enc : TypeId × Value → H} {w : World} {base : Nat} {spare : Nat → Bool} {held : Bool} {A : Option Addr} {len cap : Nat} {d : DataW H} {p : List MemPlace}
    (h : DataW.Trod enc Try.prog w base spare held 22 (.slice A len cap) d p) : ∃ l : List QAct, l.length = len ∧ Rd w A (l.flatMap QAct.cs) ∧ (∀ x ∈ l, x.good) ∧ len ≤ cap ∧ cap ≤ maxLen :=
  open_rd 5 (fun _ => rfl) (by omega) Try.underlying22 (by kernel_rfl) dec_qact h

/-- The cells of element k, where each has s cells. -/
theorem flat_at {α : Type} (cells : α → List Value) (s : Nat) (hs : ∀ x, (cells x).length = s) (l : List α) (k : Nat) (h : k < l.length) (j : Nat) (hj : j < s) : (l.flatMap cells)[k * s + j]? = (cells l[k])[j]? := by
  induction l generalizing k with
  | nil => simp at h
  | cons e l ih =>
    rw [List.flatMap_cons]
    cases k with
    | zero => simp only [Nat.zero_mul, Nat.zero_add]; rw [List.getElem?_append_left (by rw [hs]; exact hj)]; rfl
    | succ k =>
      rw [List.getElem?_append_right (by rw [hs, Nat.succ_mul]; omega), hs, show (k + 1) * s + j - s = k * s + j from by rw [Nat.succ_mul]; omega]
      exact ih k (by simpa using h)
theorem act_cells {w : World} {A : Option Addr} {l : List QAct} (h : Rd w A (l.flatMap QAct.cs)) (k : Nat) (hk : k < l.length) : ∃ g off, A = some ⟨g, off, none⟩ ∧ g < w.heap.size ∧
    w.cell? ⟨g, off + k * 5, none⟩ = some (.int .i64 l[k].kind) ∧ w.cell? ⟨g, off + k * 5 + 1, none⟩ = some (.int .i64 l[k].n) ∧ w.cell? ⟨g, off + k * 5 + 2, none⟩ = some (.int .i64 l[k].e.op) ∧
    w.cell? ⟨g, off + k * 5 + 3, none⟩ = some (.int .i64 l[k].e.code) ∧ w.cell? ⟨g, off + k * 5 + 4, none⟩ = some (.string l[k].e.data) := by
  have hf := flat_at QAct.cs 5 (fun _ => rfl) l k hk
  obtain ⟨g, off, hA, hg, hc⟩ := h (by intro he; have := hf 0 (by omega); rw [he] at this; simp [QAct.cs] at this)
  have hc' : ∀ j (hj : j < 5) u, (QAct.cs l[k])[j]? = some u → w.cell? ⟨g, off + k * 5 + j, none⟩ = some u := fun j hj u hu => by
    rw [Nat.add_assoc]; exact hc _ u ((hf j hj).trans hu)
  exact ⟨g, off, hA, hg, hc' 0 (by omega) _ rfl, hc' 1 (by omega) _ rfl, hc' 2 (by omega) _ rfl, hc' 3 (by omega) _ rfl, hc' 4 (by omega) _ rfl⟩

theorem r_take (q : Qm) (A : Option Addr) (c : Nat) (w : World) (hr : Row w 32 A (evCells q.l)) (hc : q.l.length ≤ c) :
    Calls Try.prog 19 #[rq q A c] w fun e w' => ∃ A' c', e = .returned (.tuple #[rq q.tl A' c', q.hd.val, .bool q.any]) ∧ Touch NoS w w' := by
  rcases hl : q.l with _ | ⟨e0, l⟩
  · have ht : q.tl = q := by cases q; simp only at hl; subst hl; rfl
    exact (r_take_none q A c w hl).mono fun e w' ⟨h1, h3⟩ => ⟨A, c, by rw [h1, ht]; simp [Qm.hd, Qm.any, hl], h3⟩
  · have ht : q.tl = { q with l := l } := by simp [Qm.tl, hl]
    exact (r_take_some q e0 l A c w hl hr hc).mono fun e w' ⟨A', c', h1, _, _, h3⟩ => ⟨A', c', by rw [h1, ht]; simp [Qm.hd, Qm.any, hl], h3⟩

theorem pk_keep {bm b1 b2 b3 c2 : Nat} {q : Qm} {A2 : Option Addr} {m : Ev} {n : Int} {w5 W w' : World} (h : W.cell? ⟨bm, 0, none⟩ = some (.int .i64 q.count) ∧ W.cell? ⟨bm, 1, none⟩ = some (.int .i64 q.bytes) ∧ W.cell? ⟨bm, 2, none⟩ = some (.slice A2 q.l.length c2) ∧ W.cell? ⟨b1, 0, none⟩ = some (.int .i64 m.op) ∧ W.cell? ⟨b1, 1, none⟩ = some (.int .i64 m.code) ∧ W.cell? ⟨b1, 2, none⟩ = some (.string m.data) ∧ W.cell? ⟨b2, 0, none⟩ = some (.int .i64 m.op) ∧ W.cell? ⟨b2, 1, none⟩ = some (.int .i64 m.code) ∧ W.cell? ⟨b2, 2, none⟩ = some (.string m.data) ∧ W.cell? ⟨b3, 1, none⟩ = some (.int .i64 n) ∧ Touch NoS w5 W) (ht : Touch NoS W w') : w'.cell? ⟨bm, 0, none⟩ = some (.int .i64 q.count) ∧ w'.cell? ⟨bm, 1, none⟩ = some (.int .i64 q.bytes) ∧ w'.cell? ⟨bm, 2, none⟩ = some (.slice A2 q.l.length c2) ∧ w'.cell? ⟨b1, 0, none⟩ = some (.int .i64 m.op) ∧ w'.cell? ⟨b1, 1, none⟩ = some (.int .i64 m.code) ∧ w'.cell? ⟨b1, 2, none⟩ = some (.string m.data) ∧ w'.cell? ⟨b2, 0, none⟩ = some (.int .i64 m.op) ∧ w'.cell? ⟨b2, 1, none⟩ = some (.int .i64 m.code) ∧ w'.cell? ⟨b2, 2, none⟩ = some (.string m.data) ∧ w'.cell? ⟨b3, 1, none⟩ = some (.int .i64 n) ∧ Touch NoS w5 w' := by
  obtain ⟨h0, h1, h2, h3, h4, h5, h6, h7, h8, h9, hA⟩ := h
  exact ⟨ht.cell h0, ht.cell h1, ht.cell h2, ht.cell h3, ht.cell h4, ht.cell h5, ht.cell h6, ht.cell h7, ht.cell h8, ht.cell h9, hA.trans ht⟩
theorem pk_touch {bm b1 b2 b3 c2 : Nat} {q : Qm} {A2 : Option Addr} {m : Ev} {n : Int} {w5 W : World} (h : W.cell? ⟨bm, 0, none⟩ = some (.int .i64 q.count) ∧ W.cell? ⟨bm, 1, none⟩ = some (.int .i64 q.bytes) ∧ W.cell? ⟨bm, 2, none⟩ = some (.slice A2 q.l.length c2) ∧ W.cell? ⟨b1, 0, none⟩ = some (.int .i64 m.op) ∧ W.cell? ⟨b1, 1, none⟩ = some (.int .i64 m.code) ∧ W.cell? ⟨b1, 2, none⟩ = some (.string m.data) ∧ W.cell? ⟨b2, 0, none⟩ = some (.int .i64 m.op) ∧ W.cell? ⟨b2, 1, none⟩ = some (.int .i64 m.code) ∧ W.cell? ⟨b2, 2, none⟩ = some (.string m.data) ∧ W.cell? ⟨b3, 1, none⟩ = some (.int .i64 n) ∧ Touch NoS w5 W) : Touch NoS w5 W := h.2.2.2.2.2.2.2.2.2.2

/-- The program's queue and the document's, in the middle of the law. -/
structure PlayR (w wr : World) (g bm : Nat) (count bytes : Int) (q : Qm) (A : Option Addr) (c : Nat) : Prop where
  hq : IsQ wr g q
  hm : Blk wr bm 30 #[.int .i64 q.count, .int .i64 q.bytes, .slice A q.l.length c]
  hr : Row wr 32 A (evCells q.l)
  hc : q.l.length ≤ c
  e1 : q.count = count
  e2 : q.bytes = bytes
  ok : q.ok
  ht : Touch NoS w wr
theorem PlayR.no {w wr w2 : World} {g bm : Nat} {count bytes : Int} {q : Qm} {A : Option Addr} {c : Nat} (h : PlayR w wr g bm count bytes q A c) (k : Touch NoS wr w2) : PlayR w w2 g bm count bytes q A c :=
  ⟨h.hq.no k, h.hm.touch k (fun h => h), h.hr.touch_no k, h.hc, h.e1, h.e2, h.ok, h.ht.trans k⟩

theorem IsQN.farB {N : Nat → Prop} {w w' : World} {g b : Nat} {q : Qm} {t : TypeId} {cs : Array Value} (h : IsQN N w g q) (hb : Blk w b t cs) (k : Touch (At b) w w') (h1 : 74 ≠ t) (h2 : 32 ≠ t) : IsQN N w' g q := by
  obtain ⟨A, c, hg, r1, r2, r3⟩ := h
  exact ⟨A, c, hg.touch k (fun e => hg.ne_ hb h1 e), r1, r2.touch_at k hb h2, r3⟩
theorem IsQN.typ {N : Nat → Prop} {w : World} {g : Nat} {q : Qm} (h : IsQN N w g q) : ∃ cs, Blk w g 74 cs := by
  obtain ⟨A, c, hg, _⟩ := h
  exact ⟨_, hg⟩
/-- The document's queue is stored anew at bm (from w3, where v lay), then the program's is changed. -/
theorem PlayR.step {w wr w3 W w4 : World} {g bm : Nat} {count bytes : Int} {q q' : Qm} {A A' : Option Addr} {c c' : Nat} (h : PlayR w wr g bm count bytes q A c) (hg : w.heap.size ≤ g) (hbm : w.heap.size ≤ bm) (t3 : Touch NoS wr w3) (tb : Touch (At bm) w3 W) (tg : Touch (At g) W w4)
    (hm : Blk W bm 30 #[.int .i64 q'.count, .int .i64 q'.bytes, .slice A' q'.l.length c']) (hr : Row w3 32 A' (evCells q'.l)) (hc : q'.l.length ≤ c') (hq : IsQ w4 g q') (e1 : q'.count = q.count) (e2 : q'.bytes = q.bytes) (ok : q'.ok) :
    PlayR w w4 g bm count bytes q' A' c' := by
  have hb3 := h.hm.touch t3 (fun h => h)
  obtain ⟨cg, hgb⟩ := ((h.hq.no t3).farB hb3 tb (by decide) (by decide)).typ
  have hne : bm ≠ g := fun e => hm.ne_ hgb (by decide) e
  exact ⟨hq, hm.touch tg hne, (hr.touch_at tb hb3 (by decide)).touch_at tg hgb (by decide), hc, e1.trans h.e1, e2.trans h.e2, ok, (((h.ht.trans t3).at_new tb hbm).at_new tg hg)⟩
theorem set3 {w : World} {b : Nat} {t : TypeId} {a0 a1 a2 : Value} (h : Blk w b t #[a0, a1, a2]) (v0 v1 v2 : Value) : Blk (((w.setCell ⟨b, 0, none⟩ v0).setCell ⟨b, 1, none⟩ v1).setCell ⟨b, 2, none⟩ v2) b t #[v0, v1, v2] := by
  have := ((h.set_ 0 v0).set_ 1 v1).set_ 2 v2
  simpa using this

set_option maxHeartbeats 8000000 in
set_option maxRecDepth 100000 in
theorem plays_row (w : World) (count : Int) (hcount : (Lit.int .i64 count).wf = true) (bytes : Int) (hbytes : (Lit.int .i64 bytes).wf = true) (A : Option Addr) (l : List QAct) (c : Nat) (hr : Rd w A (l.flatMap QAct.cs)) (hgood : ∀ x ∈ l, x.good) (h1 : l.length ≤ c) (h2 : c ≤ maxLen) :
    Calls Try.prog 3 #[.int .i64 count, .int .i64 bytes, .slice A l.length c] w fun e w' => e = .returned (.bool true) ∧ Touch NoS w w' := by
  have hlen : l.length ≤ 9223372036854775807 := by unfold maxLen at h2; omega
  obtain ⟨bc0, bc1⟩ := bounds_i64 hcount
  obtain ⟨bb0, bb1⟩ := bounds_i64 hbytes
  have HR := Lib.hid hr
  have HG := Lib.hid hgood
  clear hr h1 h2 hcount hbytes hgood
  by_cases hok : 1 ≤ count ∧ count ≤ 1024 ∧ 1 ≤ bytes ∧ bytes ≤ 4194304
  · obtain ⟨k1, k2, k3, k4⟩ := hok
    go_enter Try.func3, Try.ntmps3
    go_wp2_with fail
    refine (q_new (N := NoS) count bytes _ k1 k2 k3 k4).mono ?_
    rintro e w1 ⟨g, rfl, hg, hq1, ht1⟩
    have HT := Lib.hid ht1
    have HQ := Lib.hid hq1
    clear ht1 hq1
    go_wp2_with fail
    refine (q_awake _).mono ?_
    rintro e w2 ⟨rfl, ht2⟩
    have HT2 := Lib.hid (HT.out.trans ht2)
    have HQ2 := Lib.hid (HQ.out.no ht2)
    clear ht2 HT HQ
    obtain ⟨bm, hbm⟩ : ∃ bm, bm = w2.heap.size := ⟨_, rfl⟩
    have hstart : Hid (PlayR w (w2.alloc (.cells #[.int .i64 count, .int .i64 bytes, .slice none 0 0] 30)) g bm count bytes ⟨count, bytes, []⟩ none 0) :=
      ⟨HQ2.out.no ((Touch.refl _ _).alloc _), by rw [hbm]; exact Blk.new _ _ _, Row.nil_ _ _ _, Nat.le_refl _, rfl, rfl, by constructor <;> simp [evSize] <;> omega, HT2.out.alloc _⟩
    have hbw : w.heap.size ≤ bm := by rw [hbm]; exact HT2.out.size
    clear HQ2 HT2
    go_wp2_with fail
    rw [← hbm]
    clear hbm
    go_loopg [10] l.length (fun j i wr => ∃ (k : Nat) (q : Qm) (A : Option Addr) (c : Nat), l.length ≤ k + j ∧ k ≤ l.length ∧ i = .int .i64 k ∧ PlayR w wr g bm count bytes q A c)
    case atStart => exact ⟨0, _, _, _, by omega, by omega, rfl, hstart.out⟩
    case round =>
      obtain ⟨k, q, A2, c2, hj, hk, rfl, hp⟩ := hrel
      have HP := Lib.hid hp
      clear hp hstart
      by_cases hlt : k < l.length
      · by_cases h60 : k < 60
        · obtain ⟨x0, hx0⟩ : ∃ x0, x0 = l[k] := ⟨_, rfl⟩
          obtain ⟨ga, off, rfl, hga, c0, c1, c2', c3, c4⟩ := act_cells (HR.out.touch_no HP.out.ht) k hlt
          have hgood : x0.good := by rw [hx0]; exact HG.out _ (List.getElem_mem hlt)
          rw [← hx0] at c0 c1 c2' c3 c4
          have HG0 := Lib.hid hgood
          clear hx0 hgood
          obtain ⟨kind, n, e0⟩ := x0
          simp only at c0 c1 c2' c3 c4
          have hbz := HP.out.hm.lt
          have hm := HP.out.hm
          have m0 := hm.cell 0
          have m1 := hm.cell 1
          have m2 := hm.cell 2
          have mf0 := hm.frozen 0
          have mf1 := hm.frozen 1
          have mf2 := hm.frozen 2
          simp at m0 m1 m2
          clear hm
          go_upto_block 2 with (fail)
          go_cut [13] (fun _ wx => ∃ (q : Qm) (A : Option Addr) (c : Nat), PlayR w wx g bm count bytes q A c)
          case first =>
            by_cases hk0 : kind = 0
            · subst hk0
              by_cases h300 : e0.data.size ≤ 300
              · obtain ⟨bl1, bs1⟩ : q.l.length ≤ 1024 ∧ evSize q.l ≤ 4194304 := by obtain ⟨_, _, _, _, _, r1, r2, _⟩ := HP.out.hq; exact ⟨r1, r2⟩
                have hb4 : q.bytes ≤ 4194304 := by rw [HP.out.e2]; exact k4
                have HB4 := Lib.hid hb4
                have T1 : Hid (Touch NoS wr (wr.alloc (.cells #[.int .i64 0, .int .i64 n, .int .i64 e0.op, .int .i64 e0.code, .string e0.data] 34))) := (Touch.refl _ _).alloc _
                clear hb4
                by_cases hroom : q.room e0.data.size = true
                · have HRM := Lib.hid hroom
                  clear hroom
                  go_wp2_with fail
                  refine (r_put_yes q e0 A2 c2 _ HRM.out (HP.out.hr.rd.touch_no T1.out) bl1 bs1 HB4.out).mono ?_
                  rintro e w3 ⟨A3, c3', rfl, hr3, hc3, ht3⟩
                  have T3 := Lib.hid (T1.out.trans ht3)
                  have HX := Lib.hid ((Blk.new wr 34 #[.int .i64 0, .int .i64 n, .int .i64 e0.op, .int .i64 e0.code, .string e0.data]).touch ht3 (fun h => h))
                  have HM := Lib.hid (HP.out.hm.touch T3.out (fun h => h))
                  have HR3 := Lib.hid hr3
                  have HC3 := Lib.hid hc3
                  have x2 := HX.out.cell 2
                  have x3 := HX.out.cell 3
                  have x4 := HX.out.cell 4
                  have hxz := HX.out.lt
                  have m0 := HM.out.cell 0
                  have m1 := HM.out.cell 1
                  have m2 := HM.out.cell 2
                  have mf0 := HM.out.frozen 0
                  have mf1 := HM.out.frozen 1
                  have mf2 := HM.out.frozen 2
                  have hbz3 := HM.out.lt
                  simp at x2 x3 x4 m0 m1 m2
                  clear ht3
                  unfold rq
                  go_wp2_with fail
                  refine (q_put_yes (N := NoS) g q e0 HRM.out _ ?_).mono ?_
                  · exact (HP.out.hq.no T3.out).farB HM.out (((((Touch.refl _ _).setAt _ _).setAt _ _).setAt _ _).alloc _) (by decide) (by decide)
                  rintro e w4 ⟨rfl, hq4, ht4⟩
                  have HP4 : Hid (PlayR w w4 g bm count bytes (q.put e0) A3 c3') :=
                    HP.out.step hg hbw T3.out (((((Touch.refl _ _).setAt _ _).setAt _ _).setAt _ _).alloc _) ht4 ((set3 HM.out _ _ _).alloc _) HR3.out HC3.out hq4 rfl rfl (by have := HP.out.ok.putI e0; rwa [Qm.putI, if_pos HRM.out] at this)
                  clear hq4 ht4
                  go_wp2_with fail
                  go_meet
                  exact ⟨_, _, _, HP4.out⟩
                · have hroom' : q.room e0.data.size = false := by simpa using hroom
                  have HRM := Lib.hid hroom'
                  clear hroom hroom'
                  go_wp2_with fail
                  refine (r_put_no q e0 A2 c2 _ HRM.out (HP.out.hr.rd.touch_no T1.out) bl1 bs1 HB4.out).mono ?_
                  rintro e w3 ⟨rfl, ht3⟩
                  have T3 := Lib.hid (T1.out.trans ht3)
                  have HX := Lib.hid ((Blk.new wr 34 #[.int .i64 0, .int .i64 n, .int .i64 e0.op, .int .i64 e0.code, .string e0.data]).touch ht3 (fun h => h))
                  have HM := Lib.hid (HP.out.hm.touch T3.out (fun h => h))
                  have x2 := HX.out.cell 2
                  have x3 := HX.out.cell 3
                  have x4 := HX.out.cell 4
                  have hxz := HX.out.lt
                  have m0 := HM.out.cell 0
                  have m1 := HM.out.cell 1
                  have m2 := HM.out.cell 2
                  have mf0 := HM.out.frozen 0
                  have mf1 := HM.out.frozen 1
                  have mf2 := HM.out.frozen 2
                  have hbz3 := HM.out.lt
                  simp at x2 x3 x4 m0 m1 m2
                  clear ht3
                  unfold rq
                  go_wp2_with fail
                  refine (q_put_no (N := NoS) g q e0 HRM.out _ ?_).mono ?_
                  · exact (HP.out.hq.no T3.out).farB HM.out (((((Touch.refl _ _).setAt _ _).setAt _ _).setAt _ _).alloc _) (by decide) (by decide)
                  rintro e w4 ⟨rfl, ht4⟩
                  have HP4 : Hid (PlayR w w4 g bm count bytes q A2 c2) :=
                    HP.out.step hg hbw T3.out (((((Touch.refl _ _).setAt _ _).setAt _ _).setAt _ _).alloc _) ht4.of_no ((set3 HM.out _ _ _).alloc _) (HP.out.hr.touch_no T3.out) HP.out.hc (((HP.out.hq.no T3.out).farB HM.out (((((Touch.refl _ _).setAt _ _).setAt _ _).setAt _ _).alloc _) (by decide) (by decide)).no ht4) rfl rfl HP.out.ok
                  clear ht4
                  go_wp2_with fail
                  go_meet
                  exact ⟨_, _, _, HP4.out⟩
              · have h300' : decide ((e0.data.size : Int) ≤ 300) = false := by rw [decide_eq_false_iff_not]; omega
                go_wp2_with fail
                go_meet
                exact ⟨_, _, _, HP.out.no ((Touch.refl _ _).alloc _)⟩
            · have hk0' : (kind == 0) = false := by simpa using hk0
              by_cases hk1 : kind = 1
              · subst hk1
                have T1 : Hid (Touch NoS wr (wr.alloc (.cells #[.int .i64 1, .int .i64 n, .int .i64 e0.op, .int .i64 e0.code, .string e0.data] 34))) := (Touch.refl _ _).alloc _
                rcases hql : q.l with _ | ⟨f0, fl⟩
                · have HQL := Lib.hid hql
                  clear hql
                  go_wp2_with fail
                  refine (r_take_none q A2 c2 _ HQL.out).mono ?_
                  rintro e w3 ⟨rfl, ht3⟩
                  have T3 := Lib.hid (T1.out.trans ht3)
                  have HM := Lib.hid (HP.out.hm.touch T3.out (fun h => h))
                  have m0 := HM.out.cell 0
                  have m1 := HM.out.cell 1
                  have m2 := HM.out.cell 2
                  have mf0 := HM.out.frozen 0
                  have mf1 := HM.out.frozen 1
                  have mf2 := HM.out.frozen 2
                  have hbz3 := HM.out.lt
                  simp at m0 m1 m2
                  clear ht3
                  unfold rq Ev.val Ev.zero
                  go_wp2_with fail
                  refine (q_take_none (N := NoS) g q HQL.out _ ?_).mono ?_
                  · exact (HP.out.hq.no T3.out).farB HM.out ((((((Touch.refl _ _).setAt _ _).setAt _ _).setAt _ _).alloc _).alloc _) (by decide) (by decide)
                  rintro e w4 ⟨rfl, ht4⟩
                  have HP4 : Hid (PlayR w w4 g bm count bytes q A2 c2) :=
                    HP.out.step hg hbw T3.out ((((((Touch.refl _ _).setAt _ _).setAt _ _).setAt _ _).alloc _).alloc _) ht4.of_no (((set3 HM.out _ _ _).alloc _).alloc _) (HP.out.hr.touch_no T3.out) HP.out.hc (((HP.out.hq.no T3.out).farB HM.out ((((((Touch.refl _ _).setAt _ _).setAt _ _).setAt _ _).alloc _).alloc _) (by decide) (by decide)).no ht4) rfl rfl HP.out.ok
                  have hwx := ((Blk.new (((w3.setCell ⟨bm, 0, none⟩ (.int .i64 q.count)).setCell ⟨bm, 1, none⟩ (.int .i64 q.bytes)).setCell ⟨bm, 2, none⟩ (.slice A2 q.l.length c2) |>.alloc (.cells #[.int .i64 q.count, .int .i64 q.bytes, .slice A2 q.l.length c2] 30)) 32 #[.int .i64 0, .int .i64 0, .string ⟨#[]⟩]).touch ht4 (fun h => h))
                  simp at hwx
                  have x0 := hwx.cell 0
                  have x1 := hwx.cell 1
                  have x2 := hwx.cell 2
                  have hxz := hwx.lt
                  simp at x0 x1 x2
                  clear ht4 hwx
                  unfold Ev.val Ev.zero
                  go_wp2_with fail
                  go_meet
                  exact ⟨_, _, _, HP4.out.no ((Touch.refl _ _).alloc _)⟩
                · have HQL := Lib.hid hql
                  have hpos : 0 < q.l.length := by rw [hql]; simp
                  have hok2 : ({ q with l := fl } : Qm).ok := by
                    obtain ⟨o1, o2⟩ := HP.out.ok
                    constructor
                    · show (fl.length : Int) ≤ q.count
                      have : q.l.length = fl.length + 1 := by rw [hql]; rfl
                      omega
                    · show (evSize fl : Int) ≤ q.bytes
                      have : evSize q.l = f0.data.size + evSize fl := by rw [hql]; simp [evSize]
                      omega
                  have HOK2 := Lib.hid hok2
                  clear hql hok2
                  go_wp2_with fail
                  refine (r_take_some q f0 fl A2 c2 _ HQL.out (HP.out.hr.touch_no T1.out) HP.out.hc).mono ?_
                  rintro e w3 ⟨A3, c3', rfl, hr3, hc3, ht3⟩
                  have T3 := Lib.hid (T1.out.trans ht3)
                  have HM := Lib.hid (HP.out.hm.touch T3.out (fun h => h))
                  have HR3 := Lib.hid hr3
                  have HC3 := Lib.hid hc3
                  have m0 := HM.out.cell 0
                  have m1 := HM.out.cell 1
                  have m2 := HM.out.cell 2
                  have mf0 := HM.out.frozen 0
                  have mf1 := HM.out.frozen 1
                  have mf2 := HM.out.frozen 2
                  have hbz3 := HM.out.lt
                  simp at m0 m1 m2
                  clear ht3 hr3 hc3
                  unfold rq Ev.val
                  go_wp2_with fail
                  refine (q_take_some (N := NoS) g q f0 fl HQL.out _ ?_).mono ?_
                  · exact (HP.out.hq.no T3.out).farB HM.out ((((((Touch.refl _ _).setAt _ _).setAt _ _).setAt _ _).alloc _).alloc _) (by decide) (by decide)
                  rintro e w4 ⟨rfl, hq4, ht4⟩
                  have HP4 : Hid (PlayR w w4 g bm count bytes { q with l := fl } A3 c3') :=
                    HP.out.step hg hbw T3.out ((((((Touch.refl _ _).setAt _ _).setAt _ _).setAt _ _).alloc _).alloc _) ht4 (((set3 HM.out _ _ _).alloc _).alloc _) HR3.out HC3.out hq4 rfl rfl HOK2.out
                  have hgq := HP.out.hq.lt
                  have hgs := T3.out.size
                  have hgs1 := T1.out.size
                  have hwx := ((Blk.new (((w3.setCell ⟨bm, 0, none⟩ (.int .i64 q.count)).setCell ⟨bm, 1, none⟩ (.int .i64 q.bytes)).setCell ⟨bm, 2, none⟩ (.slice A3 fl.length c3') |>.alloc (.cells #[.int .i64 q.count, .int .i64 q.bytes, .slice A3 fl.length c3'] 30)) 32 #[.int .i64 f0.op, .int .i64 f0.code, .string f0.data]).touch ht4 (fun h => by have h' : _ = g := h; simp at h'; omega))
                  simp at hwx
                  have x0 := hwx.cell 0
                  have x1 := hwx.cell 1
                  have x2 := hwx.cell 2
                  have hxz := hwx.lt
                  simp at x0 x1 x2
                  clear ht4 hq4 hwx
                  unfold Ev.val
                  go_wp2_with fail
                  go_meet
                  exact ⟨_, _, _, HP4.out.no ((Touch.refl _ _).alloc _)⟩
              · have hk1' : (kind == 1) = false := by simpa using hk1
                by_cases hk2 : kind = 2
                · subst hk2
                  have T1 : Hid (Touch NoS wr (wr.alloc (.cells #[.int .i64 2, .int .i64 n, .int .i64 e0.op, .int .i64 e0.code, .string e0.data] 34))) := (Touch.refl _ _).alloc _
                  go_wp2_with fail
                  refine (q_peek (N := NoS) g q _ (HP.out.hq.no T1.out)).mono ?_
                  rintro e w3 ⟨rfl, ht3⟩
                  have T3 := Lib.hid (T1.out.trans ht3)
                  have HX := Lib.hid ((Blk.new wr 34 #[.int .i64 2, .int .i64 n, .int .i64 e0.op, .int .i64 e0.code, .string e0.data]).touch ht3 (fun h => h))
                  have HM := Lib.hid (HP.out.hm.touch T3.out (fun h => h))
                  have m0 := HM.out.cell 0
                  have m1 := HM.out.cell 1
                  have m2 := HM.out.cell 2
                  have hbz3 := HM.out.lt
                  simp at m0 m1 m2
                  clear ht3
                  have HF := Lib.hid (Blk.new w3 32 #[.int .i64 q.hd.op, .int .i64 q.hd.code, .string q.hd.data])
                  have T4 := Lib.hid (T3.out.alloc (.cells #[.int .i64 q.hd.op, .int .i64 q.hd.code, .string q.hd.data] 32))
                  have HX4 := Lib.hid (HX.out.alloc (.cells #[.int .i64 q.hd.op, .int .i64 q.hd.code, .string q.hd.data] 32))
                  have HM4 := Lib.hid (HM.out.alloc (.cells #[.int .i64 q.hd.op, .int .i64 q.hd.code, .string q.hd.data] 32))
                  unfold Ev.val
                  go_wp2_with fail
                  refine (r_take q A2 c2 _ (HP.out.hr.touch_no T4.out) HP.out.hc).mono ?_
                  rintro e w4 ⟨A3, c3', rfl, ht4⟩
                  have HF5 := Lib.hid (((HF.out.touch ht4 (fun h => h)).alloc (.cells #[.int .i64 q.tl.count, .int .i64 q.tl.bytes, .slice A3 q.tl.l.length c3'] 30)).alloc (.cells #[.int .i64 q.hd.op, .int .i64 q.hd.code, .string q.hd.data] 32))
                  have T5 := Lib.hid (((T4.out.trans ht4).alloc (.cells #[.int .i64 q.tl.count, .int .i64 q.tl.bytes, .slice A3 q.tl.l.length c3'] 30)).alloc (.cells #[.int .i64 q.hd.op, .int .i64 q.hd.code, .string q.hd.data] 32))
                  have HX5 := Lib.hid (((HX4.out.touch ht4 (fun h => h)).alloc (.cells #[.int .i64 q.tl.count, .int .i64 q.tl.bytes, .slice A3 q.tl.l.length c3'] 30)).alloc (.cells #[.int .i64 q.hd.op, .int .i64 q.hd.code, .string q.hd.data] 32))
                  have HM5 := Lib.hid (((HM4.out.touch ht4 (fun h => h)).alloc (.cells #[.int .i64 q.tl.count, .int .i64 q.tl.bytes, .slice A3 q.tl.l.length c3'] 30)).alloc (.cells #[.int .i64 q.hd.op, .int .i64 q.hd.code, .string q.hd.data] 32))
                  have HW5 := Lib.hid (Blk.new (w4.alloc (.cells #[.int .i64 q.tl.count, .int .i64 q.tl.bytes, .slice A3 q.tl.l.length c3'] 30)) 32 #[.int .i64 q.hd.op, .int .i64 q.hd.code, .string q.hd.data])
                  clear ht4
                  unfold rq Ev.val
                  go_wp2_with fail
                  obtain ⟨w5, hw5⟩ : ∃ w5, w5 = (w4.alloc (.cells #[.int .i64 q.tl.count, .int .i64 q.tl.bytes, .slice A3 q.tl.l.length c3'] 30)).alloc (.cells #[.int .i64 q.hd.op, .int .i64 q.hd.code, .string q.hd.data] 32) := ⟨_, rfl⟩
                  rw [← hw5] at HF5 T5 HX5 HM5 HW5 ⊢
                  have hws : (w4.alloc (.cells #[.int .i64 q.tl.count, .int .i64 q.tl.bytes, .slice A3 q.tl.l.length c3'] 30)).heap.size = w4.heap.size + 1 := by simp
                  rw [hws] at HW5
                  clear hw5 hws
                  obtain ⟨m, hm⟩ : ∃ m, m = q.hd := ⟨_, rfl⟩
                  rw [← hm] at HF5 HW5
                  have f0 : w5.cell? ⟨w3.heap.size, 0, none⟩ = some (.int .i64 m.op) := HF5.out.cell 0
                  have f1 : w5.cell? ⟨w3.heap.size, 1, none⟩ = some (.int .i64 m.code) := HF5.out.cell 1
                  have f2 : w5.cell? ⟨w3.heap.size, 2, none⟩ = some (.string m.data) := HF5.out.cell 2
                  have g0 : w5.cell? ⟨w4.heap.size + 1, 0, none⟩ = some (.int .i64 m.op) := HW5.out.cell 0
                  have g1 : w5.cell? ⟨w4.heap.size + 1, 1, none⟩ = some (.int .i64 m.code) := HW5.out.cell 1
                  have g2 : w5.cell? ⟨w4.heap.size + 1, 2, none⟩ = some (.string m.data) := HW5.out.cell 2
                  have p0 : w5.cell? ⟨bm, 0, none⟩ = some (.int .i64 q.count) := HM5.out.cell 0
                  have p1 : w5.cell? ⟨bm, 1, none⟩ = some (.int .i64 q.bytes) := HM5.out.cell 1
                  have p2 : w5.cell? ⟨bm, 2, none⟩ = some (.slice A2 q.l.length c2) := HM5.out.cell 2
                  have x1 : w5.cell? ⟨wr.heap.size, 1, none⟩ = some (.int .i64 n) := HX5.out.cell 1
                  obtain ⟨r, hr⟩ : ∃ r, q.room n = r := ⟨_, rfl⟩
                  obtain ⟨bl1, bs1⟩ : q.l.length ≤ 1024 ∧ evSize q.l ≤ 4194304 := by obtain ⟨_, _, _, _, _, r1, r2, _⟩ := HP.out.hq; exact ⟨r1, r2⟩
                  have HC1 : Hid (∀ W, Touch NoS w5 W → Calls Try.prog 22 #[.pointer (some ⟨g, 0, none⟩), .int .i64 n] W fun e w' => e = .returned (.bool r) ∧ Touch NoS W w') := fun W hW =>
                    (q_room g q n r hr W (HP.out.hq.no (T5.out.trans hW))).mono fun e w' ⟨h1, k, h2⟩ => ⟨h1, by rw [h2]; exact (Touch.refl _ _).drewN k⟩
                  have HC2 : Hid (∀ W, Touch NoS w5 W → Calls Try.prog 23 #[.agg #[.int .i64 q.count, .int .i64 q.bytes, .slice A2 q.l.length c2], .int .i64 n] W fun e w' => e = .returned (.bool r) ∧ Touch NoS W w') := fun W hW => by
                    have := r_room q n A2 c2 W (HP.out.hr.rd.touch_no (T5.out.trans hW)) bl1 bs1 (by rw [HP.out.e2]; exact k4)
                    rwa [hr] at this
                  have htd : Touch NoS w5 w5.drew := (Touch.refl _ _).drew
                  have HP5 := Lib.hid (HP.out.no T5.out)
                  clear hr m0 m1 m2 mf0 mf1 mf2 hbz hbz3 c0 c1 c2' c3 c4 hga
                  rw [← hm]
                  clear hm
                  go_region_held3 (fun w' => w'.cell? ⟨bm, 0, none⟩ = some (.int .i64 q.count) ∧ w'.cell? ⟨bm, 1, none⟩ = some (.int .i64 q.bytes) ∧ w'.cell? ⟨bm, 2, none⟩ = some (.slice A2 q.l.length c2) ∧ w'.cell? ⟨w3.heap.size, 0, none⟩ = some (.int .i64 m.op) ∧ w'.cell? ⟨w3.heap.size, 1, none⟩ = some (.int .i64 m.code) ∧ w'.cell? ⟨w3.heap.size, 2, none⟩ = some (.string m.data) ∧ w'.cell? ⟨w4.heap.size + 1, 0, none⟩ = some (.int .i64 m.op) ∧ w'.cell? ⟨w4.heap.size + 1, 1, none⟩ = some (.int .i64 m.code) ∧ w'.cell? ⟨w4.heap.size + 1, 2, none⟩ = some (.string m.data) ∧ w'.cell? ⟨wr.heap.size, 1, none⟩ = some (.int .i64 n) ∧ Touch NoS w5 w')
                    (first | go_keep | (refine ⟨?_, ?_, ?_, ?_, ?_, ?_, ?_, ?_, ?_, ?_, ?_⟩ <;> first | assumption | go_keep) | (refine pk_keep ?_ ht1; assumption) | (refine pk_keep ?_ ht2; assumption))
                    (first
                      | (go_at_call 22; refine (HC1.out _ (pk_touch (bm := bm) (b1 := w3.heap.size) (b2 := w4.heap.size + 1) (b3 := wr.heap.size) (c2 := c2) (q := q) (A2 := A2) (m := m) (n := n) ?_)).mono ?_; assumption; rintro e w' ⟨rfl, ht1⟩)
                      | (go_at_call 23; refine (HC2.out _ (pk_touch (bm := bm) (b1 := w3.heap.size) (b2 := w4.heap.size + 1) (b3 := wr.heap.size) (c2 := c2) (q := q) (A2 := A2) (m := m) (n := n) ?_)).mono ?_; assumption; rintro e w' ⟨rfl, ht2⟩))
                  all_goals
                    go_wp2_with fail
                    go_meet
                    exact ⟨_, _, _, HP5.out.no (pk_touch (bm := bm) (b1 := w3.heap.size) (b2 := w4.heap.size + 1) (b3 := wr.heap.size) (c2 := c2) (q := q) (A2 := A2) (m := m) (n := n) (by assumption))⟩
                · have hk2' : (kind == 2) = false := by simpa using hk2
                  go_wp2_with fail
                  go_meet
                  exact ⟨_, _, _, HP.out.no ((Touch.refl _ _).alloc _)⟩
          case rest =>
            obtain ⟨q9, A9, c9, hp9⟩ := hcut
            obtain ⟨w9, hw9⟩ : ∃ w9, w9 = wc := ⟨_, rfl⟩
            subst hw9
            clear HP m0 m1 m2 mf0 mf1 mf2 hbz c0 c1 c2' c3 c4 HG0 hga
            have HP := Lib.hid hp9
            clear hp9
            go_wp2_with fail
            have hq9 := HP.out.hq
            have hm9 := HP.out.hm
            have hlt9 := hm9.lt
            have b0 : w9.cell? ⟨bm, 0, none⟩ = some (.int .i64 q9.count) := hm9.cell 0
            have b1 : w9.cell? ⟨bm, 1, none⟩ = some (.int .i64 q9.bytes) := hm9.cell 1
            have b2 : w9.cell? ⟨bm, 2, none⟩ = some (.slice A9 q9.l.length c9) := hm9.cell 2
            obtain ⟨bl1, bs1⟩ : q9.l.length ≤ 1024 ∧ evSize q9.l ≤ 4194304 := by obtain ⟨_, _, _, _, _, r1, r2, _⟩ := hq9; exact ⟨r1, r2⟩
            have o1 : (q9.l.length : Int) ≤ count := by have := HP.out.ok.1; have := HP.out.e1; omega
            have o2 : (evSize q9.l : Int) ≤ bytes := by have := HP.out.ok.2; have := HP.out.e2; omega
            have HQ9 : Hid (∀ W, Touch NoS w9 W → IsQ W g q9) := fun W hW => HP.out.hq.no hW
            have HS9 : Hid (∀ W, Touch NoS w9 W → Calls Try.prog 26 #[.agg #[.int .i64 q9.count, .int .i64 q9.bytes, .slice A9 q9.l.length c9]] W fun e w' => e = .returned (.int .i64 (evSize q9.l)) ∧ Touch NoS W w') := fun W hW => r_size q9 A9 c9 W (HP.out.hr.rd.touch_no hW) bl1 bs1
            have htd : Touch NoS w9 w9.drew := (Touch.refl _ _).drew
            have d1 : decide (count < (q9.l.length : Int)) = false := by rw [decide_eq_false_iff_not]; omega
            have d2 : decide (bytes < (evSize q9.l : Int)) = false := by rw [decide_eq_false_iff_not]; omega
            clear hq9 hm9
            go_region_held3 (fun w' => w'.cell? ⟨bm, 0, none⟩ = some (.int .i64 q9.count) ∧ w'.cell? ⟨bm, 1, none⟩ = some (.int .i64 q9.bytes) ∧ w'.cell? ⟨bm, 2, none⟩ = some (.slice A9 q9.l.length c9) ∧ Touch NoS w9 w')
              (first | go_keep | (refine ⟨?_, ?_, ?_, ?_⟩ <;> first | assumption | go_keep))
              (first
                | (go_at_call 24; refine (q_len g q9 _ (HQ9.out _ ?_)).mono ?_; assumption; rintro e w' ⟨rfl, rfl⟩)
                | (go_at_call 25; refine (q_size g q9 _ (HQ9.out _ ?_)).mono ?_; assumption; rintro e w' ⟨rfl, rfl⟩)
                | (go_at_call 26; refine (HS9.out _ ?_).mono ?_; assumption; rintro e w' ⟨rfl, ht1⟩; have k0 := ht1.cell (w := w9.drew) b0; have k1 := ht1.cell (w := w9.drew) b1; have k2 := ht1.cell (w := w9.drew) b2; have k3 := htd.trans ht1))
            all_goals
              go_wp2_with fail
              go_roundg (gk - 1)
              case measure => omega
              case rel => exact ⟨k + 1, q9, A9, c9, by omega, by omega, by go_num, HP.out.no (by first | assumption | exact (Touch.refl _ _).drew)⟩
        · go_wp2
          go_ret
          exact ⟨rfl, HP.out.ht⟩
      · go_wp2
        go_ret
        exact ⟨rfl, HP.out.ht⟩
  · have hnew := new_bad count bytes w hok
    have HNEW := Lib.hid hnew
    clear hnew
    by_cases t1 : count < 1
    · go_enter Try.func3, Try.ntmps3
      go_wp2_with (first | (go_at_call 15; refine HNEW.out.mono ?_; rintro e w1 ⟨rfl, rfl⟩) | (go_at_call 16; refine (q_awake _).mono ?_; rintro e w2 ⟨rfl, ht2⟩))
      go_ret
      exact ⟨rfl, ht2⟩
    by_cases t2 : 1024 < count
    · go_enter Try.func3, Try.ntmps3
      go_wp2_with (first | (go_at_call 15; refine HNEW.out.mono ?_; rintro e w1 ⟨rfl, rfl⟩) | (go_at_call 16; refine (q_awake _).mono ?_; rintro e w2 ⟨rfl, ht2⟩))
      go_ret
      exact ⟨rfl, ht2⟩
    by_cases t3 : bytes < 1
    · go_enter Try.func3, Try.ntmps3
      go_wp2_with (first | (go_at_call 15; refine HNEW.out.mono ?_; rintro e w1 ⟨rfl, rfl⟩) | (go_at_call 16; refine (q_awake _).mono ?_; rintro e w2 ⟨rfl, ht2⟩))
      go_ret
      exact ⟨rfl, ht2⟩
    have t4 : 4194304 < bytes := by omega
    go_enter Try.func3, Try.ntmps3
    go_wp2_with (first | (go_at_call 15; refine HNEW.out.mono ?_; rintro e w1 ⟨rfl, rfl⟩) | (go_at_call 16; refine (q_awake _).mono ?_; rintro e w2 ⟨rfl, ht2⟩))
    go_ret
    exact ⟨rfl, ht2⟩
end Go.Proofs.Ytgbldgeknmkmmaa
