/- The queue's methods: Put, Peek, Take. | The queue laws' own example: awake. | The queue's methods once more: one contract each, whatever comes of it. | bridge: a session in memory; the methods that only read. -/
import Derived.Test.YtlnabpoohnphiaaGreatB31
import Derived.Test.YtlnabpoohnphiaaGreatB24
import Derived.StillTailTactics
/- The queue's methods: Put, Peek, Take. -/
namespace Go.Proofs.YtlnabpoohnphiaaGreat
open Go.RowKit
set_option linter.unusedSimpArgs false
set_option linter.unusedVariables false
set_option maxRecDepth 100000
variable {N : Nat → Prop}

def Qm.room (q : Qm) (x : Int) : Bool := roomB q.count q.bytes q.l.length (evSize q.l) x
def Qm.put (q : Qm) (e : Ev) : Qm := { q with l := q.l ++ [e] }
def Qm.tl (q : Qm) : Qm := { q with l := q.l.tail }
theorem evSize_append (a b : List Ev) : evSize (a ++ b) = evSize a + evSize b := by simp [evSize]

theorem IsQN.no {w w' : World} {g : Nat} {q : Qm} (h : IsQN N w g q) (hW : Touch NoS w w') : IsQN N w' g q := by
  obtain ⟨A, c, hb, h1, h2, h3⟩ := h
  exact ⟨A, c, hb.touch hW (fun h => h), h1, h2.touch_no hW, h3⟩
theorem IsQN.lt {w : World} {g : Nat} {q : Qm} (h : IsQN N w g q) : g < w.heap.size := by
  obtain ⟨A, c, hb, _⟩ := h
  exact hb.lt
theorem q_len (g : Nat) (q : Qm) (w : World) (h : IsQN N w g q) :
    Calls Tryz.prog 51 #[.pointer (some ⟨g, 0, none⟩)] w fun e w' => e = .returned (.int .i64 q.l.length) ∧ w = w' := by
  obtain ⟨A, c, hb, _⟩ := h
  exact len_at g _ _ A _ c _ w hb
theorem q_size (g : Nat) (q : Qm) (w : World) (h : IsQN N w g q) :
    Calls Tryz.prog 52 #[.pointer (some ⟨g, 0, none⟩)] w fun e w' => e = .returned (.int .i64 (evSize q.l)) ∧ w = w' := by
  obtain ⟨A, c, hb, _⟩ := h
  exact size_at g _ _ A _ c _ w hb
theorem q_room (g : Nat) (q : Qm) (x : Int) (r : Bool) (hr : q.room x = r) (w : World) (h : IsQN N w g q) :
    Calls Tryz.prog 39 #[.pointer (some ⟨g, 0, none⟩), .int .i64 x] w fun e w' => e = .returned (.bool r) ∧ ∃ k, w' = w.drewN k := by
  obtain ⟨A, c, hb, _, _, _, hs, _, _, hb0, hb1, _⟩ := h
  subst hr
  exact room_at g _ _ A _ c _ x w hb hb0 hb1 (by omega) (by omega)

theorem q_put_no (g : Nat) (q : Qm) (x : Ev) (hr : q.room x.data.size = false) (w : World) (h : IsQN N w g q) :
    Calls Tryz.prog 60 #[.pointer (some ⟨g, 0, none⟩), x.val] w fun e w' => e = .returned (.bool false) ∧ Touch NoS w w' := by
  have HL : Hid (∀ W, Touch NoS w W → IsQN N W g q) := fun W hW => by
    obtain ⟨A, c, hb, h1, h2, h3⟩ := h
    exact ⟨A, c, hb.touch hW (fun h => h), h1, h2.touch_no hW, h3⟩
  have HR := Lib.hid hr
  clear h hr
  unfold Ev.val
  go_enter Tryz.func60, Tryz.ntmps60
  go_wp2_with (go_at_call 39; refine (q_room g q _ false HR.out _ (HL.out _ ((Touch.refl _ _).alloc _))).mono ?_; rintro e w1 ⟨rfl, k, rfl⟩)
  go_ret
  exact ⟨rfl, ((Touch.refl _ _).alloc _).drewN _⟩

set_option maxHeartbeats 800000 in
theorem q_put_yes (g : Nat) (q : Qm) (x : Ev) (hr : q.room x.data.size = true) (w : World) (h : IsQN N w g q) (hN : ∀ k, N k → k < w.heap.size := by exact fun _ h => h.elim) :
    Calls Tryz.prog 60 #[.pointer (some ⟨g, 0, none⟩), x.val] w fun e w' => e = .returned (.bool true) ∧ IsQN N w' g (q.put x) ∧ Touch (At g) w w' := by
  have hroom : (q.l.length : Int) < q.count ∧ (x.data.size : Int) ≤ q.bytes - (evSize q.l : Int) := by
    simp [Qm.room, roomB] at hr
    exact hr
  obtain ⟨A, c, hb, hlc, hrow, hl1, hs1, hc0, hc1, hb0, hb1, hav⟩ := h
  have HAV := Lib.hid hav
  have HN := Lib.hid hN
  clear hN
  have hg := hb.lt
  have HL : Hid (∀ W, Touch NoS w W → IsQN N W g q) := fun W hW => ⟨A, c, hb.touch hW (fun h => h), hlc, hrow.touch_no hW, hl1, hs1, hc0, hc1, hb0, hb1, HAV.out⟩
  clear hav
  have HB : Hid (∀ W, Touch NoS w W → Blk W g 119 #[.int .i64 q.count, .int .i64 q.bytes, .slice A q.l.length c, .int .i64 (evSize q.l)]) := fun W hW => hb.touch hW (fun h => h)
  have HW : Hid (∀ W, Touch NoS w W → Row W 37 A (evCells q.l)) := fun W hW => hrow.touch_no hW
  have HR := Lib.hid hr
  clear hb hrow hr
  unfold Ev.val
  go_enter Tryz.func60, Tryz.ntmps60
  go_wp2_with fail
  refine (q_room g q _ true HR.out _ (HL.out _ ((Touch.refl _ _).alloc _))).mono ?_
  rintro e w1 ⟨rfl, k, hw1⟩
  have hbx : Blk w1 w.heap.size 37 #[.int .i64 x.op, .int .i64 x.code, .string x.data] := by rw [hw1]; exact Blk.new _ _ _
  have HT : Hid (Touch NoS w w1) := by rw [hw1]; exact ((Touch.refl _ _).alloc _).drewN _
  have hz : w.heap.size < w1.heap.size := hbx.lt
  have x0 := hbx.cell 0
  have x1 := hbx.cell 1
  have x2 := hbx.cell 2
  have HX := Lib.hid hbx
  simp at x0 x1 x2
  clear hw1 hbx
  go_wp2_with fail
  go_still_tail 4, (by kernel_rfl)
  change wpList _ _ _ _ _ w1.drew
  go_wp2_with fail
  refine (push_at g _ _ A c _ q.l x _ (HB.out _ HT.out.drew) hlc hl1 (HW.out _ HT.out.drew)).mono ?_
  rintro e w2 ⟨rfl, ht2, A', c', hb2, hlc', hr2, hnew⟩
  have hw01 := HT.out.size
  have HNEW : Hid (∀ a : Addr, A' = some a → (q.put x).l ≠ [] → ¬ N a.block) := fun a ha _ hn => by
    have h1 := HN.out _ hn
    have h2 : w1.heap.size ≤ a.block := hnew a ha
    omega
  clear hnew
  have hbx := HX.out.drew.touch ht2 (by show ¬ w.heap.size = g; omega)
  have HT2 : Hid (Touch (At g) w w2) := HT.out.drew.of_no.trans ht2
  have hg2 := hb2.lt
  have hz2 := hbx.lt
  have y0 := hbx.cell 0
  have y1 := hbx.cell 1
  have y2 := hbx.cell 2
  have z3 := hb2.cell 3
  have f3 := hb2.frozen 3
  simp at y0 y1 y2 z3
  have HB2 := Lib.hid hb2
  have HW2 := Lib.hid hr2
  have HX2 := Lib.hid hbx
  clear HX HB HW HL x0 x1 x2 hbx hb2 hr2 ht2
  go_wp2_with fail
  go_region
  all_goals
    go_wp2
    go_ret
    refine ⟨rfl, ⟨A', c', ?_, hlc', ?_, ?_, ?_, hc0, hc1, hb0, hb1, HNEW.out⟩, (HT2.out.setAt _ _).drew⟩
    · have := (HB2.out.set_ 3 (.int .i64 ((evSize q.l : Int) + x.data.size))).drew
      simpa [Qm.put, evSize_append, evSize] using this
    · exact (HW2.out.touch_at ((Touch.refl (At g) _).setAt 3 _) HB2.out (by decide)).touch_no (Touch.refl _ _).drew
    · simp [Qm.put]; omega
    · simp [Qm.put, evSize_append, evSize] at hroom ⊢; omega

theorem q_peek_none (g : Nat) (q : Qm) (hq : q.l = []) (w : World) (h : IsQN N w g q) :
    Calls Tryz.prog 67 #[.pointer (some ⟨g, 0, none⟩)] w fun e w' => e = .returned (.tuple #[Ev.zero.val, .bool false]) ∧ Touch NoS w w' := by
  obtain ⟨A, c, hb, _⟩ := h
  rw [hq] at hb
  have HB : Hid (∀ W, Touch NoS w W → Blk W g 119 #[.int .i64 q.count, .int .i64 q.bytes, .slice A 0 c, .int .i64 (evSize [])]) := fun W hW => hb.touch hW (fun h => h)
  clear hb hq
  go_enter Tryz.func67, Tryz.ntmps67
  go_wp2_with fail
  refine (first_none g _ _ A c _ _ (HB.out _ ((Touch.refl _ _).alloc _))).mono ?_
  rintro e w1 ⟨rfl, ht⟩
  have hx := (Blk.new w 37 #[.int .i64 0, .int .i64 0, .string ⟨#[]⟩]).touch ht (fun h => h)
  have x0 := hx.cell 0
  have x1 := hx.cell 1
  have x2 := hx.cell 2
  have f0 := hx.frozen 0
  have f1 := hx.frozen 1
  have f2 := hx.frozen 2
  simp at x0 x1 x2
  have HT : Hid (Touch NoS w w1) := ((Touch.refl _ _).alloc _).trans ht
  clear hx ht
  unfold Ev.val Ev.zero
  go_wp2
  exact bodyPost_ret (v := .tuple #[Ev.zero.val, .bool false]) (by simp [results, Tryz.results67, go_sem, Ev.val, Ev.zero, x0, x1, x2]) rfl ⟨rfl, ((HT.out.setNew (by simp) _).setNew (by simp) _).setNew (by simp) _⟩

theorem q_peek_some (g : Nat) (q : Qm) (e0 : Ev) (l : List Ev) (hq : q.l = e0 :: l) (w : World) (h : IsQN N w g q) :
    Calls Tryz.prog 67 #[.pointer (some ⟨g, 0, none⟩)] w fun e w' => e = .returned (.tuple #[e0.val, .bool true]) ∧ Touch NoS w w' := by
  obtain ⟨A, c, hb, _, hr, _⟩ := h
  rw [hq] at hb hr
  have HB : Hid (∀ W, Touch NoS w W → Blk W g 119 #[.int .i64 q.count, .int .i64 q.bytes, .slice A (e0 :: l).length c, .int .i64 (evSize (e0 :: l))]) := fun W hW => hb.touch hW (fun h => h)
  have HW : Hid (∀ W, Touch NoS w W → Row W 37 A (evCells (e0 :: l))) := fun W hW => hr.touch_no hW
  clear hb hq hr
  go_enter Tryz.func67, Tryz.ntmps67
  go_wp2_with fail
  refine (first_some g _ _ A _ c _ e0 l _ (HB.out _ ((Touch.refl _ _).alloc _)) rfl (HW.out _ ((Touch.refl _ _).alloc _))).mono ?_
  rintro e w1 ⟨rfl, ht⟩
  have hx := (Blk.new w 37 #[.int .i64 0, .int .i64 0, .string ⟨#[]⟩]).touch ht (fun h => h)
  have x0 := hx.cell 0
  have x1 := hx.cell 1
  have x2 := hx.cell 2
  have f0 := hx.frozen 0
  have f1 := hx.frozen 1
  have f2 := hx.frozen 2
  simp at x0 x1 x2
  have HT : Hid (Touch NoS w w1) := ((Touch.refl _ _).alloc _).trans ht
  clear hx ht
  unfold Ev.val
  go_wp2
  exact bodyPost_ret (v := .tuple #[e0.val, .bool true]) (by simp [results, Tryz.results67, go_sem, Ev.val, x0, x1, x2]) rfl ⟨rfl, ((HT.out.setNew (by simp) _).setNew (by simp) _).setNew (by simp) _⟩

theorem q_take_none (g : Nat) (q : Qm) (hq : q.l = []) (w : World) (h : IsQN N w g q) :
    Calls Tryz.prog 65 #[.pointer (some ⟨g, 0, none⟩)] w fun e w' => e = .returned (.tuple #[Ev.zero.val, .bool false]) ∧ Touch NoS w w' := by
  have HQ : Hid (∀ W, Touch NoS w W → IsQN N W g q) := fun W hW => h.no hW
  have Hq := Lib.hid hq
  clear h hq
  go_enter Tryz.func65, Tryz.ntmps65
  go_wp2_with fail
  refine (q_peek_none g q Hq.out _ (HQ.out _ ((Touch.refl _ _).alloc _))).mono ?_
  rintro e w1 ⟨rfl, ht⟩
  have hx := (Blk.new w 37 #[.int .i64 0, .int .i64 0, .string ⟨#[]⟩]).touch ht (fun h => h)
  have hz := hx.lt
  have x0 := hx.cell 0
  have x1 := hx.cell 1
  have x2 := hx.cell 2
  have f0 := hx.frozen 0
  have f1 := hx.frozen 1
  have f2 := hx.frozen 2
  simp at x0 x1 x2
  have HT : Hid (Touch NoS w w1) := ((Touch.refl _ _).alloc _).trans ht
  clear hx ht
  unfold Ev.val Ev.zero
  go_wp2
  exact bodyPost_ret (v := .tuple #[Ev.zero.val, .bool false]) (by simp [results, Tryz.results65, go_sem, Ev.val, Ev.zero, x0, x1, x2, hz]) rfl ⟨rfl, (((HT.out.setNew (by simp) _).setNew (by simp) _).setNew (by simp) _).alloc _⟩

theorem take_end {w1 : World} {g n : Nat} {c b : Int} {v : Value} {s s2 : Int} {e0 : Ev} (hb : Blk w1 g 119 #[.int .i64 c, .int .i64 b, v, .int .i64 s]) (hn : g ≠ n) (v2 : Value) {o : Obj} :
    Blk ((((((w1.setCell ⟨g, 2, none⟩ v2).setCell ⟨g, 3, none⟩ (.int .i64 s2)).setCell ⟨n, 0, none⟩ (.int .i64 e0.op)).setCell ⟨n, 1, none⟩ (.int .i64 e0.code)).setCell ⟨n, 2, none⟩ (.string e0.data)).alloc o).drew g 119 #[.int .i64 c, .int .i64 b, v2, .int .i64 s2] := by
  have := ((((((hb.set_ 2 v2).set_ 3 (.int .i64 s2)).far (p := ⟨n, 0, none⟩) hn (.int .i64 e0.op)).far (p := ⟨n, 1, none⟩) hn (.int .i64 e0.code)).far (p := ⟨n, 2, none⟩) hn (.string e0.data)).alloc o).drew
  simpa using this

set_option maxHeartbeats 800000 in
theorem q_take_some (g : Nat) (q : Qm) (e0 : Ev) (l : List Ev) (hq : q.l = e0 :: l) (w : World) (h : IsQN N w g q) :
    Calls Tryz.prog 65 #[.pointer (some ⟨g, 0, none⟩)] w fun e w' => e = .returned (.tuple #[e0.val, .bool true]) ∧ IsQN N w' g { q with l := l } ∧ Touch (At g) w w' := by
  have HQ : Hid (∀ W, Touch NoS w W → IsQN N W g q) := fun W hW => h.no hW
  obtain ⟨A, c, hb, hlc, hrow, hl1, hs1, hc0, hc1, hb0, hb1, hav⟩ := h
  have HAV := Lib.hid hav
  clear hav
  have hg := hb.lt
  have hlen : q.l.length = l.length + 1 := by rw [hq]; rfl
  have hsz : evSize q.l = e0.data.size + evSize l := by rw [hq]; simp [evSize]
  have Hq := Lib.hid hq
  have HL := Lib.hid hlen
  have HS := Lib.hid hsz
  have hpos : 1 ≤ q.l.length := by omega
  have hs2 : e0.data.size ≤ evSize q.l := by omega
  have HW := Lib.hid hrow
  obtain ⟨g', off, cs, rfl, _, _⟩ := hrow (by rw [hq]; simp [evCells, Ev.cs])
  have HB : Hid (∀ W, Touch NoS w W → Blk W g 119 #[.int .i64 q.count, .int .i64 q.bytes, .slice (some ⟨g', off, none⟩) q.l.length c, .int .i64 (evSize q.l)]) := fun W hW => hb.touch hW (fun h => h)
  have HD : Hid (∀ W, Touch (At g) w W → Row W 37 (some ⟨g', off + 3, none⟩) (evCells l)) := fun W hW => by
    have h3 := HW.out.touch_at hW hb (by decide)
    rw [hq] at h3
    intro hx
    obtain ⟨g1, off1, cs1, hA, hb1, hc1⟩ := h3 (by simp [evCells, Ev.cs])
    injection hA with hA
    injection hA with e1 e2
    subst e1 e2
    refine ⟨g', off + 3, cs1, rfl, hb1, fun j u hu => ?_⟩
    have := hc1 (3 + j) u (by rw [show evCells (e0 :: l) = e0.cs ++ evCells l from by simp [evCells], List.getElem?_append_right (by simp [Ev.cs])]; simpa [Ev.cs] using hu)
    rwa [← Nat.add_assoc] at this
  clear hb hq hlen hsz
  go_enter Tryz.func65, Tryz.ntmps65
  go_wp2_with fail
  refine (q_peek_some g q e0 l Hq.out _ (HQ.out _ ((Touch.refl _ _).alloc _))).mono ?_
  rintro e w1 ⟨rfl, ht⟩
  have hx := (Blk.new w 37 #[.int .i64 0, .int .i64 0, .string ⟨#[]⟩]).touch ht (fun h => h)
  have HT : Hid (Touch NoS w w1) := ((Touch.refl _ _).alloc _).trans ht
  have hz := hx.lt
  have x0 := hx.cell 0
  have x1 := hx.cell 1
  have x2 := hx.cell 2
  have f0 := hx.frozen 0
  have f1 := hx.frozen 1
  have f2 := hx.frozen 2
  have hb1' := HB.out _ HT.out
  have hg1 := hb1'.lt
  have q2 := hb1'.cell 2
  have q3 := hb1'.cell 3
  have g2 := hb1'.frozen 2
  have g3 := hb1'.frozen 3
  simp at x0 x1 x2 q2 q3
  have HBX := Lib.hid hb1'
  have HXX := Lib.hid hx
  clear hx ht hb1'
  unfold Ev.val
  by_cases hone : c = 1
  all_goals
    go_wp2_with fail
    go_region
    all_goals
      go_wp2
      refine bodyPost_ret (v := .tuple #[e0.val, .bool true]) (by simp [results, Tryz.results65, go_sem, Ev.val, x0, x1, x2, hz]) rfl ⟨rfl, ?_, (((((HT.out.of_no.setAt 2 _).setAt 3 _).setNew (by simp) _).setNew (by simp) _).setNew (by simp) _ |>.alloc _).drew⟩
      have hb2 := take_end (n := w.heap.size) (e0 := e0) (s2 := (evSize q.l : Int) - e0.data.size) HBX.out (by omega)
      have h3 := HS.out
      have h4 : (evSize q.l : Int) - e0.data.size = evSize l := by omega
      have h5 : q.l.length - 1 = l.length := by rw [HL.out]; rfl
      have h6 := HL.out
      rw [h4] at hb2
      rw [h4, h5]
      refine ⟨_, _, hb2 _, ?_, ?_, ?_, ?_, hc0, hc1, hb0, hb1, fun a ha _ => by injection ha with ha; subst ha; exact HAV.out ⟨g', off, none⟩ rfl (by rw [Hq.out]; simp)⟩
      · show l.length ≤ _; omega
      · first
        | exact HD.out _ ((((((HT.out.of_no.setAt 2 _).setAt 3 _).setNew (by simp) _).setNew (by simp) _).setNew (by simp) _ |>.alloc _).drew)
        | (rw [List.eq_nil_of_length_eq_zero (l := l) (by omega)]; exact Row.nil_ _ _ _)
      · show l.length ≤ _; omega
      · show evSize l ≤ _; omega
end Go.Proofs.YtlnabpoohnphiaaGreat
/- The queue laws' own example: awake. -/
namespace Go.Proofs.YtlnabpoohnphiaaGreat
open Go.RowKit
set_option linter.unusedSimpArgs false
set_option linter.unusedVariables false

theorem q_new {N : Nat → Prop} (c b : Int) (w : World) (h1 : 1 ≤ c) (h2 : c ≤ 1024) (h3 : 1 ≤ b) (h4 : b ≤ 4194304) :
    Calls Tryz.prog 33 #[.int .i64 c, .int .i64 b] w fun e w' => ∃ g, e = .returned (.tuple #[.pointer (some ⟨g, 0, none⟩), .int .i64 0]) ∧ w.heap.size ≤ g ∧ IsQN N w' g ⟨c, b, []⟩ ∧ Touch NoS w w' :=
  (new_good c b w h1 h2 h3 h4).mono fun _ _ ⟨he, hq, ht⟩ => ⟨_, he, Nat.le_refl _, hq, ht⟩

def E1 : Ev := ⟨1, 0, ⟨#[97, 98, 99]⟩⟩
def E2 : Ev := ⟨1, 0, ⟨#[100, 101]⟩⟩
def E3 : Ev := ⟨1, 0, ⟨#[102]⟩⟩
theorem E1_val : E1.val = .agg #[.int .i64 1, .int .i64 0, .string ⟨#[97, 98, 99]⟩] := rfl
theorem E2_val : E2.val = .agg #[.int .i64 1, .int .i64 0, .string ⟨#[100, 101]⟩] := rfl

end Go.Proofs.YtlnabpoohnphiaaGreat
/- The queue's methods once more: one contract each, whatever comes of it. -/
namespace Go.Proofs.YtlnabpoohnphiaaGreat
open Go.RowKit
set_option linter.unusedSimpArgs false
set_option linter.unusedVariables false
variable {N : Nat → Prop}

def Qm.putI (q : Qm) (e : Ev) : Qm := if q.room e.data.size then q.put e else q
def Qm.hd (q : Qm) : Ev := q.l.headD Ev.zero
def Qm.any (q : Qm) : Bool := !q.l.isEmpty

theorem IsQN.far {N' : Nat → Prop} {w w' : World} {g g' : Nat} {q q' : Qm} (h : IsQN N w g q) (k : Touch (At g') w w') (h' : IsQN N' w g' q') (hne : g ≠ g') : IsQN N w' g q := by
  obtain ⟨A, c, hb, h1, h2, h3⟩ := h
  obtain ⟨A', c', hb', _⟩ := h'
  exact ⟨A, c, hb.touch k (fun e => hne e), h1, h2.touch_at k hb' (by decide), h3⟩

theorem q_put (g : Nat) (q : Qm) (x : Ev) (w : World) (h : IsQN N w g q) (hN : ∀ k, N k → k < w.heap.size := by exact fun _ h => h.elim) :
    Calls Tryz.prog 60 #[.pointer (some ⟨g, 0, none⟩), x.val] w fun e w' => e = .returned (.bool (q.room x.data.size)) ∧ IsQN N w' g (q.putI x) ∧ Touch (At g) w w' := by
  by_cases hr : q.room x.data.size = true
  · exact (q_put_yes g q x hr w h hN).mono fun e w' ⟨h1, h2, h3⟩ => ⟨by rw [h1, hr], by rw [Qm.putI, if_pos hr]; exact h2, h3⟩
  · have hr' : q.room x.data.size = false := by simpa using hr
    exact (q_put_no g q x hr' w h).mono fun e w' ⟨h1, h3⟩ => ⟨by rw [h1, hr'], by rw [Qm.putI, if_neg hr]; exact h.no h3, h3.of_no⟩
theorem q_take (g : Nat) (q : Qm) (w : World) (h : IsQN N w g q) :
    Calls Tryz.prog 65 #[.pointer (some ⟨g, 0, none⟩)] w fun e w' => e = .returned (.tuple #[q.hd.val, .bool q.any]) ∧ IsQN N w' g q.tl ∧ Touch (At g) w w' := by
  rcases hl : q.l with _ | ⟨e0, l⟩
  · have ht : q.tl = q := by cases q; simp only at hl; subst hl; rfl
    exact (q_take_none g q hl w h).mono fun e w' ⟨h1, h3⟩ => ⟨by rw [h1]; simp [Qm.hd, Qm.any, hl], by rw [ht]; exact h.no h3, h3.of_no⟩
  · have ht : q.tl = { q with l := l } := by simp [Qm.tl, hl]
    exact (q_take_some g q e0 l hl w h).mono fun e w' ⟨h1, h2, h3⟩ => ⟨by rw [h1]; simp [Qm.hd, Qm.any, hl], by rw [ht]; exact h2, h3⟩
theorem q_peek (g : Nat) (q : Qm) (w : World) (h : IsQN N w g q) :
    Calls Tryz.prog 67 #[.pointer (some ⟨g, 0, none⟩)] w fun e w' => e = .returned (.tuple #[q.hd.val, .bool q.any]) ∧ Touch NoS w w' := by
  rcases hl : q.l with _ | ⟨e0, l⟩
  · exact (q_peek_none g q hl w h).mono fun e w' ⟨h1, h3⟩ => ⟨by rw [h1]; simp [Qm.hd, Qm.any, hl], h3⟩
  · exact (q_peek_some g q e0 l hl w h).mono fun e w' ⟨h1, h3⟩ => ⟨by rw [h1]; simp [Qm.hd, Qm.any, hl], h3⟩
theorem Qm.any_eq (q : Qm) : q.any = decide ((0 : Int) < q.l.length) := by
  rcases hl : q.l with _ | ⟨e, l⟩ <;> simp [Qm.any, hl]
theorem Qm.room_eq (q : Qm) (x : Int) : q.room x = (decide ((q.l.length : Int) < q.count) && (decide (0 ≤ x) && decide (x ≤ q.bytes - evSize q.l))) := rfl
end Go.Proofs.YtlnabpoohnphiaaGreat
/- bridge: a session in memory; the methods that only read. -/
namespace Go.Proofs.YtlnabpoohnphiaaGreat
open Go.RowKit
set_option linter.unusedSimpArgs false
set_option linter.unusedVariables false

/-- What of its configuration a session never looks at. -/
structure Bx where
  x0 : Value
  x1 : Value
  x2 : Value
  x4 : Value
  x7 : Value
  x8 : Value
def brC (X : Bx) (K : Bk) (gl gq : Bool → Nat) (B : Br) : Array Value :=
  #[X.x0, X.x1, X.x2, .int .i64 K.message, X.x4, .int .i64 K.count, .int .i64 K.bytes, X.x7, X.x8, .int .i64 K.idle, .int .i64 K.pong, .int .i64 K.close,
    .pointer (some ⟨gl false, 0, none⟩), .pointer (some ⟨gq false, 0, none⟩), .bool (B false).lost, .int .i64 (B false).last, .int .i64 (B false).heard, .bool (B false).asked, .int .i64 (B false).ending,
    .pointer (some ⟨gl true, 0, none⟩), .pointer (some ⟨gq true, 0, none⟩), .bool (B true).lost, .int .i64 (B true).last, .int .i64 (B true).heard, .bool (B true).asked, .int .i64 (B true).ending]
structure IsB (E : Nat → Prop) (w : World) (g : Nat) (X : Bx) (K : Bk) (gl gq : Bool → Nat) (B : Br) : Prop where
  blk : Blk w g 80 (brC X K gl gq B)
  legs : Legs E w gl K.k (fun i => (B i).leg)
  q : ∀ i, IsQ w (gq i) ⟨K.count, K.bytes, (B i).q⟩
  ne : gq false ≠ gq true
  new : ¬ E g
  newq : ∀ i, ¬ E (gq i)
/-- The types of a session's blocks. -/
def BrT (t : TypeId) : Prop := LegT t ∨ t = 119 ∨ t = 80
section
variable {E : Nat → Prop} {w w' : World} {g : Nat} {X : Bx} {K : Bk} {gl gq : Bool → Nat} {B B' : Br}
theorem IsQN.types {w w' : World} {g : Nat} {q : Qm} {T : TypeId → Prop} (h : IsQN NoS w g q) (k : ByT T w w') (h1 : ¬ T 119) (h2 : ¬ T 37) : IsQN NoS w' g q := by
  obtain ⟨A, c, hb, q1, q2, q3⟩ := h
  exact ⟨A, c, k.blk hb h1, q1, k.row q2 h2, q3⟩
theorem IsB.no (h : IsB E w g X K gl gq B) (t : Touch NoS w w') : IsB E w' g X K gl gq B :=
  ⟨h.blk.touch t (fun h => h), h.legs.no t, fun i => (h.q i).no t, h.ne, h.new, h.newq⟩
theorem IsB.grow (h : IsB E w g X K gl gq B) (t : Touch NoS w w') : IsB (fun b => E b ∨ (w.heap.size ≤ b ∧ b < w'.heap.size)) w' g X K gl gq B := by
  refine ⟨h.blk.touch t (fun h => h), h.legs.grow t, fun i => (h.q i).no t, h.ne, fun he => ?_, fun i he => ?_⟩
  · rcases he with he | he
    · exact h.new he
    · have := h.blk.lt
      omega
  · rcases he with he | he
    · exact h.newq i he
    · have := (h.q i).lt
      omega
theorem IsB.less {E' : Nat → Prop} (h : IsB E w g X K gl gq B) (he : ∀ b, E' b → E b) : IsB E' w g X K gl gq B :=
  ⟨h.blk, h.legs.less he, h.q, h.ne, fun h2 => h.new (he _ h2), fun i h2 => h.newq i (he _ h2)⟩
theorem IsB.lt (h : IsB E w g X K gl gq B) {b : Nat} (hb : E b) : b < w.heap.size := h.legs.lt hb
theorem Touch.rd {S : Nat → Prop} {w w' : World} (k : Touch S w w') {s off : Nat} {xs : List Value} (hr : Rd w (some ⟨s, off, none⟩) xs) (hs : ¬ S s) : Rd w' (some ⟨s, off, none⟩) xs := fun hx => by
  obtain ⟨g, o, hA, hg, hc⟩ := hr hx
  injection hA with hA
  injection hA with h1 h2
  subst h1 h2
  exact ⟨s, off, rfl, Nat.lt_of_lt_of_le hg k.size, fun j u hu => (World.cell?_of_block (k.block s hg hs)).trans (hc j u hu)⟩
theorem ByT.trans {T : TypeId → Prop} {a b c : World} (h : ByT T a b) (k : ByT T b c) : ByT T a c := by
  obtain ⟨S1, t1, h1⟩ := h
  obtain ⟨S2, t2, h2⟩ := k
  refine ⟨fun x => x < a.heap.size ∧ (S1 x ∨ S2 x), ⟨t2.os.trans t1.os, t2.tape.trans t1.tape, t2.output.trans t1.output, Nat.le_trans t1.size t2.size, fun x hx hn => ?_⟩, fun x hx => ?_⟩
  · have n1 : ¬ S1 x := fun h => hn ⟨hx, .inl h⟩
    have n2 : ¬ S2 x := fun h => hn ⟨hx, .inr h⟩
    exact (t2.block x (Nat.lt_of_lt_of_le hx t1.size) n2).trans (t1.block x hx n1)
  · by_cases hs : S1 x
    · exact h1 x hs
    · have h3 : S2 x := hx.2.resolve_left hs
      obtain ⟨t, cs, hc, hT⟩ := h2 x h3
      exact ⟨t, cs, (t1.block x hx.1 hs).symm.trans hc, hT⟩
/-- The session's own block is written. -/
theorem IsB.put (h : IsB E w g X K gl gq B) (hb : Blk w' g 80 (brC X K gl gq B')) (hk : Touch (At g) w w') (hl : ∀ i, (B' i).leg = (B i).leg) (hq : ∀ i, (B' i).q = (B i).q) : IsB E w' g X K gl gq B' := by
  refine ⟨hb, ?_, fun i => ?_, h.ne, h.new, h.newq⟩
  · have := h.legs.outer hk (fun b (hb' : b = g) => by subst hb'; exact ⟨_, _, h.blk, by decide⟩)
    rw [show (fun i => (B' i).leg) = fun i => (B i).leg from funext hl]
    exact this
  · rw [hq i]
    exact (h.q i).types (T := fun t => t = 80) (ByT.at_ hk h.blk rfl) (by decide) (by decide)
/-- A leg does something. -/
theorem IsB.leg (h : IsB E w g X K gl gq B) {i : Bool} {L : Lg} (hl : Legs E w' gl K.k (upd (fun i => (B i).leg) i L)) (k : ByT LegT w w') : IsB E w' g X K gl gq (B.set i { B i with leg := L }) := by
  refine ⟨?_, ?_, fun j => ?_, h.ne, h.new, h.newq⟩
  · have hc : brC X K gl gq (B.set i { B i with leg := L }) = brC X K gl gq B := by cases i <;> rfl
    rw [hc]
    exact k.blk h.blk (out_not (by decide))
  · rw [show (fun j => (B.set i { B i with leg := L } j).leg) = upd (fun i => (B i).leg) i L from funext fun j => by
      unfold Br.set upd
      split <;> rfl]
    exact hl
  · have : (B.set i { B i with leg := L } j).q = (B j).q := by
      unfold Br.set
      split
      · rename_i h
        rw [h]
      · rfl
    rw [this]
    exact (h.q j).types k (out_not (by decide)) (out_not (by decide))
/-- A queue does something. -/
theorem IsB.que (h : IsB E w g X K gl gq B) {i : Bool} {l : List Ev} (hq : IsQ w' (gq i) ⟨K.count, K.bytes, l⟩) (k : Touch (At (gq i)) w w') : IsB E w' g X K gl gq (B.set i { B i with q := l }) := by
  obtain ⟨A, c, hb, -⟩ := h.q i
  have hT : ByT (fun t => t = 119) w w' := ByT.at_ k hb rfl
  refine ⟨?_, ?_, fun j => ?_, h.ne, h.new, h.newq⟩
  · have hc : brC X K gl gq (B.set i { B i with q := l }) = brC X K gl gq B := by cases i <;> rfl
    rw [hc]
    exact hT.blk h.blk (by decide)
  · rw [show (fun j => (B.set i { B i with q := l } j).leg) = fun j => (B j).leg from funext fun j => by
      unfold Br.set
      split
      · rename_i h
        rw [h]
      · rfl]
    exact h.legs.outer k (fun b (hb' : b = gq i) => by subst hb'; exact ⟨_, _, hb, by decide⟩)
  · unfold Br.set
    split
    · rename_i hj
      subst hj
      exact hq
    · rename_i hj
      have hne : gq j ≠ gq i := by
        cases i <;> cases j
        · exact absurd rfl hj
        · exact fun e => h.ne e.symm
        · exact h.ne
        · exact absurd rfl hj
      exact (h.q j).far k (h.q i) hne
theorem IsB.side (h : IsB E w g X K gl gq B) (i : Bool) : ∃ w0, LgAt w0 w (gl i) (K.k i) (B i).leg := lb_side i h.legs
/-- Where a side lies. -/
def so (i : Bool) : Nat := 12 + i.toNat * 7
set_option maxHeartbeats 3200000 in
set_option maxRecDepth 100000 in
theorem s_deaf (h : IsB E w g X K gl gq B) (i : Bool) : Calls Tryz.prog 38 #[.pointer (some ⟨g, so i, none⟩)] w fun e w' => e = .returned (.bool (B i).deaf) ∧ w = w' := by
  have hb := h.blk
  have c0 := hb.cell (so i)
  have c2 := hb.cell (so i + 2)
  have cl := hb.lt
  obtain ⟨w0, hsd⟩ := h.side i
  have HG := Lib.hid (lg_got hsd)
  have HW := Lib.hid (lg_wrong hsd)
  clear hsd
  have hc0 : w.cell? ⟨g, so i, none⟩ = some (.pointer (some ⟨gl i, 0, none⟩)) := by rw [c0]; cases i <;> rfl
  have hc2 : w.cell? ⟨g, so i + 2, none⟩ = some (.bool (B i).lost) := by rw [c2]; cases i <;> rfl
  obtain ⟨d, hd⟩ : ∃ d, d = (B i).deaf := ⟨_, rfl⟩
  rw [← hd]
  unfold Sd.deaf Lg.down at hd
  obtain ⟨o, ho⟩ : ∃ o, o = so i := ⟨_, rfl⟩
  obtain ⟨gi, hgi⟩ : ∃ x, x = gl i := ⟨_, rfl⟩
  obtain ⟨lost, hl⟩ : ∃ x, x = (B i).lost := ⟨_, rfl⟩
  obtain ⟨got, hgt⟩ : ∃ x, x = (B i).leg.got := ⟨_, rfl⟩
  obtain ⟨wr, hwr⟩ : ∃ x, x = (B i).leg.wrong := ⟨_, rfl⟩
  rw [← ho] at hc0 hc2 ⊢
  rw [← hgi] at hc0 HG HW
  rw [← hl] at hc2 hd
  rw [← hgt] at HG hd
  rw [← hwr] at HW hd
  clear c0 c2 hb h ho hgi hl hgt hwr
  cases lost with
  | true =>
    simp only [Bool.true_or] at hd
    subst hd
    go_enter Tryz.func38, Tryz.ntmps38
    go_wp2_with fail
    go_ret
    exact ⟨rfl, rfl⟩
  | false =>
    cases got with
    | true =>
      simp only [Bool.true_or, Bool.false_or] at hd
      subst hd
      go_enter Tryz.func38, Tryz.ntmps38
      go_wp2_with (go_at_call 44; refine HG.out.mono ?_; rintro e w2 ⟨rfl, rfl⟩)
      go_ret
      exact ⟨rfl, rfl⟩
    | false =>
      simp only [Bool.false_or] at hd
      subst hd
      by_cases h0 : wr = 0
      · subst h0
        go_enter Tryz.func38, Tryz.ntmps38
        go_wp2_with (first | (go_at_call 44; refine HG.out.mono ?_; rintro e w2 ⟨rfl, rfl⟩) | (go_at_call 45; refine HW.out.mono ?_; rintro e w2 ⟨rfl, rfl⟩))
        go_ret
        exact ⟨by simp, rfl⟩
      · have hq : (wr != 0) = true := by rw [bne_iff_ne]; exact h0
        go_enter Tryz.func38, Tryz.ntmps38
        go_wp2_with (first | (go_at_call 44; refine HG.out.mono ?_; rintro e w2 ⟨rfl, rfl⟩) | (go_at_call 45; refine HW.out.mono ?_; rintro e w2 ⟨rfl, rfl⟩))
        go_ret
        exact ⟨by simp [h0], rfl⟩
set_option maxHeartbeats 3200000 in
set_option maxRecDepth 100000 in
theorem s_end (h : IsB E w g X K gl gq B) (i : Bool) (code : Int) : Calls Tryz.prog 61 #[.pointer (some ⟨g, so i, none⟩), .int .i64 code] w fun e w' => e = .returned (.tuple #[]) ∧ IsB E w' g X K gl gq (B.set i ((B i).end_ code)) ∧ Touch (At g) w w' := by
  have hb := h.blk
  have c3 := hb.cell (so i + 3)
  have cl := hb.lt
  have hfz := hb.frozen (so i + 3)
  have hc3 : w.cell? ⟨g, so i + 3, none⟩ = some (.int .i64 (B i).last) := by rw [c3]; cases i <;> rfl
  have HSET : Hid (0 > (B i).last → IsB E (w.setCell ⟨g, so i + 3, none⟩ (.int .i64 code)) g X K gl gq (B.set i ((B i).end_ code)) ∧ Touch (At g) w (w.setCell ⟨g, so i + 3, none⟩ (.int .i64 code))) := fun hlt => by
    have ht : Touch (At g) w (w.setCell ⟨g, so i + 3, none⟩ (.int .i64 code)) := (Touch.refl (At g) w).setAt _ _
    have he : (B i).end_ code = { B i with last := code } := if_pos hlt
    have hb2 := h.blk.set_ (so i + 3) (.int .i64 code)
    refine ⟨h.put ?_ ht (fun j => ?_) (fun j => ?_), ht⟩
    · rw [he]
      have : (brC X K gl gq B).setIfInBounds (so i + 3) (.int .i64 code) = brC X K gl gq (B.set i { B i with last := code }) := by cases i <;> rfl
      rw [← this]
      exact hb2
    · rw [he]
      unfold Br.set
      split
      · rename_i e; rw [e]
      · rfl
    · rw [he]
      unfold Br.set
      split
      · rename_i e; rw [e]
      · rfl
  have HNO : Hid (¬ (B i).last < 0 → IsB E w g X K gl gq (B.set i ((B i).end_ code))) := fun hn => by
    have he : (B i).end_ code = B i := if_neg hn
    rw [he]
    have : B.set i (B i) = B := funext fun j => by
      unfold Br.set
      split
      · rename_i e; rw [e]
      · rfl
    rw [this]
    exact h
  obtain ⟨o, ho⟩ : ∃ o, o = so i := ⟨_, rfl⟩
  obtain ⟨la, hla⟩ : ∃ x, x = (B i).last := ⟨_, rfl⟩
  rw [← ho] at hc3 hfz HSET ⊢
  rw [← hla] at hc3 HSET HNO
  clear c3 hb h hla ho
  by_cases hlt : la < 0
  · go_enter Tryz.func61, Tryz.ntmps61
    go_wp2_with fail
    go_end0
    exact ⟨rfl, HSET.out hlt⟩
  · go_enter Tryz.func61, Tryz.ntmps61
    go_wp2_with fail
    go_end0
    exact ⟨rfl, HNO.out (by omega), Touch.refl _ _⟩
end
end Go.Proofs.YtlnabpoohnphiaaGreat
