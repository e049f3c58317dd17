/- The queue's methods: Put, Peek, Take. -/
import Derived.Test.YtgbldgeknmkmmaaQa
import Derived.StillTailTactics
namespace Go.Proofs.Ytgbldgeknmkmmaa
open Go.RowKit
set_option linter.unusedSimpArgs false
set_option linter.unusedVariables false
variable {N : Nat → Prop}

def Qm.room (q : Qm) (x : Int) : Bool := roomB q.count q.bytes q.l.length (evSize q.l) x
def Qm.put (q : Qm) (e : Ev) : Qm := { q with l := q.l ++ [e] }
def Qm.tl (q : Qm) : Qm := { q with l := q.l.tail }
theorem evSize_append (a b : List Ev) : evSize (a ++ b) = evSize a + evSize b := by simp [evSize]

theorem IsQN.no {w w' : World} {g : Nat} {q : Qm} (h : IsQN N w g q) (hW : Touch NoS w w') : IsQN N w' g q := by
  obtain ⟨A, c, hb, h1, h2, h3⟩ := h
  exact ⟨A, c, hb.touch hW (fun h => h), h1, h2.touch_no hW, h3⟩
theorem IsQN.lt {w : World} {g : Nat} {q : Qm} (h : IsQN N w g q) : g < w.heap.size := by
  obtain ⟨A, c, hb, _⟩ := h
  exact hb.lt
theorem q_len (g : Nat) (q : Qm) (w : World) (h : IsQN N w g q) :
    Calls Try.prog 24 #[.pointer (some ⟨g, 0, none⟩)] w fun e w' => e = .returned (.int .i64 q.l.length) ∧ w = w' := by
  obtain ⟨A, c, hb, _⟩ := h
  exact len_at g _ _ A _ c _ w hb
theorem q_size (g : Nat) (q : Qm) (w : World) (h : IsQN N w g q) :
    Calls Try.prog 25 #[.pointer (some ⟨g, 0, none⟩)] w fun e w' => e = .returned (.int .i64 (evSize q.l)) ∧ w = w' := by
  obtain ⟨A, c, hb, _⟩ := h
  exact size_at g _ _ A _ c _ w hb
theorem q_room (g : Nat) (q : Qm) (x : Int) (r : Bool) (hr : q.room x = r) (w : World) (h : IsQN N w g q) :
    Calls Try.prog 22 #[.pointer (some ⟨g, 0, none⟩), .int .i64 x] w fun e w' => e = .returned (.bool r) ∧ ∃ k, w' = w.drewN k := by
  obtain ⟨A, c, hb, _, _, _, hs, _, _, hb0, hb1, _⟩ := h
  subst hr
  exact room_at g _ _ A _ c _ x w hb hb0 hb1 (by omega) (by omega)

theorem q_put_no (g : Nat) (q : Qm) (x : Ev) (hr : q.room x.data.size = false) (w : World) (h : IsQN N w g q) :
    Calls Try.prog 18 #[.pointer (some ⟨g, 0, none⟩), x.val] w fun e w' => e = .returned (.bool false) ∧ Touch NoS w w' := by
  have HL : Hid (∀ W, Touch NoS w W → IsQN N W g q) := fun W hW => by
    obtain ⟨A, c, hb, h1, h2, h3⟩ := h
    exact ⟨A, c, hb.touch hW (fun h => h), h1, h2.touch_no hW, h3⟩
  have HR := Lib.hid hr
  clear h hr
  unfold Ev.val
  go_enter Try.func18, Try.ntmps18
  go_wp2_with (go_at_call 22; refine (q_room g q _ false HR.out _ (HL.out _ ((Touch.refl _ _).alloc _))).mono ?_; rintro e w1 ⟨rfl, k, rfl⟩)
  go_ret
  exact ⟨rfl, ((Touch.refl _ _).alloc _).drewN _⟩

set_option maxHeartbeats 800000 in
theorem q_put_yes (g : Nat) (q : Qm) (x : Ev) (hr : q.room x.data.size = true) (w : World) (h : IsQN N w g q) (hN : ∀ k, N k → k < w.heap.size := by exact fun _ h => h.elim) :
    Calls Try.prog 18 #[.pointer (some ⟨g, 0, none⟩), x.val] w fun e w' => e = .returned (.bool true) ∧ IsQN N w' g (q.put x) ∧ Touch (At g) w w' := by
  have hroom : (q.l.length : Int) < q.count ∧ (x.data.size : Int) ≤ q.bytes - (evSize q.l : Int) := by
    simp [Qm.room, roomB] at hr
    exact hr
  obtain ⟨A, c, hb, hlc, hrow, hl1, hs1, hc0, hc1, hb0, hb1, hav⟩ := h
  have HAV := Lib.hid hav
  have HN := Lib.hid hN
  clear hN
  have hg := hb.lt
  have HL : Hid (∀ W, Touch NoS w W → IsQN N W g q) := fun W hW => ⟨A, c, hb.touch hW (fun h => h), hlc, hrow.touch_no hW, hl1, hs1, hc0, hc1, hb0, hb1, HAV.out⟩
  clear hav
  have HB : Hid (∀ W, Touch NoS w W → Blk W g 74 #[.int .i64 q.count, .int .i64 q.bytes, .slice A q.l.length c, .int .i64 (evSize q.l)]) := fun W hW => hb.touch hW (fun h => h)
  have HW : Hid (∀ W, Touch NoS w W → Row W 32 A (evCells q.l)) := fun W hW => hrow.touch_no hW
  have HR := Lib.hid hr
  clear hb hrow hr
  unfold Ev.val
  go_enter Try.func18, Try.ntmps18
  go_wp2_with fail
  refine (q_room g q _ true HR.out _ (HL.out _ ((Touch.refl _ _).alloc _))).mono ?_
  rintro e w1 ⟨rfl, k, hw1⟩
  have hbx : Blk w1 w.heap.size 32 #[.int .i64 x.op, .int .i64 x.code, .string x.data] := by rw [hw1]; exact Blk.new _ _ _
  have HT : Hid (Touch NoS w w1) := by rw [hw1]; exact ((Touch.refl _ _).alloc _).drewN _
  have hz : w.heap.size < w1.heap.size := hbx.lt
  have x0 := hbx.cell 0
  have x1 := hbx.cell 1
  have x2 := hbx.cell 2
  have HX := Lib.hid hbx
  simp at x0 x1 x2
  clear hw1 hbx
  go_wp2_with fail
  go_still_tail 4, (by kernel_rfl)
  change wpList _ _ _ _ _ w1.drew
  go_wp2_with fail
  refine (push_at g _ _ A c _ q.l x _ (HB.out _ HT.out.drew) hlc hl1 (HW.out _ HT.out.drew)).mono ?_
  rintro e w2 ⟨rfl, ht2, A', c', hb2, hlc', hr2, hnew⟩
  have hw01 := HT.out.size
  have HNEW : Hid (∀ a : Addr, A' = some a → (q.put x).l ≠ [] → ¬ N a.block) := fun a ha _ hn => by
    have h1 := HN.out _ hn
    have h2 : w1.heap.size ≤ a.block := hnew a ha
    omega
  clear hnew
  have hbx := HX.out.drew.touch ht2 (by show ¬ w.heap.size = g; omega)
  have HT2 : Hid (Touch (At g) w w2) := HT.out.drew.of_no.trans ht2
  have hg2 := hb2.lt
  have hz2 := hbx.lt
  have y0 := hbx.cell 0
  have y1 := hbx.cell 1
  have y2 := hbx.cell 2
  have z3 := hb2.cell 3
  have f3 := hb2.frozen 3
  simp at y0 y1 y2 z3
  have HB2 := Lib.hid hb2
  have HW2 := Lib.hid hr2
  have HX2 := Lib.hid hbx
  clear HX HB HW HL x0 x1 x2 hbx hb2 hr2 ht2
  go_wp2_with fail
  go_region
  all_goals
    go_wp2
    go_ret
    refine ⟨rfl, ⟨A', c', ?_, hlc', ?_, ?_, ?_, hc0, hc1, hb0, hb1, HNEW.out⟩, (HT2.out.setAt _ _).drew⟩
    · have := (HB2.out.set_ 3 (.int .i64 ((evSize q.l : Int) + x.data.size))).drew
      simpa [Qm.put, evSize_append, evSize] using this
    · exact (HW2.out.touch_at ((Touch.refl (At g) _).setAt 3 _) HB2.out (by decide)).touch_no (Touch.refl _ _).drew
    · simp [Qm.put]; omega
    · simp [Qm.put, evSize_append, evSize] at hroom ⊢; omega

theorem q_peek_none (g : Nat) (q : Qm) (hq : q.l = []) (w : World) (h : IsQN N w g q) :
    Calls Try.prog 21 #[.pointer (some ⟨g, 0, none⟩)] w fun e w' => e = .returned (.tuple #[Ev.zero.val, .bool false]) ∧ Touch NoS w w' := by
  obtain ⟨A, c, hb, _⟩ := h
  rw [hq] at hb
  have HB : Hid (∀ W, Touch NoS w W → Blk W g 74 #[.int .i64 q.count, .int .i64 q.bytes, .slice A 0 c, .int .i64 (evSize [])]) := fun W hW => hb.touch hW (fun h => h)
  clear hb hq
  go_enter Try.func21, Try.ntmps21
  go_wp2_with fail
  refine (first_none g _ _ A c _ _ (HB.out _ ((Touch.refl _ _).alloc _))).mono ?_
  rintro e w1 ⟨rfl, ht⟩
  have hx := (Blk.new w 32 #[.int .i64 0, .int .i64 0, .string ⟨#[]⟩]).touch ht (fun h => h)
  have x0 := hx.cell 0
  have x1 := hx.cell 1
  have x2 := hx.cell 2
  have f0 := hx.frozen 0
  have f1 := hx.frozen 1
  have f2 := hx.frozen 2
  simp at x0 x1 x2
  have HT : Hid (Touch NoS w w1) := ((Touch.refl _ _).alloc _).trans ht
  clear hx ht
  unfold Ev.val Ev.zero
  go_wp2
  exact bodyPost_ret (v := .tuple #[Ev.zero.val, .bool false]) (by simp [results, Try.results21, go_sem, Ev.val, Ev.zero, x0, x1, x2]) rfl ⟨rfl, ((HT.out.setNew (by simp) _).setNew (by simp) _).setNew (by simp) _⟩

theorem q_peek_some (g : Nat) (q : Qm) (e0 : Ev) (l : List Ev) (hq : q.l = e0 :: l) (w : World) (h : IsQN N w g q) :
    Calls Try.prog 21 #[.pointer (some ⟨g, 0, none⟩)] w fun e w' => e = .returned (.tuple #[e0.val, .bool true]) ∧ Touch NoS w w' := by
  obtain ⟨A, c, hb, _, hr, _⟩ := h
  rw [hq] at hb hr
  have HB : Hid (∀ W, Touch NoS w W → Blk W g 74 #[.int .i64 q.count, .int .i64 q.bytes, .slice A (e0 :: l).length c, .int .i64 (evSize (e0 :: l))]) := fun W hW => hb.touch hW (fun h => h)
  have HW : Hid (∀ W, Touch NoS w W → Row W 32 A (evCells (e0 :: l))) := fun W hW => hr.touch_no hW
  clear hb hq hr
  go_enter Try.func21, Try.ntmps21
  go_wp2_with fail
  refine (first_some g _ _ A _ c _ e0 l _ (HB.out _ ((Touch.refl _ _).alloc _)) rfl (HW.out _ ((Touch.refl _ _).alloc _))).mono ?_
  rintro e w1 ⟨rfl, ht⟩
  have hx := (Blk.new w 32 #[.int .i64 0, .int .i64 0, .string ⟨#[]⟩]).touch ht (fun h => h)
  have x0 := hx.cell 0
  have x1 := hx.cell 1
  have x2 := hx.cell 2
  have f0 := hx.frozen 0
  have f1 := hx.frozen 1
  have f2 := hx.frozen 2
  simp at x0 x1 x2
  have HT : Hid (Touch NoS w w1) := ((Touch.refl _ _).alloc _).trans ht
  clear hx ht
  unfold Ev.val
  go_wp2
  exact bodyPost_ret (v := .tuple #[e0.val, .bool true]) (by simp [results, Try.results21, go_sem, Ev.val, x0, x1, x2]) rfl ⟨rfl, ((HT.out.setNew (by simp) _).setNew (by simp) _).setNew (by simp) _⟩

theorem q_take_none (g : Nat) (q : Qm) (hq : q.l = []) (w : World) (h : IsQN N w g q) :
    Calls Try.prog 20 #[.pointer (some ⟨g, 0, none⟩)] w fun e w' => e = .returned (.tuple #[Ev.zero.val, .bool false]) ∧ Touch NoS w w' := by
  have HQ : Hid (∀ W, Touch NoS w W → IsQN N W g q) := fun W hW => h.no hW
  have Hq := Lib.hid hq
  clear h hq
  go_enter Try.func20, Try.ntmps20
  go_wp2_with fail
  refine (q_peek_none g q Hq.out _ (HQ.out _ ((Touch.refl _ _).alloc _))).mono ?_
  rintro e w1 ⟨rfl, ht⟩
  have hx := (Blk.new w 32 #[.int .i64 0, .int .i64 0, .string ⟨#[]⟩]).touch ht (fun h => h)
  have hz := hx.lt
  have x0 := hx.cell 0
  have x1 := hx.cell 1
  have x2 := hx.cell 2
  have f0 := hx.frozen 0
  have f1 := hx.frozen 1
  have f2 := hx.frozen 2
  simp at x0 x1 x2
  have HT : Hid (Touch NoS w w1) := ((Touch.refl _ _).alloc _).trans ht
  clear hx ht
  unfold Ev.val Ev.zero
  go_wp2
  exact bodyPost_ret (v := .tuple #[Ev.zero.val, .bool false]) (by simp [results, Try.results20, go_sem, Ev.val, Ev.zero, x0, x1, x2, hz]) rfl ⟨rfl, (((HT.out.setNew (by simp) _).setNew (by simp) _).setNew (by simp) _).alloc _⟩

theorem take_end {w1 : World} {g n : Nat} {c b : Int} {v : Value} {s s2 : Int} {e0 : Ev} (hb : Blk w1 g 74 #[.int .i64 c, .int .i64 b, v, .int .i64 s]) (hn : g ≠ n) (v2 : Value) {o : Obj} :
    Blk ((((((w1.setCell ⟨g, 2, none⟩ v2).setCell ⟨g, 3, none⟩ (.int .i64 s2)).setCell ⟨n, 0, none⟩ (.int .i64 e0.op)).setCell ⟨n, 1, none⟩ (.int .i64 e0.code)).setCell ⟨n, 2, none⟩ (.string e0.data)).alloc o).drew g 74 #[.int .i64 c, .int .i64 b, v2, .int .i64 s2] := by
  have := ((((((hb.set_ 2 v2).set_ 3 (.int .i64 s2)).far (p := ⟨n, 0, none⟩) hn (.int .i64 e0.op)).far (p := ⟨n, 1, none⟩) hn (.int .i64 e0.code)).far (p := ⟨n, 2, none⟩) hn (.string e0.data)).alloc o).drew
  simpa using this

set_option maxHeartbeats 800000 in
theorem q_take_some (g : Nat) (q : Qm) (e0 : Ev) (l : List Ev) (hq : q.l = e0 :: l) (w : World) (h : IsQN N w g q) :
    Calls Try.prog 20 #[.pointer (some ⟨g, 0, none⟩)] w fun e w' => e = .returned (.tuple #[e0.val, .bool true]) ∧ IsQN N w' g { q with l := l } ∧ Touch (At g) w w' := by
  have HQ : Hid (∀ W, Touch NoS w W → IsQN N W g q) := fun W hW => h.no hW
  obtain ⟨A, c, hb, hlc, hrow, hl1, hs1, hc0, hc1, hb0, hb1, hav⟩ := h
  have HAV := Lib.hid hav
  clear hav
  have hg := hb.lt
  have hlen : q.l.length = l.length + 1 := by rw [hq]; rfl
  have hsz : evSize q.l = e0.data.size + evSize l := by rw [hq]; simp [evSize]
  have Hq := Lib.hid hq
  have HL := Lib.hid hlen
  have HS := Lib.hid hsz
  have hpos : 1 ≤ q.l.length := by omega
  have hs2 : e0.data.size ≤ evSize q.l := by omega
  have HW := Lib.hid hrow
  obtain ⟨g', off, cs, rfl, _, _⟩ := hrow (by rw [hq]; simp [evCells, Ev.cs])
  have HB : Hid (∀ W, Touch NoS w W → Blk W g 74 #[.int .i64 q.count, .int .i64 q.bytes, .slice (some ⟨g', off, none⟩) q.l.length c, .int .i64 (evSize q.l)]) := fun W hW => hb.touch hW (fun h => h)
  have HD : Hid (∀ W, Touch (At g) w W → Row W 32 (some ⟨g', off + 3, none⟩) (evCells l)) := fun W hW => by
    have h3 := HW.out.touch_at hW hb (by decide)
    rw [hq] at h3
    intro hx
    obtain ⟨g1, off1, cs1, hA, hb1, hc1⟩ := h3 (by simp [evCells, Ev.cs])
    injection hA with hA
    injection hA with e1 e2
    subst e1 e2
    refine ⟨g', off + 3, cs1, rfl, hb1, fun j u hu => ?_⟩
    have := hc1 (3 + j) u (by rw [show evCells (e0 :: l) = e0.cs ++ evCells l from by simp [evCells], List.getElem?_append_right (by simp [Ev.cs])]; simpa [Ev.cs] using hu)
    rwa [← Nat.add_assoc] at this
  clear hb hq hlen hsz
  go_enter Try.func20, Try.ntmps20
  go_wp2_with fail
  refine (q_peek_some g q e0 l Hq.out _ (HQ.out _ ((Touch.refl _ _).alloc _))).mono ?_
  rintro e w1 ⟨rfl, ht⟩
  have hx := (Blk.new w 32 #[.int .i64 0, .int .i64 0, .string ⟨#[]⟩]).touch ht (fun h => h)
  have HT : Hid (Touch NoS w w1) := ((Touch.refl _ _).alloc _).trans ht
  have hz := hx.lt
  have x0 := hx.cell 0
  have x1 := hx.cell 1
  have x2 := hx.cell 2
  have f0 := hx.frozen 0
  have f1 := hx.frozen 1
  have f2 := hx.frozen 2
  have hb1' := HB.out _ HT.out
  have hg1 := hb1'.lt
  have q2 := hb1'.cell 2
  have q3 := hb1'.cell 3
  have g2 := hb1'.frozen 2
  have g3 := hb1'.frozen 3
  simp at x0 x1 x2 q2 q3
  have HBX := Lib.hid hb1'
  have HXX := Lib.hid hx
  clear hx ht hb1'
  unfold Ev.val
  by_cases hone : c = 1
  all_goals
    go_wp2_with fail
    go_region
    all_goals
      go_wp2
      refine bodyPost_ret (v := .tuple #[e0.val, .bool true]) (by simp [results, Try.results20, go_sem, Ev.val, x0, x1, x2, hz]) rfl ⟨rfl, ?_, (((((HT.out.of_no.setAt 2 _).setAt 3 _).setNew (by simp) _).setNew (by simp) _).setNew (by simp) _ |>.alloc _).drew⟩
      have hb2 := take_end (n := w.heap.size) (e0 := e0) (s2 := (evSize q.l : Int) - e0.data.size) HBX.out (by omega)
      have h3 := HS.out
      have h4 : (evSize q.l : Int) - e0.data.size = evSize l := by omega
      have h5 : q.l.length - 1 = l.length := by rw [HL.out]; rfl
      have h6 := HL.out
      rw [h4] at hb2
      rw [h4, h5]
      refine ⟨_, _, hb2 _, ?_, ?_, ?_, ?_, hc0, hc1, hb0, hb1, fun a ha _ => by injection ha with ha; subst ha; exact HAV.out ⟨g', off, none⟩ rfl (by rw [Hq.out]; simp)⟩
      · show l.length ≤ _; omega
      · first
        | exact HD.out _ ((((((HT.out.of_no.setAt 2 _).setAt 3 _).setNew (by simp) _).setNew (by simp) _).setNew (by simp) _ |>.alloc _).drew)
        | (rw [List.eq_nil_of_length_eq_zero (l := l) (by omega)]; exact Row.nil_ _ _ _)
      · show l.length ≤ _; omega
      · show evSize l ≤ _; omega
end Go.Proofs.Ytgbldgeknmkmmaa
