/- leg: Free, Sent, Got, Wrong, Quiet, Peek, Take, Kept. | cut: Count. -/
import Derived.Test.YtpadlcllcmodaaaY30
import Derived.Test.YtpadlcllcmodaaaY02
/- leg: Free, Sent, Got, Wrong, Quiet, Peek, Take, Kept. -/
namespace Go.Proofs.Ytpadlcllcmodaaa
open Go.RowKit
set_option linter.unusedSimpArgs false
set_option linter.unusedVariables false

def Lg.free (L : Lg) : Bool := !L.sent && !L.got && decide (L.wrong = 0) && decide (L.o.rest.length = 0)
def Lg.quiet (L : Lg) : Bool := decide (L.o.ring.length = 0) && decide (L.o.tail.length = 0) && decide (L.o.ctl.length = 0) && decide (L.o.rest.length = 0)
section
variable {w : World} {g : Nat} {k : Lk} {L : Lg} {V : LV}
set_option maxHeartbeats 3200000 in
set_option maxRecDepth 100000 in
theorem l_sent (h : IsL w g k L V) : Calls Try.prog 16 #[.pointer (some ⟨g, 0, none⟩)] w fun e w' => e = .returned (.bool L.sent) ∧ w = w' := by
  have hb := h.out.blk
  have c := hb.cell 20
  simp [lgCells] at c
  clear hb h
  go_enter Try.func16, Try.ntmps16
  go_wp2
  go_ret
  exact ⟨rfl, rfl⟩
set_option maxHeartbeats 3200000 in
set_option maxRecDepth 100000 in
theorem l_got (h : IsL w g k L V) : Calls Try.prog 15 #[.pointer (some ⟨g, 0, none⟩)] w fun e w' => e = .returned (.bool L.got) ∧ w = w' := by
  have hb := h.out.blk
  have c := hb.cell 21
  simp [lgCells] at c
  clear hb h
  go_enter Try.func15, Try.ntmps15
  go_wp2
  go_ret
  exact ⟨rfl, rfl⟩
set_option maxHeartbeats 3200000 in
set_option maxRecDepth 100000 in
theorem l_wrong (h : IsL w g k L V) : Calls Try.prog 14 #[.pointer (some ⟨g, 0, none⟩)] w fun e w' => e = .returned (.int .i64 L.wrong) ∧ w = w' := by
  have hb := h.out.blk
  have c := hb.cell 22
  simp [lgCells] at c
  clear hb h
  go_enter Try.func14, Try.ntmps14
  go_wp2
  go_ret
  exact ⟨rfl, rfl⟩
set_option maxHeartbeats 6400000 in
set_option maxRecDepth 100000 in
theorem l_free (h : IsL w g k L V) : Calls Try.prog 26 #[.pointer (some ⟨g, 0, none⟩)] w fun e w' => e = .returned (.bool L.free) ∧ w = w' := by
  obtain ⟨A, c, hv, -⟩ := h.out.rest.cases
  have hb := h.out.blk
  rw [hv] at hb
  have c1 := hb.cell 20
  have c2 := hb.cell 21
  have c3 := hb.cell 22
  have c4 := hb.cell 17
  simp [lgCells] at c1 c2 c3 c4
  unfold Lg.free
  obtain ⟨n, hn⟩ : ∃ n, n = L.o.rest.length := ⟨_, rfl⟩
  obtain ⟨s, hs⟩ : ∃ s, s = L.sent := ⟨_, rfl⟩
  obtain ⟨t, ht⟩ : ∃ s, s = L.got := ⟨_, rfl⟩
  obtain ⟨e, he⟩ : ∃ s, s = L.wrong := ⟨_, rfl⟩
  rw [← hn] at c4 ⊢
  rw [← hs] at c1 ⊢
  rw [← ht] at c2 ⊢
  rw [← he] at c3 ⊢
  clear hb h hv hn hs ht he
  rcases s with _ | _
  · rcases t with _ | _
    · by_cases h3 : e = 0
      · by_cases h4 : n = 0
        · subst h3 h4
          go_enter Try.func26, Try.ntmps26
          go_wp2_with fail
          go_ret
          exact ⟨rfl, rfl⟩
        · subst h3
          go_enter Try.func26, Try.ntmps26
          go_wp2_with fail
          go_ret
          exact ⟨by simp [h4], rfl⟩
      · go_enter Try.func26, Try.ntmps26
        go_wp2_with fail
        go_ret
        exact ⟨by simp [h3], rfl⟩
    · go_enter Try.func26, Try.ntmps26
      go_wp2_with fail
      go_ret
      exact ⟨rfl, rfl⟩
  · go_enter Try.func26, Try.ntmps26
    go_wp2_with fail
    go_ret
    exact ⟨rfl, rfl⟩
set_option maxHeartbeats 6400000 in
set_option maxRecDepth 100000 in
theorem l_quiet (h : IsL w g k L V) : Calls Try.prog 24 #[.pointer (some ⟨g, 0, none⟩)] w fun e w' => e = .returned (.bool L.quiet) ∧ w = w' := by
  obtain ⟨A, c, hv, -⟩ := h.out.rest.cases
  obtain ⟨A2, cc2, hv2, -⟩ := h.out.ctl.cases
  obtain ⟨A3, cc3, hv3, -⟩ := h.out.tail.cases
  have hb := h.out.blk
  rw [hv, hv2, hv3] at hb
  have c1 := hb.cell 14
  have c2 := hb.cell 15
  have c3 := hb.cell 16
  have c4 := hb.cell 17
  simp [lgCells] at c1 c2 c3 c4
  obtain ⟨s0, buf, hrb, -⟩ := h.out.ring
  have HL := Lib.hid (rg_len _ _ _ _ _ w hrb)
  unfold Lg.quiet
  obtain ⟨n1, hn1⟩ : ∃ n, n = L.o.ring.length := ⟨_, rfl⟩
  obtain ⟨n2, hn2⟩ : ∃ n, n = L.o.tail.length := ⟨_, rfl⟩
  obtain ⟨n3, hn3⟩ : ∃ n, n = L.o.ctl.length := ⟨_, rfl⟩
  obtain ⟨n4, hn4⟩ : ∃ n, n = L.o.rest.length := ⟨_, rfl⟩
  rw [← hn1] at HL ⊢
  rw [← hn2] at c2 ⊢
  rw [← hn3] at c3 ⊢
  rw [← hn4] at c4 ⊢
  clear hb h hv hv2 hv3 hn1 hn2 hn3 hn4 hrb
  go_enter Try.func24, Try.ntmps24
  go_wp2_with fail
  refine HL.out.mono ?_
  rintro e w1 ⟨rfl, rfl⟩
  by_cases h1 : n1 = 0
  · subst h1
    by_cases h2 : n2 = 0
    · subst h2
      by_cases h3 : n3 = 0
      · subst h3
        by_cases h4 : n4 = 0
        · subst h4
          go_wp2_with fail
          go_ret
          exact ⟨rfl, rfl⟩
        · go_wp2_with fail
          go_ret
          exact ⟨by simp [h4], rfl⟩
      · go_wp2_with fail
        go_ret
        exact ⟨by simp [h3], rfl⟩
    · go_wp2_with fail
      go_ret
      exact ⟨by simp [h2], rfl⟩
  · go_wp2_with fail
    go_ret
    exact ⟨by simp [h1], rfl⟩
set_option maxHeartbeats 6400000 in
set_option maxRecDepth 100000 in
theorem l_peek (h : IsL w g k L V) (n : Int) : Calls Try.prog 22 #[.pointer (some ⟨g, 0, none⟩), .int .i64 n] w fun e w' =>
    ∃ g2, e = .returned (.slice (some ⟨g2, 0, none⟩) (pk n L.o.ring.length) (pk n L.o.ring.length)) ∧ w.heap.size ≤ g2 ∧ Blk w' g2 5 (u8s (L.o.ring.take (pk n L.o.ring.length))).toArray ∧ Touch NoS w w' := by
  have hb := h.out.blk
  have c1 := hb.cell 14
  simp [lgCells] at c1
  have HP := Lib.hid (rg_peek _ _ _ _ n w h.out.ring)
  clear hb h
  go_enter Try.func22, Try.ntmps22
  go_wp2_with fail
  refine HP.out.mono ?_
  rintro e w1 ⟨g2, rfl, h1, h2, h3⟩
  have H2 := Lib.hid h2
  have H3 := Lib.hid h3
  clear h2 h3
  go_wp2_with fail
  go_ret
  exact ⟨g2, rfl, h1, H2.out, H3.out⟩
def Lg.take (k : Lk) (L : Lg) (n : Int) : Lg := { L with o := ({ L.o with ring := L.o.ring.drop (pk n L.o.ring.length) } : Ou).move k.out k.masks }
set_option maxHeartbeats 6400000 in
set_option maxRecDepth 100000 in
theorem l_take (h : IsL w g k L V) (n : Int) : Calls Try.prog 21 #[.pointer (some ⟨g, 0, none⟩), .int .i64 n] w fun e w' =>
    ∃ g2, e = .returned (.slice (some ⟨g2, 0, none⟩) (pk n L.o.ring.length) (pk n L.o.ring.length)) ∧ w.heap.size ≤ g2 ∧ Blk w' g2 5 (u8s (L.o.ring.take (pk n L.o.ring.length))).toArray ∧
      (∃ V', IsL w' g k (L.take k n) V' ∧ LLoc w V V') ∧ Touch (LF g k V) w w' := by
  have hb := h.out.blk
  have c1 := hb.cell 14
  simp [lgCells] at c1
  have HP := Lib.hid (rg_take _ _ _ _ n w h.out.ring)
  have H := Lib.hid h
  clear hb h
  go_enter Try.func21, Try.ntmps21
  go_wp2_with fail
  refine HP.out.mono ?_
  rintro e w1 ⟨g2, rfl, h1, h2, h3, h4⟩
  obtain ⟨d1, d2, q1, q2⟩ := H.out.out.ring.blk
  have hS : ∀ (t : TypeId) (cs : Array Value) (b : Nat), Blk w b t cs → t ≠ 99 → ¬ At k.rg b := fun t cs b hc ht hS => hc.ne_ q1 ht hS
  have hg2 : g2 < w1.heap.size := h2.lt
  have ho : OutH w1 g k { L.o with ring := L.o.ring.drop (pk n L.o.ring.length) } L.sent L.got L.wrong V.vt V.vc V.vr :=
    ⟨H.out.out.blk.touch h4 (hS _ _ _ H.out.out.blk (by decide)), h3, H.out.out.tail.touch h4 (fun b hb => by
      obtain ⟨cs, hc⟩ := H.out.out.tail.type hb
      exact hS _ _ _ hc (by decide)), H.out.out.ctl.touch h4 (fun b hb => by
      obtain ⟨cs, hc⟩ := H.out.out.ctl.type hb
      exact hS _ _ _ hc (by decide)), H.out.out.rest.touch h4 (fun b hb => by
      obtain ⟨cs, hc⟩ := H.out.out.rest.type hb
      exact hS _ _ _ hc (by decide)), H.out.out.bytes, H.out.out.good, H.out.out.apart⟩
  have HO := Lib.hid ho
  have H2 := Lib.hid h2
  have H4 := Lib.hid h4
  have HG := Lib.hid h1
  clear ho h2 h3 h4 hS q1 q2 h1
  go_wp2_with fail
  refine (l_move g k _ _ _ _ _ _ _ w1 HO.out).mono ?_
  rintro e w2 ⟨vt', vc', vr', rfl, ho2, lt2, lc2, lr2, ht2⟩
  have htt : Touch (OA g k V.vc) w w2 := (H4.out.mono (fun i hi => Or.inl (Or.inr (Or.inl hi)))).trans (ht2.mono fun i hi => Or.inl hi)
  have ltt : Loc w V.vt vt' := fun b hb => by
    rcases lt2 b hb with q | q
    · exact .inl q
    · exact .inr (Nat.le_trans H4.out.size q)
  obtain ⟨V', hV', hl', hT'⟩ := H.out.out_act ho2 htt ltt (fun b hb => .inl (lc2 ▸ hb)) (fun b hb => .inl (lr2 ▸ hb)) (fun b hb hb' => H.out.cr b (lc2 ▸ hb) (lr2 ▸ hb'))
  have hbk : Blk w2 g2 5 (u8s (L.o.ring.take (pk n L.o.ring.length))).toArray := H2.out.touch ht2 fun hS => by
    have : g2 < w.heap.size := by
      rcases hS with rfl | rfl | rfl
      · exact H.out.out.blk.lt
      · exact H.out.out.ring.lt.1
      · exact H.out.out.ring.lt.2
    have := HG.out
    omega
  have HV := Lib.hid hV'
  have HLC := Lib.hid hl'
  have HTT := Lib.hid hT'
  have HBK := Lib.hid hbk
  clear ho2 htt ltt hV' hl' hT' hbk lt2 lc2 lr2 ht2
  go_wp2_with fail
  go_ret
  refine ⟨g2, rfl, HG.out, HBK.out, ⟨V', HV.out, HLC.out⟩, HTT.out⟩
set_option maxHeartbeats 6400000 in
set_option maxRecDepth 100000 in
theorem l_kept (h : IsL w g k L V) (n m : Nat) (hn : L.part.length = n) (hm : L.m.part.size = m) (hn2 : n ≤ 1000000) (hm2 : m ≤ 1048576) : Calls Try.prog 23 #[.pointer (some ⟨g, 0, none⟩)] w fun e w' => e = .returned (.int .i64 (n + m)) ∧ Touch NoS w w' := by
  have hb := h.out.blk
  have c1 := hb.cell 12
  have c2 := hb.cell 13
  simp [lgCells] at c1 c2
  have H1 : Hid (∀ W, Touch NoS w W → Calls Try.prog 39 #[.pointer (some ⟨k.sg, 0, none⟩)] W fun e w' => e = .returned (.int .i64 n) ∧ w' = W) := fun W t => (stv_part (h.ins.no t) n hn).mono fun _ _ h => ⟨h.1, h.2.symm⟩
  have H2 : Hid (∀ W, Touch NoS w W → Calls Try.prog 40 #[.pointer (some ⟨k.mg, 0, none⟩)] W fun e w' => e = .returned (.int .i64 m) ∧ w' = W) := fun W t => (im_part (h.mac.no t) m hm).mono fun _ _ h => ⟨h.1, h.2.symm⟩
  clear h hb
  go_enter Try.func23, Try.ntmps23
  go_wp2_with fail
  go_quiet (first | (go_at_call 39; refine Calls.quiet_of_same (H1.out _ ?_); exact (Touch.refl _ _).drewN _) | (go_at_call 40; refine Calls.quiet_of_same (H2.out _ ?_); exact (Touch.refl _ _).drewN _))
  go_wp2_with fail
  go_ret
  exact ⟨rfl, (Touch.refl _ _).drewN _⟩
end
end Go.Proofs.Ytpadlcllcmodaaa
/- cut: Count. -/
namespace Go.Proofs.Ytpadlcllcmodaaa
open Go.RowKit
set_option linter.unusedSimpArgs false
set_option linter.unusedVariables false

/-- How many frames a message is. -/
def count13 (size most : Int) : Int := if size < 0 ∨ 1048576 < size ∨ most < 1 ∨ 65536 < most then 0 else max ((size + most - 1) / most) 1
set_option maxHeartbeats 1600000 in
set_option maxRecDepth 100000 in
theorem k_count (size most : Int) (w : World) : Calls Try.prog 53 #[.int .i64 size, .int .i64 most] w fun e w' => e = .returned (.int .i64 (count13 size most)) ∧ w = w' := by
  by_cases h1 : size < 0
  · rw [show count13 size most = 0 from if_pos (.inl h1)]
    go_enter Try.func53, Try.ntmps53
    go_wp2
    go_ret
    exact ⟨rfl, rfl⟩
  by_cases h2 : 1048576 < size
  · rw [show count13 size most = 0 from if_pos (.inr (.inl h2))]
    have h1' : 0 ≤ size := by omega
    clear h1
    go_enter Try.func53, Try.ntmps53
    go_wp2
    go_ret
    exact ⟨rfl, rfl⟩
  have h1' : 0 ≤ size := by omega
  have h2' : size ≤ 1048576 := by omega
  by_cases h3 : most < 1
  · rw [show count13 size most = 0 from if_pos (.inr (.inr (.inl h3)))]
    clear h1 h2
    go_enter Try.func53, Try.ntmps53
    go_wp2
    go_ret
    exact ⟨rfl, rfl⟩
  have h3' : 1 ≤ most := by omega
  by_cases h4 : 65536 < most
  · rw [show count13 size most = 0 from if_pos (.inr (.inr (.inr h4)))]
    clear h1 h2 h3
    go_enter Try.func53, Try.ntmps53
    go_wp2
    go_ret
    exact ⟨rfl, rfl⟩
  have h4' : most ≤ 65536 := by omega
  have hc : count13 size most = max ((size + most - 1) / most) 1 := if_neg (by omega)
  rw [hc]
  obtain ⟨q, hq⟩ : ∃ q, q = (size + most - 1) / most := ⟨_, rfl⟩
  rw [← hq]
  have hw1 : IntKind.i64.wrap (size + most) = size + most := IntWalk.i64_in _ (by omega)
  have hw2 : IntKind.i64.wrap (size + most - 1) = size + most - 1 := IntWalk.i64_in _ (by omega)
  have hq0 : 0 ≤ q := by rw [hq]; exact Int.ediv_nonneg (by omega) (by omega)
  have hq1 : q ≤ size + most - 1 := by rw [hq]; exact Int.ediv_le_self _ (by omega)
  have ht : (size + most - 1).tdiv most = q := by rw [Int.tdiv_eq_ediv_of_nonneg (by omega), hq]
  have hw3 : IntKind.i64.wrap q = q := IntWalk.i64_in _ (by omega)
  have hne : ¬ most = 0 := by omega
  have hneb : (most == 0) = false := by rw [beq_eq_false_iff_ne]; exact hne
  clear h1 h2 h3 h4 hc hq
  go_enter Try.func53, Try.ntmps53
  go_wp2
  go_ret
  exact ⟨rfl, rfl⟩
end Go.Proofs.Ytpadlcllcmodaaa
