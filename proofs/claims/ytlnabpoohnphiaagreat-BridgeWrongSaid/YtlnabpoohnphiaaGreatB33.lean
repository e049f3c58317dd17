/- bridge: settle: what can be moved on. -/
import Derived.Test.YtlnabpoohnphiaaGreatB32
/- bridge: settle: what can be moved on. -/
namespace Go.Proofs.YtlnabpoohnphiaaGreat
open Go.RowKit
set_option linter.unusedSimpArgs false
set_option linter.unusedVariables false

/-- One event that waits is sent, if it may be. -/
def Br.next (K : Bk) (i : Bool) (B : Br) : Br × Bool :=
  match (B (!i)).q with
  | [] => (B, false)
  | e :: l => if ((B i).leg.send (K.k i) e.op e.data).2 = true then ((B.set i { B i with leg := ((B i).leg.send (K.k i) e.op e.data).1 }).set (!i) { B (!i) with q := l }, true)
    else (B.set i { B i with leg := ((B i).leg.send (K.k i) e.op e.data).1 }, false)
section
variable {E : Nat → Prop} {w w' : World} {g : Nat} {X : Bx} {K : Bk} {gl gq : Bool → Nat} {B B' : Br}
theorem ByT.mono {T U : TypeId → Prop} {w w' : World} (h : ByT T w w') (hT : ∀ t, T t → U t) : ByT U w w' := by
  obtain ⟨S, k, hS⟩ := h
  refine ⟨S, k, fun b hb => ?_⟩
  obtain ⟨t, cs, hc, ht⟩ := hS b hb
  exact ⟨t, cs, hc, hT t ht⟩
theorem brT_not {t : TypeId} (h : Outer t) (h1 : t ≠ 119) (h2 : t ≠ 80) : ¬ BrT t := fun h3 => by
  rcases h3 with h3 | h3 | h3
  · exact h3 h
  · exact h1 h3
  · exact h2 h3
theorem mem_le_sum {x : Nat} : ∀ {l : List Nat}, x ∈ l → x ≤ l.sum := by
  intro l
  induction l with
  | nil => intro h; cases h
  | cons a l ih =>
    intro h
    rw [List.sum_cons]
    rcases List.mem_cons.1 h with rfl | h
    · omega
    · have := ih h
      omega
theorem ev_size_le {K : Bk} {q : List Ev} (h : Qfit K q) (hK : Kfits K) : ∀ e ∈ q, e.data.size ≤ 4194304 := fun e he => by
  have h1 := h.bytes
  have h2 := hK.bytes.2
  have : e.data.size ≤ evSize q := by
    unfold evSize
    exact mem_le_sum (List.mem_map_of_mem he)
  omega
set_option maxHeartbeats 6400000 in
set_option maxRecDepth 100000 in
theorem b_next (h : IsB E w g X K gl gq B) {n : Nat} {t : Int} (hI : BrI K n t B) (hK : Kfits K) (i : Bool) (b1 b2 : Nat) (h1 : Blk w b1 90 #[.pointer (some ⟨g, so i, none⟩)]) (h2 : Blk w b2 75 #[.pointer (some ⟨gq (!i), 0, none⟩)]) :
    Calls Tryz.prog 66 #[.pointer (some ⟨b2, 0, none⟩), .pointer (some ⟨b1, 0, none⟩)] w fun e w' => e = .returned (.bool (B.next K i).2) ∧ IsB E w' g X K gl gq (B.next K i).1 ∧ Touch (Non E) w w' ∧ ByT BrT w w' := by
  have x0 := h2.cell 0
  have xl := h2.lt
  simp at x0
  have HQ := Lib.hid (q_peek (gq (!i)) _ w (h.q (!i)))
  have HH := Lib.hid h
  have H1 := Lib.hid h1
  have H2 := Lib.hid h2
  have hsz := ev_size_le (hI.q (!i)) hK
  obtain ⟨gi, hgi⟩ : ∃ x, x = gq (!i) := ⟨_, rfl⟩
  rw [← hgi] at x0 HQ
  have HGI := Lib.hid hgi
  rcases hq : (B (!i)).q with _ | ⟨e0, l⟩
  · have hn : B.next K i = (B, false) := by unfold Br.next; rw [hq]
    rw [hn]
    rw [hq] at HQ
    have HQ2 : Hid (Calls Tryz.prog 67 #[.pointer (some ⟨gi, 0, none⟩)] w fun e w' => e = .returned (.tuple #[.agg #[.int .i64 0, .int .i64 0, .string ⟨#[]⟩], .bool false]) ∧ Touch NoS w w') := HQ.out
    clear h h1 h2 hsz hgi hq hn HQ
    go_enter Tryz.func66, Tryz.ntmps66
    go_wp2_with fail
    refine HQ2.out.mono ?_
    rintro e w2 ⟨rfl, ht⟩
    have HT2 := Lib.hid ht
    clear ht
    go_wp2_with fail
    go_quiet (fail)
    go_wp2_with fail
    go_ret
    have ht3 : Touch NoS w ((w2.alloc (.cells #[.int .i64 0, .int .i64 0, .string ⟨#[]⟩] 37)).drewN nq) := (HT2.out.alloc _).drewN _
    exact ⟨rfl, HH.out.no ht3, ht3.of_no, ByT.no ht3⟩
  · have hez := hsz e0 (by rw [hq]; exact List.mem_cons_self)
    rw [hq] at HQ
    obtain ⟨op, code, data⟩ := e0
    have HQ2 : Hid (Calls Tryz.prog 67 #[.pointer (some ⟨gi, 0, none⟩)] w fun e w' => e = .returned (.tuple #[.agg #[.int .i64 op, .int .i64 code, .string data], .bool true]) ∧ Touch NoS w w') := HQ.out
    have HNX : Hid (B.next K i = if ((B i).leg.send (K.k i) op data).2 = true then ((B.set i { B i with leg := ((B i).leg.send (K.k i) op data).1 }).set (!i) { B (!i) with q := l }, true) else (B.set i { B i with leg := ((B i).leg.send (K.k i) op data).1 }, false)) := by
      show B.next K i = _
      unfold Br.next
      rw [hq]
    have HQL := Lib.hid hq
    clear h h1 h2 hsz hgi hq HQ
    go_enter Tryz.func66, Tryz.ntmps66
    go_wp2_with fail
    refine HQ2.out.mono ?_
    rintro e w2 ⟨rfl, ht⟩
    go_wp2_with fail
    obtain ⟨w3, hw3⟩ : ∃ w3, w3 = w2.alloc (.cells #[.int .i64 op, .int .i64 code, .string data] 37) := ⟨_, rfl⟩
    obtain ⟨bx, hbx⟩ : ∃ b, b = w2.heap.size := ⟨_, rfl⟩
    have hb3 : Blk w3 bx 37 #[.int .i64 op, .int .i64 code, .string data] := by rw [hw3, hbx]; exact Blk.new _ _ _
    have ht3 : Touch NoS w w3 := by rw [hw3]; exact ht.alloc _
    rw [← hw3, ← hbx]
    have HT3 := Lib.hid ht3
    have HB3 := Lib.hid (HH.out.no ht3)
    have HX1 := Lib.hid (H1.out.touch ht3 (fun h => h))
    have HX2 := Lib.hid (H2.out.touch ht3 (fun h => h))
    have HXE := Lib.hid hb3
    have hbg : w3.cell? ⟨g, so i, none⟩ = some (.pointer (some ⟨gl i, 0, none⟩)) := by rw [HB3.out.blk.cell]; cases i <;> rfl
    have k1 := HX1.out.cell 0
    have k3 := hb3.cell 0
    have k4 := hb3.cell 1
    have k5 := hb3.cell 2
    simp at k1 k3 k4 k5
    have HBG : Hid (∀ W, Blk W g 80 (brC X K gl gq B) → W.cell? ⟨g, so i, none⟩ = some (.pointer (some ⟨gl i, 0, none⟩))) := fun W hb => by rw [hb.cell]; cases i <;> rfl
    have HSND : Hid (∀ W, Touch NoS w3 W → Calls Tryz.prog 68 #[.pointer (some ⟨gl i, 0, none⟩), .agg #[.int .i64 op, .int .i64 code, .string data]] W fun e w' => e = .returned (.bool ((B i).leg.send (K.k i) op data).2) ∧ Legs E w' gl K.k (upd (fun j => (B j).leg) i ((B i).leg.send (K.k i) op data).1) ∧ Touch (Non E) W w' ∧ ByT LegT W w') := fun W t => lb_send i (HB3.out.legs.no t) op code data (by unfold maxLen; omega) (by have := (hK.k i).msg; omega) (hK.k i).lo (by have := (hK.k i).hi; omega)
    obtain ⟨r, hr⟩ : ∃ r, r = (B i).leg.send (K.k i) op data := ⟨_, rfl⟩
    rw [← hr] at HSND HNX
    obtain ⟨o, ho⟩ : ∃ o, o = so i := ⟨_, rfl⟩
    obtain ⟨li, hli⟩ : ∃ x, x = gl i := ⟨_, rfl⟩
    rw [← ho] at k1 hbg HBG
    rw [← hli] at hbg HBG HSND
    have HO := Lib.hid ho
    have m1 : w3.drew.cell? ⟨b1, 0, none⟩ = some (.pointer (some ⟨g, o, none⟩)) := k1
    have m2 : w3.drew.cell? ⟨g, o, none⟩ = some (.pointer (some ⟨li, 0, none⟩)) := hbg
    have m3 : w3.drew.cell? ⟨bx, 0, none⟩ = some (.int .i64 op) := k3
    have m4 : w3.drew.cell? ⟨bx, 1, none⟩ = some (.int .i64 code) := k4
    have m5 : w3.drew.cell? ⟨bx, 2, none⟩ = some (.string data) := k5
    have mt : Touch NoS w3 w3.drew := (Touch.refl _ _).drew
    clear hw3 hbx ht ht3 hb3 k1 k3 k4 k5 hbg ho hli hr x0 xl
    go_upto_region 2 with (fail)
    go_cut [20] (fun v wx => v = .bool (!r.2) ∧ Legs E wx gl K.k (upd (fun j => (B j).leg) i r.1) ∧ Touch (Non E) w3 wx ∧ ByT LegT w3 wx)
    case first =>
      go_region_held3 (fun w' => w'.cell? ⟨b1, 0, none⟩ = some (.pointer (some ⟨g, o, none⟩)) ∧ w'.cell? ⟨g, o, none⟩ = some (.pointer (some ⟨li, 0, none⟩)) ∧ w'.cell? ⟨bx, 0, none⟩ = some (.int .i64 op) ∧ w'.cell? ⟨bx, 1, none⟩ = some (.int .i64 code) ∧ w'.cell? ⟨bx, 2, none⟩ = some (.string data))
        (first | exact ⟨m1, m2, m3, m4, m5⟩ | exact ⟨y1, y2, y3, y4, y5⟩)
        (first
          | (go_at_call 68; refine (HSND.out _ mt).mono ?_; rintro e w6 ⟨rfl, hL6, ht6, hb6⟩; have hby := (ByT.no mt).trans hb6; have y1 := (hby.blk HX1.out (out_not (by decide))).cell 0; have y2 := HBG.out _ (hby.blk HB3.out.blk (out_not (by decide))); have hxe := hby.blk HXE.out (out_not (by decide)); have y3 := hxe.cell 0; have y4 := hxe.cell 1; have y5 := hxe.cell 2; simp at y1 y3 y4 y5; rw [← HO.out] at y1; have HL6 := Lib.hid hL6; have HT6 := Lib.hid (mt.of_no.trans ht6); have HBY6 := Lib.hid hby; clear hL6 ht6 hb6 hby hxe))
      all_goals
        go_wp2_with fail
        go_meet
        exact ⟨rfl, HL6.out, HT6.out, HBY6.out⟩
    case rest =>
      obtain ⟨rfl, hL6, ht6, hb6⟩ := hcut
      obtain ⟨wd, rfl⟩ : ∃ we : World, we = wc := ⟨_, rfl⟩
      have hB6 := HB3.out.leg hL6 hb6
      have HB6 := Lib.hid hB6
      have x0 := (hb6.blk HX2.out (out_not (by decide))).cell 0
      have xl := (hb6.blk HX2.out (out_not (by decide))).lt
      simp at x0
      have HT6 := Lib.hid (HT3.out.of_no.trans ht6)
      have HBY := Lib.hid (((ByT.no HT3.out).trans hb6).mono (U := BrT) (fun t ht => .inl ht))
      clear hL6 ht6 hb6 hB6 m1 m2 m3 m4 m5 mt
      cases hr2 : r.2 with
      | false =>
        have hnx := HNX.out
        rw [if_neg (by rw [hr2]; simp)] at hnx
        have HN2 := Lib.hid hnx
        clear hnx
        go_wp2_with fail
        go_ret
        rw [HN2.out]
        exact ⟨rfl, HB6.out, HT6.out, HBY.out⟩
      | true =>
        have hnx := HNX.out
        rw [if_pos hr2] at hnx
        have HN2 := Lib.hid hnx
        clear hnx
        rw [← HGI.out] at x0
        have HTK := Lib.hid (q_take (gq (!i)) _ wd (HB6.out.q (!i)))
        rw [← HGI.out] at HTK
        go_wp2_with fail
        refine HTK.out.mono ?_
        rintro e w7 ⟨rfl, hq7, ht7⟩
        have hsq : (B.set i { B i with leg := r.1 } (!i)).q = (B (!i)).q := by rw [Br.set_other]
        have hq8 : IsQ w7 (gq (!i)) ⟨K.count, K.bytes, l⟩ := by
          have h9 := hq7
          unfold Qm.tl at h9
          simp only at h9
          rw [hsq, HQL.out] at h9
          rw [← HGI.out]
          exact h9
        rw [HGI.out] at ht7
        obtain ⟨A9, c9, hb9, -⟩ := HB6.out.q (!i)
        have hB7 := HB6.out.que hq8 ht7
        have hset : (B.set i { B i with leg := r.1 }).set (!i) { (B.set i { B i with leg := r.1 }) (!i) with q := l } = (B.set i { B i with leg := r.1 }).set (!i) { B (!i) with q := l } := by rw [Br.set_other]
        rw [hset] at hB7
        have HB7 := Lib.hid hB7
        have HT7 := Lib.hid (HT6.out.trans (ht7.mono (S' := Non E) fun b (hb : b = gq (!i)) => by subst hb; exact HB6.out.newq (!i)))
        have HBY7 := Lib.hid (HBY.out.trans ((ByT.at_ (T := BrT) ht7 hb9 (.inr (.inl rfl)))))
        clear hq7 ht7 hq8 hB7 hset hb9 hsq
        go_wp2_with fail
        go_ret
        rw [HN2.out]
        exact ⟨rfl, HB7.out, HT7.out, HBY7.out⟩
end
end Go.Proofs.YtlnabpoohnphiaaGreat
