/- The document's queue (pendentiveref14): Put, Take. -/
import Derived.Test.YtgbldgeknmkmmaaQp
namespace Go.Proofs.Ytgbldgeknmkmmaa
open Go.RowKit
set_option linter.unusedSimpArgs false
set_option linter.unusedVariables false

theorem Blk.rd0 {w : World} {g : Nat} {t : TypeId} {l : List Value} (h : Blk w g t l.toArray) : Rd w (some ⟨g, 0, none⟩) l :=
  fun _ => ⟨g, 0, rfl, h.lt, fun j u hu => by rw [Nat.zero_add, h.cell]; simpa using hu⟩
theorem r_put_no (q : Qm) (x : Ev) (A : Option Addr) (c : Nat) (w : World) (hx : q.room x.data.size = false) (hr : Rd w A (evCells q.l)) (hl : q.l.length ≤ 1024) (hs : evSize q.l ≤ 4194304) (hb1 : q.bytes ≤ 4194304) :
    Calls Try.prog 17 #[rq q A c, x.val] w fun e w' => e = .returned (.tuple #[rq q A c, .bool false]) ∧ Touch NoS w w' := by
  have HR : Hid (∀ W, Touch NoS w W → Calls Try.prog 23 #[.agg #[.int .i64 q.count, .int .i64 q.bytes, .slice A q.l.length c], .int .i64 (x.data.size : Int)] W fun e w' => e = .returned (.bool false) ∧ Touch NoS W w') := fun W hW => by
    have := r_room q x.data.size A c W (hr.touch_no hW) hl hs hb1
    rwa [hx] at this
  clear hr hx
  unfold rq Ev.val
  go_enter Try.func17, Try.ntmps17
  go_wp2_with fail
  refine (HR.out _ ((((Touch.refl _ _).alloc _).alloc _).alloc _)).mono ?_
  rintro e w1 ⟨rfl, ht1⟩
  have hbx := ((Blk.new w 30 #[.int .i64 q.count, .int .i64 q.bytes, .slice A q.l.length c]).alloc (.cells #[.int .i64 x.op, .int .i64 x.code, .string x.data] 32) |>.alloc (.cells #[.int .i64 0, .int .i64 0, .slice none 0 0] 30)).touch ht1 (fun h => h)
  have hres := (Blk.new ((w.alloc (.cells #[.int .i64 q.count, .int .i64 q.bytes, .slice A q.l.length c] 30)).alloc (.cells #[.int .i64 x.op, .int .i64 x.code, .string x.data] 32)) 30 #[.int .i64 0, .int .i64 0, .slice none 0 0]).touch ht1 (fun h => h)
  have b0 := hbx.cell 0
  have b1 := hbx.cell 1
  have b2 := hbx.cell 2
  have r0 := hres.cell 0
  have r1 := hres.cell 1
  have r2 := hres.cell 2
  have f0 := hres.frozen 0
  have f1 := hres.frozen 1
  have f2 := hres.frozen 2
  simp at b0 b1 b2 r0 r1 r2 f0 f1 f2
  have HT : Hid (Touch NoS w w1) := ((((Touch.refl _ _).alloc _).alloc _).alloc _).trans ht1
  clear hbx hres ht1
  go_wp2
  exact bodyPost_ret (v := .tuple #[rq q A c, .bool false]) (by simp [results, Try.results17, go_sem, rq, r0, r1, r2]) rfl ⟨rfl, ((HT.out.setNew (by simp <;> omega) _).setNew (by simp <;> omega) _).setNew (by simp <;> omega) _⟩

set_option maxHeartbeats 1600000 in
theorem r_put_yes (q : Qm) (x : Ev) (A : Option Addr) (c : Nat) (w : World) (hx : q.room x.data.size = true) (hr : Rd w A (evCells q.l)) (hl : q.l.length ≤ 1024) (hs : evSize q.l ≤ 4194304) (hb1 : q.bytes ≤ 4194304) :
    Calls Try.prog 17 #[rq q A c, x.val] w fun e w' => ∃ A' c', e = .returned (.tuple #[rq (q.put x) A' c', .bool true]) ∧ Row w' 32 A' (evCells (q.put x).l) ∧ (q.put x).l.length ≤ c' ∧ Touch NoS w w' := by
  obtain ⟨i0, hi, hz0, hz1, hz2⟩ := info_parts info_ev
  have HR : Hid (∀ W, Touch NoS w W → Calls Try.prog 23 #[.agg #[.int .i64 q.count, .int .i64 q.bytes, .slice A q.l.length c], .int .i64 (x.data.size : Int)] W fun e w' => e = .returned (.bool true) ∧ Touch NoS W w') := fun W hW => by
    have := r_room q x.data.size A c W (hr.touch_no hW) hl hs hb1
    rwa [hx] at this
  have HD := Lib.hid hr
  clear hr hx
  unfold rq Ev.val
  go_enter Try.func17, Try.ntmps17
  go_wp2_with fail
  refine (HR.out _ ((((Touch.refl _ _).alloc _).alloc _).alloc _)).mono ?_
  rintro e w1 ⟨rfl, ht1⟩
  have hbx := ((Blk.new w 30 #[.int .i64 q.count, .int .i64 q.bytes, .slice A q.l.length c]).alloc (.cells #[.int .i64 x.op, .int .i64 x.code, .string x.data] 32) |>.alloc (.cells #[.int .i64 0, .int .i64 0, .slice none 0 0] 30)).touch ht1 (fun h => h)
  have hex := ((Blk.new (w.alloc (.cells #[.int .i64 q.count, .int .i64 q.bytes, .slice A q.l.length c] 30)) 32 #[.int .i64 x.op, .int .i64 x.code, .string x.data]).alloc (.cells #[.int .i64 0, .int .i64 0, .slice none 0 0] 30)).touch ht1 (fun h => h)
  have hres := (Blk.new ((w.alloc (.cells #[.int .i64 q.count, .int .i64 q.bytes, .slice A q.l.length c] 30)).alloc (.cells #[.int .i64 x.op, .int .i64 x.code, .string x.data] 32)) 30 #[.int .i64 0, .int .i64 0, .slice none 0 0]).touch ht1 (fun h => h)
  simp at hbx hex hres
  have b2 := hbx.cell 2
  have e0 := hex.cell 0
  have e1 := hex.cell 1
  have e2 := hex.cell 2
  have hz := hres.lt
  have kz0 : w.heap.size < w1.heap.size := by omega
  have kz1 : w.heap.size + 1 < w1.heap.size := by omega
  simp at b2 e0 e1 e2
  have HT : Hid (Touch NoS w w1) := ((((Touch.refl _ _).alloc _).alloc _).alloc _).trans ht1
  have HB := Lib.hid hbx
  have HE := Lib.hid hex
  have HS := Lib.hid hres
  clear hbx hex hres ht1
  have HO : Hid (∀ (W : World) (b : Nat), Blk W b 32 #[] → w.heap.size ≤ b → W.ownsRow w.heap.size 32 3 (.slice (some ⟨b, 0, none⟩) 0 0) 0 []) := fun W b hb hle => ⟨rfl, .inr ⟨b, 0, #[], rfl, hle, hb, Nat.le_refl _, by simp [maxLen], rfl, rfl⟩⟩
  have HN : Hid (∀ (W : World) (n : Nat), n = W.heap.size → ∀ j u, x.cs[j]? = some u → (W.alloc (.cells #[.int .i64 x.op, .int .i64 x.code, .string x.data] 32)).cell? ((⟨n, 0, none⟩ : Addr).add j) = some u) := fun W n hn => new_cells W _ x.cs _ hn
  have H4 : Hid (∀ u ∈ x.cs, u.oneCell' = true) := by unfold Hid; have := evCells_one [x]; simpa [evCells] using this
  have hT1 : Touch NoS w w1 := HT.out
  have hszT := hT1.size
  go_wp2_with fail
  go_region_law (first
    | (refine step_app_row _ rfl (.tmp 13) (.tmp 15) 28 rfl w.heap.size 32 i0 _ 3 32 Try.underlying28 hi hz0 hz1 hz2 rfl (by decide) (.slice (some ⟨w1.heap.size, 0, none⟩) 0 0) 0 [] (by simp [Act.eval, Act.put]) (HO.out _ _ (Blk.new w1 _ _) (by omega)) A q.l.length c (evCells q.l) (by simp [Act.eval, Act.put]) (evCells_length q.l) (HD.out.touch_no (hT1.alloc _).drew) (evCells_one q.l) (by unfold maxLen; omega) (by omega) (by simp; omega) ?_
       intro v3 w3 hown hgr hat
       have t3 : Touch NoS w1 w3 := ((Touch.refl NoS w1).alloc _).drew.grown hgr (by intro k hk hlt; simp [Value.ownBlock] at hk; omega)
       have HOW := Lib.hid hown
       have HR3 : Hid (∀ k, v3.ownBlock = some k → w1.heap.size ≤ k) := (by intro k hk; rcases hat with h | h <;> rw [h] at hk <;> simp [Value.ownBlock] at hk <;> omega)
       have HT3 := Lib.hid t3
       have hsz3 := t3.size
       have hbx := HB.out.touch t3 (fun h => h)
       have hex := HE.out.touch t3 (fun h => h)
       have b2 := hbx.cell 2
       have f2 := hbx.frozen 2
       have e0 := hex.cell 0
       have e1 := hex.cell 1
       have e2 := hex.cell 2
       have kz2 : w.heap.size < w3.heap.size := by omega
       have kz3 : w.heap.size + 1 < w3.heap.size := by omega
       simp at b2 e0 e1 e2
       clear hown hgr hat hbx hex t3)
    | (refine step_app_row _ rfl (.tmp 13) (.tmp 15) 28 rfl w.heap.size 32 i0 _ 3 32 Try.underlying28 hi hz0 hz1 hz2 rfl (by decide) (.slice (some ⟨w1.heap.size, 0, none⟩) 0 0) 0 [] (by simp [Act.eval, Act.put]) (HO.out _ _ ((Blk.new w1 _ _).alloc _) (by omega)) A q.l.length c (evCells q.l) (by simp [Act.eval, Act.put]) (evCells_length q.l) (HD.out.touch_no ((hT1.alloc _).alloc _).drew) (evCells_one q.l) (by unfold maxLen; omega) (by omega) (by simp; omega) ?_
       intro v3 w3 hown hgr hat
       have t3 : Touch NoS w1 w3 := (((Touch.refl NoS w1).alloc _).alloc _).drew.grown hgr (by intro k hk hlt; simp [Value.ownBlock] at hk; omega)
       have HOW := Lib.hid hown
       have HR3 : Hid (∀ k, v3.ownBlock = some k → w1.heap.size ≤ k) := (by intro k hk; rcases hat with h | h <;> rw [h] at hk <;> simp [Value.ownBlock] at hk <;> omega)
       have HEL : Hid (Rd w3 (some ⟨w1.heap.size + 1, 0, none⟩) x.cs) := Blk.rd0 (Blk.grown (t := 32) (cs := x.cs.toArray) (Blk.drew (by simpa [Ev.cs] using Blk.new (w1.alloc (.cells #[] 32)) 32 x.cs.toArray)) hgr (by simp [Value.ownBlock]))
       have HT3 := Lib.hid t3
       have hsz3 := t3.size
       have hbx := HB.out.touch t3 (fun h => h)
       have b2 := hbx.cell 2
       have f2 := hbx.frozen 2
       have kz2 : w.heap.size < w3.heap.size := by omega
       have kz3 : w.heap.size + 1 < w3.heap.size := by omega
       simp at b2
       clear hown hgr hat hbx t3)
    | (refine step_app_row _ rfl (.tmp 13) (.tmp 15) 28 rfl w.heap.size 32 i0 _ 3 32 Try.underlying28 hi hz0 hz1 hz2 rfl (by decide) (.slice (some ⟨w1.heap.size + 1, 0, none⟩) 0 0) 0 [] (by simp [Act.eval, Act.put]) (HO.out _ _ (Blk.drew (by simpa using Blk.new (w1.alloc (.cells #[.int .i64 x.op, .int .i64 x.code, .string x.data] 32)) 32 #[])) (by omega)) A q.l.length c (evCells q.l) (by simp [Act.eval, Act.put]) (evCells_length q.l) (HD.out.touch_no ((hT1.alloc _).alloc _).drew) (evCells_one q.l) (by unfold maxLen; omega) (by omega) (by simp; omega) ?_
       intro v3 w3 hown hgr hat
       have t3 : Touch NoS w1 w3 := (((Touch.refl NoS w1).alloc _).alloc _).drew.grown hgr (by intro k hk hlt; simp [Value.ownBlock] at hk; omega)
       have HOW := Lib.hid hown
       have HR3 : Hid (∀ k, v3.ownBlock = some k → w1.heap.size ≤ k) := (by intro k hk; rcases hat with h | h <;> rw [h] at hk <;> simp [Value.ownBlock] at hk <;> omega)
       have HEL : Hid (Rd w3 (some ⟨w1.heap.size, 0, none⟩) x.cs) := Blk.rd0 (Blk.grown (t := 32) (cs := x.cs.toArray) (Blk.drew ((Blk.new w1 32 x.cs.toArray).alloc _)) hgr (by simp [Value.ownBlock]))
       have HT3 := Lib.hid t3
       have hsz3 := t3.size
       have hbx := HB.out.touch t3 (fun h => h)
       have b2 := hbx.cell 2
       have f2 := hbx.frozen 2
       have kz2 : w.heap.size < w3.heap.size := by omega
       have kz3 : w.heap.size + 1 < w3.heap.size := by omega
       simp at b2
       clear hown hgr hat hbx t3)
    | (refine step_app_row _ rfl (.tmp 16) (.tmp 18) 28 rfl w.heap.size 32 i0 _ 3 32 Try.underlying28 hi hz0 hz1 hz2 rfl (by decide) v3 (0 + q.l.length) ([] ++ evCells q.l) (by simp [Act.eval, Act.put]) (HOW.out.alloc _) (some ⟨w3.heap.size, 0, none⟩) 1 1 x.cs (by simp [Act.eval, Act.put]) rfl (Blk.rd0 (Blk.new w3 _ x.cs.toArray)) H4.out (by unfold maxLen; omega) (by omega) (by simp; omega) ?_
       intro v4 w4 hown hgr hat
       obtain ⟨g4, c4, rfl, hc4, hg4⟩ := own_out hown (by omega)
       have t4 : Touch NoS w1 w4 := (HT3.out.alloc _).grown hgr (by intro k hk hlt; have := HR3.out k hk; omega)
       have HOW4 := Lib.hid hown
       have HT4 := Lib.hid t4
       have hbx := HB.out.touch t4 (fun h => h)
       have hres := HS.out.touch t4 (fun h => h)
       have b0 := hbx.cell 0
       have b1 := hbx.cell 1
       have b2' := hbx.cell 2
       have f2' := hbx.frozen 2
       have r0 := hres.cell 0
       have r1 := hres.cell 1
       have r2 := hres.cell 2
       have q0 := hres.frozen 0
       have q1 := hres.frozen 1
       have q2 := hres.frozen 2
       simp at b0 b1 b2' r0 r1 r2 q0 q1 q2
       clear hown hgr hat hbx hres t4)
    | (refine step_app_row _ rfl (.tmp 16) (.tmp 18) 28 rfl w.heap.size 32 i0 _ 3 32 Try.underlying28 hi hz0 hz1 hz2 rfl (by decide) v3 (0 + q.l.length) ([] ++ evCells q.l) (by simp [Act.eval, Act.put]) HOW.out (some ⟨_, 0, none⟩) 1 1 x.cs (by simp [Act.eval, Act.put]) rfl HEL.out H4.out (by unfold maxLen; omega) (by omega) (by omega) ?_
       intro v4 w4 hown hgr hat
       obtain ⟨g4, c4, rfl, hc4, hg4⟩ := own_out hown (by omega)
       have t4 : Touch NoS w1 w4 := HT3.out.grown hgr (by intro k hk hlt; have := HR3.out k hk; omega)
       have HOW4 := Lib.hid hown
       have HT4 := Lib.hid t4
       have hbx := HB.out.touch t4 (fun h => h)
       have hres := HS.out.touch t4 (fun h => h)
       have b0 := hbx.cell 0
       have b1 := hbx.cell 1
       have b2' := hbx.cell 2
       have f2' := hbx.frozen 2
       have r0 := hres.cell 0
       have r1 := hres.cell 1
       have r2 := hres.cell 2
       have q0 := hres.frozen 0
       have q1 := hres.frozen 1
       have q2 := hres.frozen 2
       simp at b0 b1 b2' r0 r1 r2 q0 q1 q2
       clear hown hgr hat hbx hres t4))
  all_goals
    go_wp2
    refine bodyPost_ret (v := .tuple #[rq (q.put x) (some ⟨g4, 0, none⟩) c4, .bool true]) (by simp [results, Try.results17, go_sem, rq, Qm.put, r0, r1, r2]) rfl ⟨_, _, rfl, ?_, by simpa [Qm.put] using hc4, ?_⟩
    · have h4 := Row.of_own HOW4.out
      have h5 : [] ++ evCells q.l ++ x.cs = evCells (q.put x).l := by simp [Qm.put, evCells]
      rw [h5] at h4
      have hb4 := HB.out.touch HT4.out (fun h => h)
      have hs4 := HS.out.touch HT4.out (fun h => h)
      refine h4.touch (S := fun k => k = w.heap.size ∨ k = w.heap.size + 1 + 1) ?_ ?_
      · repeat (with_reducible first | exact Touch.refl _ _ | refine Touch.drew ?_ | refine Touch.setCell ?_ (fun _ => by simp) _)
      · rintro g cs hb (rfl | rfl)
        · exact hb.ne_ hb4 (by decide) rfl
        · exact hb.ne_ hs4 (by decide) rfl
    · have := hT1.trans HT4.out
      repeat (with_reducible first | exact this | refine Touch.drew ?_ | refine Touch.setNew ?_ (by simp <;> omega) _)
end Go.Proofs.Ytgbldgeknmkmmaa
