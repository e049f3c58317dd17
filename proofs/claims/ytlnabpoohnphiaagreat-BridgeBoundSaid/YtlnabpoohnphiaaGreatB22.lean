/- leg: fail; the acts of a side in one form. | close: Across. | leg: take. | stream: what the frames of bytes are like, and what is left. | ref12: Same. -/
import Derived.Test.YtlnabpoohnphiaaGreatB21
import Derived.Test.YtlnabpoohnphiaaGreatB13
import Derived.Test.YtlnabpoohnphiaaGreatB12
import Derived.Test.YtlnabpoohnphiaaGreatB17
import Derived.Deep.LoopGhost
/- leg: fail; the acts of a side in one form. -/
namespace Go.Proofs.YtlnabpoohnphiaaGreat
open Go.RowKit
set_option linter.unusedSimpArgs false
set_option linter.unusedVariables false

/-- An act of a side: it is L' then, and nothing else changed. -/
def LAct (w w' : World) (g : Nat) (k : Lk) (V : LV) (L' : Lg) : Prop := ∃ V', IsL w' g k L' V' ∧ LLoc w V V' ∧ Touch (LF g k V) w w'
theorem LAct.refl {w w' : World} {g : Nat} {k : Lk} {V : LV} {L : Lg} (h : IsL w g k L V) (t : Touch NoS w w') : LAct w w' g k V L := ⟨V, h.no t, LLoc.refl _ _, t.of_no⟩
theorem LAct.trans {w w1 w2 : World} {g : Nat} {k : Lk} {V : LV} {L1 L2 : Lg} (h : LAct w w1 g k V L1) (h2 : ∀ V1, IsL w1 g k L1 V1 → LAct w1 w2 g k V1 L2) : LAct w w2 g k V L2 := by
  obtain ⟨V1, i1, l1, t1⟩ := h
  obtain ⟨V2, i2, l2, t2⟩ := h2 V1 i1
  refine ⟨V2, i2, l1.trans l2 t1.size, t1.trans' t2 fun i hi hS => ?_⟩
  rcases LF_loc l1 hS with h | h
  · exact h
  · omega
theorem LAct.via {w w1 w2 : World} {g : Nat} {k : Lk} {V V1 : LV} {L2 : Lg} (l1 : LLoc w V V1) (t1 : Touch (LF g k V) w w1) (h2 : LAct w1 w2 g k V1 L2) : LAct w w2 g k V L2 := by
  obtain ⟨V2, i2, l2, t2⟩ := h2
  refine ⟨V2, i2, l1.trans l2 t1.size, t1.trans' t2 fun i hi hS => ?_⟩
  rcases LF_loc l1 hS with h | h
  · exact h
  · omega
theorem LAct.no {w w1 w2 : World} {g : Nat} {k : Lk} {V : LV} {L1 : Lg} (h : LAct w w1 g k V L1) (t : Touch NoS w1 w2) : LAct w w2 g k V L1 := h.trans fun _ h1 => LAct.refl h1 t
theorem LAct.pre {w w1 w2 : World} {g : Nat} {k : Lk} {V : LV} {L1 : Lg} (t : Touch NoS w w1) (h : LAct w1 w2 g k V L1) : LAct w w2 g k V L1 := by
  obtain ⟨V1, i1, l1, t1⟩ := h
  exact ⟨V1, i1, ⟨fun b hb => (l1.s b hb).imp id (Nat.le_trans t.size), fun b hb => (l1.m b hb).imp id (Nat.le_trans t.size), fun b hb => (l1.t b hb).imp id (Nat.le_trans t.size), fun b hb => (l1.c b hb).imp id (Nat.le_trans t.size), fun b hb => (l1.r b hb).imp id (Nat.le_trans t.size)⟩, t.of_no.trans t1⟩
theorem valid11_put {c : Int} (h : valid11 c = true) : cput c ⟨#[]⟩ = (Go.strOfNums [c / 256, c % 256] ++ ⟨#[]⟩, 0) := by
  have hv := valid11_le h
  unfold cput
  rw [if_neg (by rintro ⟨h, _⟩; omega), if_neg (by rw [h]; rintro (h | h); cases h; exact absurd h (by decide)), if_neg (by decide)]
section
variable {w : World} {g : Nat} {k : Lk} {L : Lg} {V : LV}
theorem l_send (h : IsL w g k L V) (op code : Int) (s : ByteArray) (hs : s.size ≤ maxLen) (hk : k.message ≤ 65536) (hf1 : 1 ≤ k.frame) (hf2 : k.frame ≤ 65536) :
    Calls Tryz.prog 68 #[.pointer (some ⟨g, 0, none⟩), .agg #[.int .i64 op, .int .i64 code, .string s]] w fun e w' => e = .returned (.bool (L.send k op s).2) ∧ LAct w w' g k V (L.send k op s).1 := by
  unfold Lg.send
  by_cases hc : L.free = true ∧ (op = 1 ∨ op = 2) ∧ s.size ≤ k.message
  · rw [if_pos hc]
    refine (l_send_ok h op code s hk hf1 hf2 hc.1 hc.2.1 hc.2.2).mono ?_
    rintro e w' ⟨rfl, ⟨V', h1, h2⟩, h3⟩
    exact ⟨rfl, V', h1, h2, h3⟩
  · rw [if_neg hc]
    refine (l_send_no h op code s hs hk hc).mono ?_
    rintro e w' ⟨rfl, ht⟩
    exact ⟨rfl, LAct.refl h ht⟩
theorem l_ping (h : IsL w g k L V) (d : ByteArray) (hd : d.size ≤ maxLen) (hn : L.o.ctl.length ≤ 1000000) :
    Calls Tryz.prog 73 #[.pointer (some ⟨g, 0, none⟩), .string d] w fun e w' => e = .returned (.bool (L.ping k d).2) ∧ LAct w w' g k V (L.ping k d).1 := by
  unfold Lg.ping
  by_cases hc : L.sent = true ∨ L.got = true ∨ L.wrong ≠ 0 ∨ 125 < d.size
  · rw [if_pos hc]
    refine (l_ping_no h d hd hc).mono ?_
    rintro e w' ⟨rfl, rfl⟩
    exact ⟨rfl, LAct.refl h (Touch.refl _ _)⟩
  · rw [if_neg hc]
    refine (l_ping_ok h d ?_ ?_ ?_ ?_ hn).mono ?_
    · cases hs : L.sent
      · rfl
      · exact absurd (.inl hs) hc
    · cases hs : L.got
      · rfl
      · exact absurd (.inr (.inl hs)) hc
    · by_cases hs : L.wrong = 0
      · exact hs
      · exact absurd (.inr (.inr (.inl hs))) hc
    · by_cases hs : d.size ≤ 125
      · exact hs
      · exact absurd (.inr (.inr (.inr (by omega)))) hc
    rintro e w' ⟨rfl, ⟨V', h1, h2⟩, h3⟩
    exact ⟨rfl, V', h1, h2, h3⟩
theorem cput_len (code : Int) (s : ByteArray) (hd : s.size ≤ maxLen) : (cput code s).1.size ≤ maxLen := by
  unfold cput
  split
  · unfold maxLen; decide
  split
  · unfold maxLen; decide
  split
  · unfold maxLen; decide
  · rename_i h1 h2 h3
    have : s.size ≤ 123 := by
      by_cases h : s.size ≤ 123
      · exact h
      · exact absurd (.inr (by omega)) h2
    rw [ByteArray.size_append, numsB_size]
    unfold maxLen
    simp
    omega
theorem l_close (h : IsL w g k L V) (code : Int) (s : ByteArray) (hd : s.size ≤ maxLen) (hn : L.o.ctl.length ≤ 1000000) :
    Calls Tryz.prog 70 #[.pointer (some ⟨g, 0, none⟩), .int .i64 code, .string s] w fun e w' => e = .returned (.bool (L.close k code s).2) ∧ LAct w w' g k V (L.close k code s).1 := by
  unfold Lg.close
  by_cases hc : L.sent = true ∨ (cput code s).2 ≠ 0
  · rw [if_pos hc]
    refine (l_close_no h code s hd hc).mono ?_
    rintro e w' ⟨rfl, ht⟩
    exact ⟨rfl, LAct.refl h ht⟩
  · rw [if_neg hc]
    refine (l_close_ok h code s hd ?_ (cput code s).1 ?_ (cput_len code s hd) hn).mono ?_
    · cases hs : L.sent
      · rfl
      · exact absurd (.inl hs) hc
    · have : (cput code s).2 = 0 := by
        by_cases hs : (cput code s).2 = 0
        · exact hs
        · exact absurd (.inr hs) hc
      rw [← this]
    rintro e w' ⟨rfl, ⟨V', h1, h2⟩, h3⟩
    exact ⟨rfl, V', h1, h2, h3⟩
theorem l_pong (h : IsL w g k L V) (d : ByteArray) (hd : d.size ≤ maxLen) (hn : L.o.ctl.length ≤ 1000000) :
    Calls Tryz.prog 106 #[.pointer (some ⟨g, 0, none⟩), .string d] w fun e w' => e = .returned (.tuple #[]) ∧ LAct w w' g k V (L.pong k d) := by
  unfold Lg.pong
  by_cases hc : L.sent = true
  · rw [if_pos hc]
    refine (l_pong_no h d hc).mono ?_
    rintro e w' ⟨rfl, rfl⟩
    exact ⟨rfl, LAct.refl h (Touch.refl _ _)⟩
  · rw [if_neg hc]
    have hs : L.sent = false := by
      cases hs : L.sent
      · rfl
      · exact absurd hs hc
    unfold ponged
    by_cases hp : pidx L.o.ctl < L.o.ctl.length
    · rw [if_pos hp]
      refine (l_pong_set h d hd hs hn _ rfl hp).mono ?_
      rintro e w' ⟨rfl, ⟨V', h1, h2⟩, h3⟩
      exact ⟨rfl, V', h1, h2, h3⟩
    · rw [if_neg hp]
      refine (l_pong_new h d hd hs hn hp).mono ?_
      rintro e w' ⟨rfl, ⟨V', h1, h2⟩, h3⟩
      exact ⟨rfl, V', h1, h2, h3⟩
/-- A flag of it set. -/
theorem IsL.set_ (h : IsL w g k L V) (i : Nat) (u : Value) (got' : Bool) (wrong' : Int) (hc : (lgCells k V.vt V.vc V.vr L.o.draw L.sent L.got L.wrong).setIfInBounds i u = lgCells k V.vt V.vc V.vr L.o.draw L.sent got' wrong') :
    IsL (w.setCell ⟨g, i, none⟩ u) g k { L with got := got', wrong := wrong' } V ∧ Touch (At g) w (w.setCell ⟨g, i, none⟩ u) := by
  have tg : Touch (At g) w (w.setCell ⟨g, i, none⟩ u) := (Touch.refl (At g) w).setAt i u
  have hb := h.out.blk.set_ i u
  rw [hc] at hb
  obtain ⟨c1, c2, q1, q2⟩ := h.out.ring.blk
  have hT : ∀ (t : TypeId) (cs : Array Value) (b : Nat), Blk w b t cs → t ≠ 109 → ¬ At g b := fun t cs b hb ht hS => hb.ne_ h.out.blk ht hS
  refine ⟨⟨⟨hb, h.out.ring.touch tg (hT _ _ _ q1 (by decide)) (hT _ _ _ q2 (by decide)), h.out.tail.touch tg fun b hb => ?_, h.out.ctl.touch tg fun b hb => ?_, h.out.rest.touch tg fun b hb => ?_, h.out.bytes, h.out.good, h.out.apart⟩,
    h.ins.touch tg (hT _ _ _ h.ins.1 (by decide)) fun b hb => ?_, h.mac.touch tg (hT _ _ _ h.mac.1 (by decide)) (hT _ _ _ h.mac.2.2 (by decide)) fun b hb => ?_, h.good, h.sm, h.st, h.sr, h.mt, h.mr, h.cr⟩, tg⟩
  · obtain ⟨cs, hc⟩ := h.out.tail.type hb
    exact hT _ _ _ hc (by decide)
  · obtain ⟨cs, hc⟩ := h.out.ctl.type hb
    exact hT _ _ _ hc (by decide)
  · obtain ⟨cs, hc⟩ := h.out.rest.type hb
    exact hT _ _ _ hc (by decide)
  · obtain ⟨cs, hc⟩ := own_type h.ins.2 hb
    exact hT _ _ _ hc (by decide)
  · obtain ⟨cs, hc⟩ := own_type h.mac.2.1 hb
    exact hT _ _ _ hc (by decide)
theorem IsL.set_act (h : IsL w g k L V) (i : Nat) (u : Value) (got' : Bool) (wrong' : Int) (hc : (lgCells k V.vt V.vc V.vr L.o.draw L.sent L.got L.wrong).setIfInBounds i u = lgCells k V.vt V.vc V.vr L.o.draw L.sent got' wrong') :
    LAct w (w.setCell ⟨g, i, none⟩ u) g k V { L with got := got', wrong := wrong' } := by
  obtain ⟨h1, h2⟩ := h.set_ i u got' wrong' hc
  exact ⟨V, h1, LLoc.refl _ _, h2.mono fun b hb => Or.inl hb⟩
def Lg.fail (k : Lk) (L : Lg) (e : Int) : Lg := (({ L with wrong := e } : Lg).close k (code11 e) ⟨#[]⟩).1
set_option maxHeartbeats 6400000 in
set_option maxRecDepth 100000 in
theorem l_fail (h : IsL w g k L V) (e : Int) (hn : L.o.ctl.length ≤ 1000000) :
    Calls Tryz.prog 83 #[.pointer (some ⟨g, 0, none⟩), .int .i64 e] w fun x w' => x = .returned (.tuple #[]) ∧ LAct w w' g k V (L.fail k e) := by
  have hb := h.out.blk
  have c1 := hb.cell 22
  have f1 := hb.frozen 22
  have glt := hb.lt
  simp [lgCells] at c1
  have hset := h.set_act 22 (.int .i64 e) L.got e (by simp [lgCells])
  have HSET := Lib.hid hset
  have HCO := Lib.hid (fun W => c_code e W)
  have HCL : Hid (∀ (W : World) (V1 : LV), IsL W g k { L with wrong := e } V1 → Calls Tryz.prog 70 #[.pointer (some ⟨g, 0, none⟩), .int .i64 (code11 e), .string ⟨#[]⟩] W fun x w' => x = .returned (.bool (({ L with wrong := e } : Lg).close k (code11 e) ⟨#[]⟩).2) ∧ LAct W w' g k V1 (L.fail k e)) :=
    fun W V1 h1 => l_close h1 (code11 e) ⟨#[]⟩ (by unfold maxLen; decide) hn
  obtain ⟨LF', hLF⟩ : ∃ x, x = L.fail k e := ⟨_, rfl⟩
  rw [← hLF] at HCL ⊢
  clear hb h hset hLF
  go_enter Tryz.func83, Tryz.ntmps83
  go_wp2_with fail
  refine (HCO.out _).mono ?_
  rintro x w1 ⟨rfl, ht⟩
  have hs1 := HSET.out.no ht
  have HS1 := Lib.hid hs1
  obtain ⟨V1, i1, l1, t1⟩ := hs1
  have HI1 := Lib.hid i1
  have HL1 := Lib.hid l1
  have HT1 := Lib.hid t1
  clear ht l1 t1 i1
  go_wp2_with fail
  refine (HCL.out _ V1 HI1.out).mono ?_
  rintro x w2 ⟨rfl, ha⟩
  have HA := Lib.hid (LAct.via HL1.out HT1.out ha)
  clear ha
  go_wp2_with fail
  go_end0
  exact ⟨rfl, HA.out⟩
end
end Go.Proofs.YtlnabpoohnphiaaGreat
/- close: Across. -/
namespace Go.Proofs.YtlnabpoohnphiaaGreat
open Go.RowKit
set_option linter.unusedSimpArgs false
set_option linter.unusedVariables false

/-- By which code the other side is ended. -/
def across11 (n : Int) : Int := if n = 1005 then 0 else if valid11 n = true then n else 1011
theorem c_across (n : Int) (w : World) : Calls Tryz.prog 62 #[.int .i64 n] w fun e w' => e = .returned (.int .i64 (across11 n)) ∧ Touch NoS w w' := by
  have HV := Lib.hid (fun W => c_valid n W)
  by_cases h : n = 1005
  · subst h
    go_enter Tryz.func62, Tryz.ntmps62
    go_wp2
    go_ret
    exact ⟨rfl, Touch.refl _ _⟩
  have hq : (n == 1005) = false := by rw [beq_eq_false_iff_ne]; exact h
  cases hv : valid11 n with
  | true =>
    rw [show across11 n = n from by unfold across11; rw [if_neg h, if_pos hv]]
    rw [hv] at HV
    clear hv h
    go_enter Tryz.func62, Tryz.ntmps62
    go_wp2_with fail
    refine (HV.out _).mono ?_
    rintro e w1 ⟨rfl, ht⟩
    have HT := Lib.hid ht
    clear ht
    go_wp2
    go_ret
    exact ⟨rfl, HT.out⟩
  | false =>
    rw [show across11 n = 1011 from by unfold across11; rw [if_neg h, if_neg (by rw [hv]; simp)]]
    rw [hv] at HV
    clear hv h
    go_enter Tryz.func62, Tryz.ntmps62
    go_wp2_with fail
    refine (HV.out _).mono ?_
    rintro e w1 ⟨rfl, ht⟩
    have HT := Lib.hid ht
    clear ht
    go_wp2
    go_ret
    exact ⟨rfl, HT.out⟩
end Go.Proofs.YtlnabpoohnphiaaGreat
/- leg: take. -/
namespace Go.Proofs.YtlnabpoohnphiaaGreat
open Go.RowKit
set_option linter.unusedSimpArgs false
set_option linter.unusedVariables false

def Lg.takeF (k : Lk) (L : Lg) (f : Fr) : Lg × Ev × Bool :=
  if (mtake L.m f).2.2.2 ≠ 0 then (({ L with m := (mtake L.m f).1 } : Lg).fail k (mtake L.m f).2.2.2, Ev.zero, false)
  else if (mtake L.m f).2.2.1 = true ∧ (mtake L.m f).2.1.op = 9 then (({ L with m := (mtake L.m f).1 } : Lg).pong k (mtake L.m f).2.1.data, Ev.zero, false)
  else if (mtake L.m f).2.2.1 = true ∧ (mtake L.m f).2.1.op = 8 then ((({ L with m := (mtake L.m f).1, got := true } : Lg).close k (across11 (mtake L.m f).2.1.code) ⟨#[]⟩).1, (mtake L.m f).2.1, true)
  else ({ L with m := (mtake L.m f).1 }, (mtake L.m f).2.1, (mtake L.m f).2.2.1)
/-- Types of none of a side's blocks. -/
def Outer (t : TypeId) : Prop := t ≠ 109 ∧ t ≠ 139 ∧ t ≠ 143 ∧ t ≠ 165 ∧ t ≠ 145 ∧ t ≠ 5 ∧ t ≠ 42
instance (t : TypeId) : Decidable (Outer t) := by unfold Outer; infer_instance
theorem IsL.outer {w : World} {g : Nat} {k : Lk} {L : Lg} {V : LV} (h : IsL w g k L V) {b : Nat} {t : TypeId} {cs : Array Value} (hb : Blk w b t cs) (ht : Outer t) : ¬ LF g k V b := fun hF => by
  obtain ⟨t', cs', hb', h'⟩ := h.type hF
  obtain ⟨h1, h2, h3, h4, h5, h6, h7⟩ := ht
  rcases h' with rfl | rfl | rfl | rfl | rfl | rfl | rfl
  · exact hb.ne_ hb' h1 rfl
  · exact hb.ne_ hb' h2 rfl
  · exact hb.ne_ hb' h3 rfl
  · exact hb.ne_ hb' h4 rfl
  · exact hb.ne_ hb' h5 rfl
  · exact hb.ne_ hb' h6 rfl
  · exact hb.ne_ hb' h7 rfl
/-- Another's block is as it was. -/
theorem LAct.keep {w w' : World} {g : Nat} {k : Lk} {L L' : Lg} {V : LV} (a : LAct w w' g k V L') (h : IsL w g k L V) {b : Nat} {t : TypeId} {cs : Array Value} (hb : Blk w b t cs) (ht : Outer t) : Blk w' b t cs := by
  obtain ⟨V1, _, _, t1⟩ := a
  exact hb.touch t1 (h.outer hb ht)
theorem LAct.row {w w1 w2 : World} {g : Nat} {k : Lk} {V : LV} {L1 : Lg} (h : LAct w w1 g k V L1) {b : Nat} {t : TypeId} {cs : Array Value} (hb : Blk w1 b t cs) (ht : Outer t) (hn : w.heap.size ≤ b) (tt : Touch (At b) w1 w2) : LAct w w2 g k V L1 := by
  obtain ⟨V1, i1, l1, t1⟩ := h
  refine ⟨V1, i1.touch tt fun x hx hS => ?_, l1, t1.trans' tt fun x hx hS => ?_⟩
  · exact i1.outer hb ht (by rw [← show x = b from hS]; exact hx)
  · have : x = b := hS
    omega
theorem setRow_touch (w : World) (b : Nat) (cs : Array Value) : Touch (At b) w (w.setRow b cs) := ⟨rfl, rfl, rfl, by simp, fun k _ hk => setRow_other w b k cs hk⟩
theorem takeF_results (tmps : Array Value) (w : World) (x : Ev) (g : Nat) (b : Bool) (h4 : tmps.getD 4 undef = .pointer (some ⟨g, 0, none⟩)) (h5 : tmps.getD 5 undef = .bool b)
    (hb : Blk w g 37 (evAgg x)) : (results Tryz.f82 tmps).run Tryz.prog w = .ok (.tuple #[.agg (evAgg x), .bool b]) w := by
  have hld := ev_load hb rfl
  obtain ⟨a, b, c⟩ := x
  have c0 := hb.cell 0
  have c1 := hb.cell 1
  have c2 := hb.cell 2
  simp only [Array.getD_eq_getD_getElem?] at h4 h5
  simp [evAgg] at c0 c1 c2
  simp [results, Tryz.results82, go_sem, h4, h5, c0, c1, c2, hld]
section
variable {w : World} {g : Nat} {k : Lk} {L : Lg} {V : LV}
theorem m_act_ (h : IsL w g k L V) (f : Fr) (hf : f.good) (hz : f.data.size ≤ 100000000) :
    Calls Tryz.prog 105 #[.pointer (some ⟨k.mg, 0, none⟩), .agg f.cs] w fun x w' => x = .returned (.tuple #[.agg (evAgg (mtake L.m f).2.1), .bool (mtake L.m f).2.2.1, .int .i64 (mtake L.m f).2.2.2]) ∧ LAct w w' g k V { L with m := (mtake L.m f).1 } := by
  refine (m_take_v 0 k.mg k.mcu L.m h.good f hf hz w V.vm h.mac (Nat.zero_le _)).mono ?_
  rintro x w' ⟨rfl, ⟨v1, h1, h2⟩, h3⟩
  exact ⟨rfl, h.m_act h1 (mtake_good h.good f) h2 h3⟩
set_option maxHeartbeats 12800000 in
set_option maxRecDepth 100000 in
theorem l_takeF (h : IsL w g k L V) (f : Fr) (hf : f.good) (hz : f.data.size ≤ 100000000) (hn : L.o.ctl.length ≤ 1000000) (hx : (mtake L.m f).2.1.data.size ≤ maxLen) :
    Calls Tryz.prog 82 #[.pointer (some ⟨g, 0, none⟩), .agg f.cs] w fun x w' => x = .returned (.tuple #[.agg (evAgg (L.takeF k f).2.1), .bool (L.takeF k f).2.2]) ∧ LAct w w' g k V (L.takeF k f).1 := by
  have HM := Lib.hid (fun W (t : Touch NoS w W) => m_act_ (h.no t) f hf hz)
  have H := Lib.hid h
  obtain ⟨R, hR⟩ : ∃ x, x = L.takeF k f := ⟨_, rfl⟩
  unfold Lg.takeF at hR
  rw [show L.takeF k f = R from by rw [hR]; rfl]
  obtain ⟨⟨c', x, is, er⟩, hm⟩ : ∃ m, m = mtake L.m f := ⟨_, rfl⟩
  rw [← hm] at HM hR hx
  simp only at HM hR hx
  have HR := Lib.hid hR
  have HFA : Hid (∀ W V1, IsL W g k { L with m := c' } V1 → Calls Tryz.prog 83 #[.pointer (some ⟨g, 0, none⟩), .int .i64 er] W fun x w' => x = .returned (.tuple #[]) ∧ LAct W w' g k V1 (({ L with m := c' } : Lg).fail k er)) := fun W V1 h1 => l_fail h1 er hn
  have HPO : Hid (∀ W V1, IsL W g k { L with m := c' } V1 → Calls Tryz.prog 106 #[.pointer (some ⟨g, 0, none⟩), .string x.data] W fun y w' => y = .returned (.tuple #[]) ∧ LAct W w' g k V1 (({ L with m := c' } : Lg).pong k x.data)) := fun W V1 h1 => l_pong h1 x.data hx hn
  have HAC := Lib.hid (fun W => c_across x.code W)
  have HCL : Hid (∀ W V1, IsL W g k { L with m := c', got := true } V1 → Calls Tryz.prog 70 #[.pointer (some ⟨g, 0, none⟩), .int .i64 (across11 x.code), .string ⟨#[]⟩] W fun y w' => y = .returned (.bool (({ L with m := c', got := true } : Lg).close k (across11 x.code) ⟨#[]⟩).2) ∧ LAct W w' g k V1 (({ L with m := c', got := true } : Lg).close k (across11 x.code) ⟨#[]⟩).1) := fun W V1 h1 => l_close h1 _ _ (by unfold maxLen; decide) hn
  obtain ⟨xo, xc, xd⟩ := x
  obtain ⟨fin, op, masked, k0, k1, k2, k3, d⟩ := f
  simp only [Fr.cs, evAgg] at HM
  simp only at HPO HAC HCL
  simp only [Fr.cs]
  clear h hR hf hz hm hx
  go_enter Tryz.func82, Tryz.ntmps82
  go_upto_region 1 with (fail)
  obtain ⟨w1, hw1⟩ : ∃ w1, w1 = ((w.alloc (.cells #[.bool fin, .int .i64 op, .bool masked, .int .u8 k0, .int .u8 k1, .int .u8 k2, .int .u8 k3, .string d] 42)).alloc (.cells #[.int .i64 0, .int .i64 0, .string ⟨#[]⟩] 37)) := ⟨_, rfl⟩
  obtain ⟨gf, hgf⟩ : ∃ x, x = w.heap.size := ⟨_, rfl⟩
  obtain ⟨gr, hgr⟩ : ∃ x, x = w.heap.size + 1 := ⟨_, rfl⟩
  obtain ⟨hbf, hbr, ht⟩ := pair_blocks w 42 37 #[.bool fin, .int .i64 op, .bool masked, .int .u8 k0, .int .u8 k1, .int .u8 k2, .int .u8 k3, .string d] #[.int .i64 0, .int .i64 0, .string ⟨#[]⟩]
  rw [← hw1, ← hgf] at hbf
  rw [← hw1, ← hgr] at hbr
  rw [← hw1] at ht
  rw [← hw1, ← hgr, ← hgf]
  have hgw : w.heap.size ≤ gr := by omega
  have HI1 := Lib.hid (H.out.no ht)
  have HT1 := Lib.hid ht
  have HBR1 := Lib.hid hbr
  have g13 := HI1.out.out.blk.cell 13
  have a0 := hbf.cell 0
  have a1 := hbf.cell 1
  have a2 := hbf.cell 2
  have a3 := hbf.cell 3
  have a4 := hbf.cell 4
  have a5 := hbf.cell 5
  have a6 := hbf.cell 6
  have a7 := hbf.cell 7
  have al := hbf.lt
  have gl := HI1.out.out.blk.lt
  simp [lgCells] at g13 a0 a1 a2 a3 a4 a5 a6 a7
  clear hw1 hgf hgr hbf hbr ht
  go_cut [6, 7, 8] (fun ev iv rv wx => ∃ ge, ev = .pointer (some ⟨ge, 0, none⟩) ∧ iv = .bool is ∧ rv = .int .i64 er ∧ Blk wx ge 37 #[.int .i64 xo, .int .i64 xc, .string xd] ∧ Blk wx gr 37 #[.int .i64 0, .int .i64 0, .string ⟨#[]⟩] ∧ LAct w wx g k V { L with m := c' })
  case first =>
    go_region_with (first
      | (go_at_call 105; refine (HM.out _ ((HT1.out.alloc _).drew)).mono ?_; rintro e w5 ⟨rfl, ha5⟩; have hbe := ha5.keep (H.out.no ((HT1.out.alloc _).drew)) (Blk.drew (Blk.new w1 37 #[.int .i64 0, .int .i64 0, .string ⟨#[]⟩])) (by decide); have e0 := hbe.cell 0; have e1 := hbe.cell 1; have e2 := hbe.cell 2; have fe := fun i => hbe.frozen i; have fe0 := fe 0; have fe1 := fe 1; have fe2 := fe 2; have le := hbe.lt; have HBR5 := Lib.hid (ha5.keep (H.out.no ((HT1.out.alloc _).drew)) (HBR1.out.alloc _).drew (by decide)); have HBE := Lib.hid hbe; have HA5 := Lib.hid (LAct.pre ((HT1.out.alloc _).drew) ha5); clear ha5 hbe fe; simp at e0 e1 e2)
      | (go_at_call 105; refine (HM.out _ HT1.out.drew).mono ?_; rintro e w5 ⟨rfl, ha5⟩; have HBR5 := Lib.hid (ha5.keep (H.out.no HT1.out.drew) HBR1.out.drew (by decide)); have HA5 := Lib.hid (LAct.pre HT1.out.drew ha5); clear ha5))
    all_goals
      simp [Act.put]
      go_wp2_with fail
      go_meet
      first
        | exact ⟨w1.heap.size, rfl, rfl, rfl, (((HBE.out.set_ 0 _).set_ 1 _).set_ 2 _), (((HBR5.out.far (Nat.ne_of_lt HBR1.out.lt) _).far (Nat.ne_of_lt HBR1.out.lt) _).far (Nat.ne_of_lt HBR1.out.lt) _), HA5.out.row HBE.out (by decide) HT1.out.size ((((Touch.refl _ _).setAt 0 _).setAt 1 _).setAt 2 _)⟩
        | exact ⟨w5.heap.size, rfl, rfl, rfl, Blk.new w5 _ _, HBR5.out.alloc _, HA5.out.no ((Touch.refl _ _).alloc _)⟩
  case rest =>
    obtain ⟨ge, rfl, rfl, rfl, hbe, hbr, ha⟩ := hcut
    obtain ⟨wd, rfl⟩ : ∃ we : World, we = wc := ⟨_, rfl⟩
    obtain ⟨V1, i1, l1, t1⟩ := ha
    have HI := Lib.hid i1
    have HL1 := Lib.hid l1
    have HTD := Lib.hid t1
    have HBE := Lib.hid hbe
    have HBR := Lib.hid hbr
    have HZ := Lib.hid hgw
    have e0 := hbe.cell 0
    have e1 := hbe.cell 1
    have e2 := hbe.cell 2
    have el := hbe.lt
    simp at e0 e1 e2
    clear i1 l1 t1 hbe hbr g13 a0 a1 a2 a3 a4 a5 a6 a7 al gl
    by_cases her : er = 0
    · have q3 : (er != 0) = false := by rw [her]; rfl
      have HR1 := Lib.hid (HR.out.trans (if_neg (fun h => h her)))
      clear her
      by_cases h9 : is = true ∧ xo = 9
      · have HR2 := Lib.hid (HR1.out.trans (if_pos h9))
        obtain ⟨rfl, rfl⟩ := h9
        go_wp2_with fail
        refine (HPO.out _ V1 HI.out).mono ?_
        rintro y w6 ⟨rfl, ha6⟩
        have HB6 := Lib.hid (ha6.keep HI.out HBR.out (by decide))
        have HA6 := Lib.hid (LAct.via HL1.out HTD.out ha6)
        clear ha6
        go_wp2_with (refine wpList_store_row rfl 37 (.tmp 4) (.tmp 37) rfl gr #[.int .i64 0, .int .i64 0, .string ⟨#[]⟩] rfl rfl 37 #[.int .i64 0, .int .i64 0, .string ⟨#[]⟩] HB6.out ev_info rfl (ev_one _ _ _) ?_)
        have hbr : Blk (w6.setRow gr #[.int .i64 0, .int .i64 0, .string ⟨#[]⟩]) gr 37 (evAgg Ev.zero) := HB6.out.row
        refine bodyPost_ret (v := .tuple #[.agg (evAgg Ev.zero), .bool false]) (takeF_results _ _ Ev.zero _ _ rfl rfl hbr) rfl ?_
        rw [HR2.out]
        exact ⟨rfl, HA6.out.row HB6.out (by decide) HZ.out (setRow_touch _ _ _)⟩
      · have HR2 := Lib.hid (HR1.out.trans (if_neg h9))
        by_cases h8 : is = true ∧ xo = 8
        · have HR3 := Lib.hid (HR2.out.trans (if_pos h8))
          obtain ⟨rfl, rfl⟩ := h8
          clear h9
          have g21 := HI.out.out.blk.cell 21
          have f21 := HI.out.out.blk.frozen 21
          have gl := HI.out.out.blk.lt
          simp [lgCells] at g21
          have hge : ge ≠ g := HBE.out.ne_ HI.out.out.blk (by decide)
          go_wp2_with fail
          refine (HAC.out _).mono ?_
          rintro y w6 ⟨rfl, ht6⟩
          have hsa := (LAct.via HL1.out HTD.out (HI.out.set_act 21 (.bool true) true L.wrong (by simp [lgCells]))).no ht6
          obtain ⟨V6, i6, l6, t6⟩ := hsa
          have HI6 := Lib.hid i6
          have HL6 := Lib.hid l6
          have HT6 := Lib.hid t6
          have HBE6 := Lib.hid ((HBE.out.far (p := ⟨g, 21, none⟩) hge (.bool true)).touch ht6 (fun h => h))
          have HBR6 := Lib.hid ((HBR.out.far (p := ⟨g, 21, none⟩) (HBR.out.ne_ HI.out.out.blk (by decide)) (.bool true)).touch ht6 (fun h => h))
          clear ht6 i6 l6 t6
          go_wp2_with fail
          refine (HCL.out _ V6 HI6.out).mono ?_
          rintro y w7 ⟨rfl, ha7⟩
          have HB7 := Lib.hid (ha7.keep HI6.out HBR6.out (by decide))
          have hbe7 := ha7.keep HI6.out HBE6.out (by decide)
          have z0 := hbe7.cell 0
          have z1 := hbe7.cell 1
          have z2 := hbe7.cell 2
          have zl := hbe7.lt
          simp at z0 z1 z2
          have HA7 := Lib.hid (LAct.via HL6.out HT6.out ha7)
          clear ha7 hbe7 e0 e1 e2 el g21 f21 gl
          go_wp2_with (refine wpList_store_row rfl 37 (.tmp 4) (.tmp 53) rfl gr #[.int .i64 8, .int .i64 xc, .string xd] rfl rfl 37 #[.int .i64 0, .int .i64 0, .string ⟨#[]⟩] HB7.out ev_info rfl (ev_one _ _ _) ?_)
          have hbr : Blk (w7.setRow gr #[.int .i64 8, .int .i64 xc, .string xd]) gr 37 (evAgg ⟨8, xc, xd⟩) := HB7.out.row
          refine bodyPost_ret (v := .tuple #[.agg (evAgg ⟨8, xc, xd⟩), .bool true]) (takeF_results _ _ ⟨8, xc, xd⟩ _ _ rfl rfl hbr) rfl ?_
          rw [HR3.out]
          exact ⟨rfl, HA7.out.row HB7.out (by decide) HZ.out (setRow_touch _ _ _)⟩
        · have HR3 := Lib.hid (HR2.out.trans (if_neg h8))
          cases is with
          | false =>
            clear h8 h9
            go_wp2_with (refine wpList_store_row rfl 37 (.tmp 4) (.tmp 53) rfl gr #[.int .i64 xo, .int .i64 xc, .string xd] rfl rfl 37 #[.int .i64 0, .int .i64 0, .string ⟨#[]⟩] HBR.out ev_info rfl (ev_one _ _ _) ?_)
            have hbr : Blk (wd.setRow gr #[.int .i64 xo, .int .i64 xc, .string xd]) gr 37 (evAgg ⟨xo, xc, xd⟩) := HBR.out.row
            refine bodyPost_ret (v := .tuple #[.agg (evAgg ⟨xo, xc, xd⟩), .bool false]) (takeF_results _ _ ⟨xo, xc, xd⟩ _ _ rfl rfl hbr) rfl ?_
            rw [HR3.out]
            exact ⟨rfl, LAct.row ⟨V1, HI.out, HL1.out, HTD.out⟩ HBR.out (by decide) HZ.out (setRow_touch _ _ _)⟩
          | true =>
            have hx9 : xo ≠ 9 := fun h => h9 ⟨rfl, h⟩
            have hx8 : xo ≠ 8 := fun h => h8 ⟨rfl, h⟩
            clear h8 h9
            go_wp2_with (refine wpList_store_row rfl 37 (.tmp 4) (.tmp 53) rfl gr #[.int .i64 xo, .int .i64 xc, .string xd] rfl rfl 37 #[.int .i64 0, .int .i64 0, .string ⟨#[]⟩] HBR.out ev_info rfl (ev_one _ _ _) ?_)
            have hbr : Blk (wd.setRow gr #[.int .i64 xo, .int .i64 xc, .string xd]) gr 37 (evAgg ⟨xo, xc, xd⟩) := HBR.out.row
            refine bodyPost_ret (v := .tuple #[.agg (evAgg ⟨xo, xc, xd⟩), .bool true]) (takeF_results _ _ ⟨xo, xc, xd⟩ _ _ rfl rfl hbr) rfl ?_
            rw [HR3.out]
            exact ⟨rfl, LAct.row ⟨V1, HI.out, HL1.out, HTD.out⟩ HBR.out (by decide) HZ.out (setRow_touch _ _ _)⟩
    · have q3 : (er != 0) = true := by rw [bne_iff_ne]; exact her
      have HR1 := Lib.hid (HR.out.trans (if_pos her))
      clear her
      go_wp2_with fail
      refine (HFA.out _ V1 HI.out).mono ?_
      rintro y w6 ⟨rfl, ha6⟩
      have HB6 := Lib.hid (ha6.keep HI.out HBR.out (by decide))
      have HA6 := Lib.hid (LAct.via HL1.out HTD.out ha6)
      clear ha6
      go_wp2_with (refine wpList_store_row rfl 37 (.tmp 4) (.tmp 25) rfl gr #[.int .i64 0, .int .i64 0, .string ⟨#[]⟩] rfl rfl 37 #[.int .i64 0, .int .i64 0, .string ⟨#[]⟩] HB6.out ev_info rfl (ev_one _ _ _) ?_)
      have hbr : Blk (w6.setRow gr #[.int .i64 0, .int .i64 0, .string ⟨#[]⟩]) gr 37 (evAgg Ev.zero) := HB6.out.row
      refine bodyPost_ret (v := .tuple #[.agg (evAgg Ev.zero), .bool false]) (takeF_results _ _ Ev.zero _ _ rfl rfl hbr) rfl ?_
      rw [HR1.out]
      exact ⟨rfl, HA6.out.row HB6.out (by decide) HZ.out (setRow_touch _ _ _)⟩
end
end Go.Proofs.YtlnabpoohnphiaaGreat
/- stream: what the frames of bytes are like, and what is left. -/
namespace Go.Proofs.YtlnabpoohnphiaaGreat
open Go.RowKit
set_option linter.unusedSimpArgs false
set_option linter.unusedVariables false

theorem getSize_80 (b : List Int) (size : Nat) (lo hi : Int) (h : (getSize b size lo hi).2.2 = 80) : b.length ≤ size := by
  unfold getSize at h
  split at h
  · cases h
  split at h
  · omega
  · cases h
theorem getLen_80 (b : List Int) (h : (getLen b).2.2 = 80) : b.length ≤ 8 := by
  unfold getLen at h
  split at h
  · rename_i h0; rw [h0]; simp
  split at h
  · have := getSize_80 _ _ _ _ h; omega
  split at h
  · exact getSize_80 _ _ _ _ h
  · cases h
theorem fdata_90 (l : List Int) (fin : Bool) (op : Int) (m : Bool) (K : List Int) (n : Int) (at_ : Nat) (h : (fdata l fin op m K n at_).2.2 = 90) (ha : at_ ≤ l.length) : (l.length : Int) < at_ + n := by
  unfold fdata at h
  split at h
  · rename_i h0; omega
  · cases h
theorem fget_90 (l : List Int) (hb : bytesIn l) (most : Int) (hm : 0 ≤ most) (h : (fget l most).2.2 = 90) : (l.length : Int) ≤ most + 13 := by
  unfold fget at h
  split at h
  · rename_i h0; rw [h0]; simp; omega
  split at h
  · cases h
  unfold flen at h
  simp only at h
  have hd : (l.drop 1).length = l.length - 1 := by simp
  rcases getLen_cases (hb.drop 1) with hG | hG | ⟨n, k, hG, h1, h2, h3, h4, h5⟩
  · have := getLen_80 (l.drop 1) (by rw [hG])
    omega
  · rw [hG] at h
    simp at h
  · rw [hG] at h
    simp only at h
    rw [if_neg (by omega), if_neg (by simp)] at h
    split at h
    · cases h
    rename_i hmo
    unfold fmask at h
    split at h
    · split at h
      · omega
      · have := fdata_90 _ _ _ _ _ _ _ h (by omega)
        omega
    · have := fdata_90 _ _ _ _ _ _ _ h (by omega)
      omega
theorem slook_90 {mk : Bool} {most : Int} {l : List Int} (h : (slook mk most l).2.2 = 90) : (fget l most).2.2 = 90 := by
  unfold slook at h
  split at h
  · cases h
  split at h
  · cases h
  exact h
/-- How many bytes frames have. -/
def slen (l : List Fr) : Nat := (l.map fun f => (fput f).length).sum
theorem slen_take (l : List Fr) (j : Nat) (h : j < l.length) : slen (l.take (j + 1)) = slen (l.take j) + (fput l[j]).length := by
  have e : l.take (j + 1) = l.take j ++ [l[j]] := by simp
  rw [e]
  unfold slen
  rw [List.map_append, List.sum_append]
  simp only [List.map_cons, List.map_nil, List.sum_cons, List.sum_nil, Nat.add_zero]
theorem slen_le (l : List Fr) (j : Nat) : slen (l.take j) ≤ slen l := by
  have h : slen l = slen (l.take j) + slen (l.drop j) := by
    unfold slen
    rw [← List.sum_append, ← List.map_append, List.take_append_drop]
  omega
theorem scan_facts (mk : Bool) (most : Int) (hm : 0 ≤ most) : ∀ (n : Nat) (l : List Int), l.length ≤ n → bytesIn l → l.length ≤ maxLen →
    (∀ f ∈ (scan mk most l).1, f.good ∧ form9 f = true ∧ (f.data.size : Int) ≤ most) ∧
    ((scan mk most l).2.2 = 0 → slen (scan mk most l).1 + (scan mk most l).2.1.length = l.length ∧ ((scan mk most l).2.1.length : Int) ≤ most + 13) ∧
    ((scan mk most l).2.2 ≠ 0 → (scan mk most l).2.1 = []) ∧ slen (scan mk most l).1 ≤ l.length := by
  intro n
  induction n with
  | zero =>
    intro l hl hb _
    obtain rfl : l = [] := List.eq_nil_of_length_eq_zero (by omega)
    exact ⟨fun f hf => (by cases hf), fun _ => ⟨rfl, by show (0 : Int) ≤ most + 13; omega⟩, fun h => absurd rfl h, Nat.le_refl _⟩
  | succ n ih =>
    intro l hl hb hmx
    rw [scan_eq mk most l hb hmx]
    by_cases h : (slook mk most l).2.2 = 0
    · rw [if_pos h]
      have h2 := slook_two hb hmx h
      have hg := (slook_ok h).1
      obtain ⟨f, k, e, hS⟩ : ∃ f k e, slook mk most l = (f, k, e) := ⟨_, _, _, rfl⟩
      rw [hS] at h h2 hg ⊢
      simp only at h h2 hg ⊢
      subst h
      obtain ⟨g1, g2, g3, g4, g5⟩ := fget_ok hb hmx hg.symm
      have hlen : (fput f).length = k := by rw [g5, List.length_take]; omega
      obtain ⟨i1, i2, i3, i4⟩ := ih (l.drop k) (by rw [List.length_drop]; omega) (hb.drop _) (by rw [List.length_drop]; omega)
      rw [List.length_drop] at i2 i4
      have hsl : ∀ t, slen (f :: t) = k + slen t := fun t => by simp [slen, hlen]
      refine ⟨fun x hx => ?_, fun h0 => ?_, i3, by rw [hsl]; omega⟩
      · rcases List.mem_cons.1 hx with rfl | hx
        · exact ⟨g1, g2, g3⟩
        · exact i1 x hx
      · obtain ⟨j1, j2⟩ := i2 h0
        exact ⟨by rw [hsl]; omega, j2⟩
    · rw [if_neg h]
      by_cases h9 : (slook mk most l).2.2 = 90
      · rw [if_pos h9]
        exact ⟨fun f hf => (by cases hf), fun _ => ⟨by simp [slen], fget_90 l hb most hm (slook_90 h9)⟩, fun h => absurd rfl h, Nat.zero_le _⟩
      · rw [if_neg h9]
        exact ⟨fun f hf => (by cases hf), fun h0 => absurd h0 h, fun _ => rfl, Nat.zero_le _⟩

end Go.Proofs.YtlnabpoohnphiaaGreat
/- ref12: Same. -/
namespace Go.Proofs.YtlnabpoohnphiaaGreat
open Go.RowKit
set_option linter.unusedSimpArgs false
set_option linter.unusedVariables false

theorem evCells_length (l : List Ev) : (evCells l).length = l.length * 3 := by
  induction l with
  | nil => rfl
  | cons e l ih => simp [evCells, Ev.cs] at ih ⊢; omega
theorem evCells_append (a b : List Ev) : evCells (a ++ b) = evCells a ++ evCells b := by simp [evCells]
theorem evCells_single (e : Ev) : evCells [e] = e.cs := by simp [evCells]
theorem evCells_one (l : List Ev) : ∀ u ∈ evCells l, u.oneCell' = true := by
  intro u hu
  simp only [evCells, List.mem_flatMap] at hu
  obtain ⟨e, _, hu⟩ := hu
  simp [Ev.cs] at hu
  rcases hu with rfl | rfl | rfl <;> rfl
theorem info_ev : (Tryz.prog.info? 37).map (fun i => (i.zero, i.size, i.bytes)) = some (some (.agg #[.int .i64 0, .int .i64 0, .string ⟨#[]⟩]), 3, 32) := by kernel_rfl
set_option maxHeartbeats 3200000 in
set_option maxRecDepth 100000 in
theorem r12_same (A B : Option Addr) (l m : List Ev) (n n' c c' : Nat) (hn : l.length = n) (hn' : m.length = n') (w : World) (ha : Rd w A (evCells l)) (hb : Rd w B (evCells m)) (hl : n ≤ 1000000) (hl' : n' ≤ 1000000) :
    Calls Tryz.prog 28 #[.slice A n c, .slice B n' c'] w fun e w' => e = .returned (.bool (decide (l = m))) ∧ Touch NoS w w' := by
  by_cases hnn : n = n'
  · subst hnn
    have HA := Lib.hid ha
    have HB := Lib.hid hb
    have HN := Lib.hid hn
    have HN' := Lib.hid hn'
    obtain ⟨R, hR⟩ : ∃ R, R = decide (l = m) := ⟨_, rfl⟩
    have HR := Lib.hid hR
    rw [← hR]
    clear ha hb hn hn' hR
    go_enter Tryz.func28, Tryz.ntmps28
    go_wp2_with fail
    go_loopw [5] (fun i wr => ∃ k : Nat, k ≤ n ∧ i = .int .i64 k ∧ Hid (l.take k = m.take k) ∧ Touch NoS w wr) (fun i _ => n - (intOf i).toNat)
    case atStart => exact ⟨0, by omega, rfl, rfl, Touch.refl _ _⟩
    case round =>
      obtain ⟨k, hk, rfl, he, ht⟩ := hrel
      have HE := Lib.hid he
      have HT := Lib.hid ht
      by_cases hlt : k < n
      · have hk1 : k < l.length := by rw [HN.out]; exact hlt
        have hk2 : k < m.length := by rw [HN'.out]; exact hlt
        obtain ⟨g, off, rfl, hg, a0, a1, a2⟩ := ev_cells (HA.out.touch_no ht) k hk1
        obtain ⟨g', off', rfl, hg', b0, b1, b2⟩ := ev_cells (HB.out.touch_no ht) k hk2
        have hts := take_succ_eq l m k hk1 hk2 he.out
        obtain ⟨f, hf⟩ : ∃ f, f = l[k] := ⟨_, rfl⟩
        obtain ⟨f', hf'⟩ : ∃ f, f = m[k] := ⟨_, rfl⟩
        rw [← hf] at a0 a1 a2 hts
        rw [← hf'] at b0 b1 b2 hts
        obtain ⟨b, hbb⟩ : ∃ b, b = f.same f' := ⟨_, rfl⟩
        have hneq := neq_ev_all f f' b hbb.symm
        have HTS : Hid (l.take (k + 1) = m.take (k + 1) ↔ b = true) := by
          show l.take (k + 1) = m.take (k + 1) ↔ b = true
          rw [hts, hbb, Ev.same_iff]
        obtain ⟨op, code, d⟩ := f
        obtain ⟨op', code', d'⟩ := f'
        clear he ht hk1 hk2 hts hf hf' hbb
        go_wp2_with fail
        go_quiet (fail)
        cases b with
        | true =>
          go_wp2_with fail
          go_roundw
          · exact ⟨k + 1, by omega, by go_num, HTS.out.2 rfl, HT.out.drewN _⟩
          · simp [intOf]; omega
        | false =>
          go_wp2
          go_ret
          refine ⟨?_, HT.out.drewN _⟩
          rw [HR.out, decide_eq_false (fun h => by have := HTS.out.1 (by rw [h]); cases this)]
          rfl
      · have hkn : k = n := by omega
        subst hkn
        clear he ht
        go_wp2
        go_ret
        refine ⟨?_, HT.out⟩
        have h := HE.out.out
        rw [List.take_of_length_le (by rw [HN.out]; exact Nat.le_refl _), List.take_of_length_le (by rw [HN'.out]; exact Nat.le_refl _)] at h
        rw [HR.out, decide_eq_true h]
        rfl
  · have hd : decide (l = m) = false := decide_eq_false (fun h => hnn (by rw [← hn, ← hn', h]))
    have hq : ((n : Int) != n') = true := by rw [bne_iff_ne]; omega
    have hq2 : ¬ (n : Int) = n' := by omega
    rw [hd]
    clear ha hb hn hn' hd
    go_enter Tryz.func28, Tryz.ntmps28
    go_wp2
    go_ret
    exact ⟨rfl, Touch.refl _ _⟩
end Go.Proofs.YtlnabpoohnphiaaGreat
