/- leg: fail; the acts of a side in one form. | close: Across. -/
import Derived.Test.YtpadlcllcmodaaaY36
import Derived.Test.YtpadlcllcmodaaaY37
import Derived.Test.YtpadlcllcmodaaaY23
/- leg: fail; the acts of a side in one form. -/
namespace Go.Proofs.Ytpadlcllcmodaaa
open Go.RowKit
set_option linter.unusedSimpArgs false
set_option linter.unusedVariables false

/-- An act of a side: it is L' then, and nothing else changed. -/
def LAct (w w' : World) (g : Nat) (k : Lk) (V : LV) (L' : Lg) : Prop := ∃ V', IsL w' g k L' V' ∧ LLoc w V V' ∧ Touch (LF g k V) w w'
theorem LAct.refl {w w' : World} {g : Nat} {k : Lk} {V : LV} {L : Lg} (h : IsL w g k L V) (t : Touch NoS w w') : LAct w w' g k V L := ⟨V, h.no t, LLoc.refl _ _, t.of_no⟩
theorem LAct.trans {w w1 w2 : World} {g : Nat} {k : Lk} {V : LV} {L1 L2 : Lg} (h : LAct w w1 g k V L1) (h2 : ∀ V1, IsL w1 g k L1 V1 → LAct w1 w2 g k V1 L2) : LAct w w2 g k V L2 := by
  obtain ⟨V1, i1, l1, t1⟩ := h
  obtain ⟨V2, i2, l2, t2⟩ := h2 V1 i1
  refine ⟨V2, i2, l1.trans l2 t1.size, t1.trans' t2 fun i hi hS => ?_⟩
  rcases LF_loc l1 hS with h | h
  · exact h
  · omega
theorem LAct.via {w w1 w2 : World} {g : Nat} {k : Lk} {V V1 : LV} {L2 : Lg} (l1 : LLoc w V V1) (t1 : Touch (LF g k V) w w1) (h2 : LAct w1 w2 g k V1 L2) : LAct w w2 g k V L2 := by
  obtain ⟨V2, i2, l2, t2⟩ := h2
  refine ⟨V2, i2, l1.trans l2 t1.size, t1.trans' t2 fun i hi hS => ?_⟩
  rcases LF_loc l1 hS with h | h
  · exact h
  · omega
theorem LAct.no {w w1 w2 : World} {g : Nat} {k : Lk} {V : LV} {L1 : Lg} (h : LAct w w1 g k V L1) (t : Touch NoS w1 w2) : LAct w w2 g k V L1 := h.trans fun _ h1 => LAct.refl h1 t
theorem LAct.pre {w w1 w2 : World} {g : Nat} {k : Lk} {V : LV} {L1 : Lg} (t : Touch NoS w w1) (h : LAct w1 w2 g k V L1) : LAct w w2 g k V L1 := by
  obtain ⟨V1, i1, l1, t1⟩ := h
  exact ⟨V1, i1, ⟨fun b hb => (l1.s b hb).imp id (Nat.le_trans t.size), fun b hb => (l1.m b hb).imp id (Nat.le_trans t.size), fun b hb => (l1.t b hb).imp id (Nat.le_trans t.size), fun b hb => (l1.c b hb).imp id (Nat.le_trans t.size), fun b hb => (l1.r b hb).imp id (Nat.le_trans t.size)⟩, t.of_no.trans t1⟩
theorem valid11_put {c : Int} (h : valid11 c = true) : cput c ⟨#[]⟩ = (Go.strOfNums [c / 256, c % 256] ++ ⟨#[]⟩, 0) := by
  have hv := valid11_le h
  unfold cput
  rw [if_neg (by rintro ⟨h, _⟩; omega), if_neg (by rw [h]; rintro (h | h); cases h; exact absurd h (by decide)), if_neg (by decide)]
section
variable {w : World} {g : Nat} {k : Lk} {L : Lg} {V : LV}
theorem l_send (h : IsL w g k L V) (op code : Int) (s : ByteArray) (hs : s.size ≤ maxLen) (hk : k.message ≤ 65536) (hf1 : 1 ≤ k.frame) (hf2 : k.frame ≤ 65536) :
    Calls Try.prog 18 #[.pointer (some ⟨g, 0, none⟩), .agg #[.int .i64 op, .int .i64 code, .string s]] w fun e w' => e = .returned (.bool (L.send k op s).2) ∧ LAct w w' g k V (L.send k op s).1 := by
  unfold Lg.send
  by_cases hc : L.free = true ∧ (op = 1 ∨ op = 2) ∧ s.size ≤ k.message
  · rw [if_pos hc]
    refine (l_send_ok h op code s hk hf1 hf2 hc.1 hc.2.1 hc.2.2).mono ?_
    rintro e w' ⟨rfl, ⟨V', h1, h2⟩, h3⟩
    exact ⟨rfl, V', h1, h2, h3⟩
  · rw [if_neg hc]
    refine (l_send_no h op code s hs hk hc).mono ?_
    rintro e w' ⟨rfl, ht⟩
    exact ⟨rfl, LAct.refl h ht⟩
theorem l_ping (h : IsL w g k L V) (d : ByteArray) (hd : d.size ≤ maxLen) (hn : L.o.ctl.length ≤ 1000000) :
    Calls Try.prog 19 #[.pointer (some ⟨g, 0, none⟩), .string d] w fun e w' => e = .returned (.bool (L.ping k d).2) ∧ LAct w w' g k V (L.ping k d).1 := by
  unfold Lg.ping
  by_cases hc : L.sent = true ∨ L.got = true ∨ L.wrong ≠ 0 ∨ 125 < d.size
  · rw [if_pos hc]
    refine (l_ping_no h d hd hc).mono ?_
    rintro e w' ⟨rfl, rfl⟩
    exact ⟨rfl, LAct.refl h (Touch.refl _ _)⟩
  · rw [if_neg hc]
    refine (l_ping_ok h d ?_ ?_ ?_ ?_ hn).mono ?_
    · cases hs : L.sent
      · rfl
      · exact absurd (.inl hs) hc
    · cases hs : L.got
      · rfl
      · exact absurd (.inr (.inl hs)) hc
    · by_cases hs : L.wrong = 0
      · exact hs
      · exact absurd (.inr (.inr (.inl hs))) hc
    · by_cases hs : d.size ≤ 125
      · exact hs
      · exact absurd (.inr (.inr (.inr (by omega)))) hc
    rintro e w' ⟨rfl, ⟨V', h1, h2⟩, h3⟩
    exact ⟨rfl, V', h1, h2, h3⟩
theorem cput_len (code : Int) (s : ByteArray) (hd : s.size ≤ maxLen) : (cput code s).1.size ≤ maxLen := by
  unfold cput
  split
  · unfold maxLen; decide
  split
  · unfold maxLen; decide
  split
  · unfold maxLen; decide
  · rename_i h1 h2 h3
    have : s.size ≤ 123 := by
      by_cases h : s.size ≤ 123
      · exact h
      · exact absurd (.inr (by omega)) h2
    rw [ByteArray.size_append, numsB_size]
    unfold maxLen
    simp
    omega
theorem l_close (h : IsL w g k L V) (code : Int) (s : ByteArray) (hd : s.size ≤ maxLen) (hn : L.o.ctl.length ≤ 1000000) :
    Calls Try.prog 20 #[.pointer (some ⟨g, 0, none⟩), .int .i64 code, .string s] w fun e w' => e = .returned (.bool (L.close k code s).2) ∧ LAct w w' g k V (L.close k code s).1 := by
  unfold Lg.close
  by_cases hc : L.sent = true ∨ (cput code s).2 ≠ 0
  · rw [if_pos hc]
    refine (l_close_no h code s hd hc).mono ?_
    rintro e w' ⟨rfl, ht⟩
    exact ⟨rfl, LAct.refl h ht⟩
  · rw [if_neg hc]
    refine (l_close_ok h code s hd ?_ (cput code s).1 ?_ (cput_len code s hd) hn).mono ?_
    · cases hs : L.sent
      · rfl
      · exact absurd (.inl hs) hc
    · have : (cput code s).2 = 0 := by
        by_cases hs : (cput code s).2 = 0
        · exact hs
        · exact absurd (.inr hs) hc
      rw [← this]
    rintro e w' ⟨rfl, ⟨V', h1, h2⟩, h3⟩
    exact ⟨rfl, V', h1, h2, h3⟩
theorem l_pong (h : IsL w g k L V) (d : ByteArray) (hd : d.size ≤ maxLen) (hn : L.o.ctl.length ≤ 1000000) :
    Calls Try.prog 50 #[.pointer (some ⟨g, 0, none⟩), .string d] w fun e w' => e = .returned (.tuple #[]) ∧ LAct w w' g k V (L.pong k d) := by
  unfold Lg.pong
  by_cases hc : L.sent = true
  · rw [if_pos hc]
    refine (l_pong_no h d hc).mono ?_
    rintro e w' ⟨rfl, rfl⟩
    exact ⟨rfl, LAct.refl h (Touch.refl _ _)⟩
  · rw [if_neg hc]
    have hs : L.sent = false := by
      cases hs : L.sent
      · rfl
      · exact absurd hs hc
    unfold ponged
    by_cases hp : pidx L.o.ctl < L.o.ctl.length
    · rw [if_pos hp]
      refine (l_pong_set h d hd hs hn _ rfl hp).mono ?_
      rintro e w' ⟨rfl, ⟨V', h1, h2⟩, h3⟩
      exact ⟨rfl, V', h1, h2, h3⟩
    · rw [if_neg hp]
      refine (l_pong_new h d hd hs hn hp).mono ?_
      rintro e w' ⟨rfl, ⟨V', h1, h2⟩, h3⟩
      exact ⟨rfl, V', h1, h2, h3⟩
/-- A flag of it set. -/
theorem IsL.set_ (h : IsL w g k L V) (i : Nat) (u : Value) (got' : Bool) (wrong' : Int) (hc : (lgCells k V.vt V.vc V.vr L.o.draw L.sent L.got L.wrong).setIfInBounds i u = lgCells k V.vt V.vc V.vr L.o.draw L.sent got' wrong') :
    IsL (w.setCell ⟨g, i, none⟩ u) g k { L with got := got', wrong := wrong' } V ∧ Touch (At g) w (w.setCell ⟨g, i, none⟩ u) := by
  have tg : Touch (At g) w (w.setCell ⟨g, i, none⟩ u) := (Touch.refl (At g) w).setAt i u
  have hb := h.out.blk.set_ i u
  rw [hc] at hb
  obtain ⟨c1, c2, q1, q2⟩ := h.out.ring.blk
  have hT : ∀ (t : TypeId) (cs : Array Value) (b : Nat), Blk w b t cs → t ≠ 71 → ¬ At g b := fun t cs b hb ht hS => hb.ne_ h.out.blk ht hS
  refine ⟨⟨⟨hb, h.out.ring.touch tg (hT _ _ _ q1 (by decide)) (hT _ _ _ q2 (by decide)), h.out.tail.touch tg fun b hb => ?_, h.out.ctl.touch tg fun b hb => ?_, h.out.rest.touch tg fun b hb => ?_, h.out.bytes, h.out.good, h.out.apart⟩,
    h.ins.touch tg (hT _ _ _ h.ins.1 (by decide)) fun b hb => ?_, h.mac.touch tg (hT _ _ _ h.mac.1 (by decide)) (hT _ _ _ h.mac.2.2 (by decide)) fun b hb => ?_, h.good, h.sm, h.st, h.sr, h.mt, h.mr, h.cr⟩, tg⟩
  · obtain ⟨cs, hc⟩ := h.out.tail.type hb
    exact hT _ _ _ hc (by decide)
  · obtain ⟨cs, hc⟩ := h.out.ctl.type hb
    exact hT _ _ _ hc (by decide)
  · obtain ⟨cs, hc⟩ := h.out.rest.type hb
    exact hT _ _ _ hc (by decide)
  · obtain ⟨cs, hc⟩ := own_type h.ins.2 hb
    exact hT _ _ _ hc (by decide)
  · obtain ⟨cs, hc⟩ := own_type h.mac.2.1 hb
    exact hT _ _ _ hc (by decide)
theorem IsL.set_act (h : IsL w g k L V) (i : Nat) (u : Value) (got' : Bool) (wrong' : Int) (hc : (lgCells k V.vt V.vc V.vr L.o.draw L.sent L.got L.wrong).setIfInBounds i u = lgCells k V.vt V.vc V.vr L.o.draw L.sent got' wrong') :
    LAct w (w.setCell ⟨g, i, none⟩ u) g k V { L with got := got', wrong := wrong' } := by
  obtain ⟨h1, h2⟩ := h.set_ i u got' wrong' hc
  exact ⟨V, h1, LLoc.refl _ _, h2.mono fun b hb => Or.inl hb⟩
def Lg.fail (k : Lk) (L : Lg) (e : Int) : Lg := (({ L with wrong := e } : Lg).close k (code11 e) ⟨#[]⟩).1
set_option maxHeartbeats 6400000 in
set_option maxRecDepth 100000 in
theorem l_fail (h : IsL w g k L V) (e : Int) (hn : L.o.ctl.length ≤ 1000000) :
    Calls Try.prog 33 #[.pointer (some ⟨g, 0, none⟩), .int .i64 e] w fun x w' => x = .returned (.tuple #[]) ∧ LAct w w' g k V (L.fail k e) := by
  have hb := h.out.blk
  have c1 := hb.cell 22
  have f1 := hb.frozen 22
  have glt := hb.lt
  simp [lgCells] at c1
  have hset := h.set_act 22 (.int .i64 e) L.got e (by simp [lgCells])
  have HSET := Lib.hid hset
  have HCO := Lib.hid (fun W => c_code e W)
  have HCL : Hid (∀ (W : World) (V1 : LV), IsL W g k { L with wrong := e } V1 → Calls Try.prog 20 #[.pointer (some ⟨g, 0, none⟩), .int .i64 (code11 e), .string ⟨#[]⟩] W fun x w' => x = .returned (.bool (({ L with wrong := e } : Lg).close k (code11 e) ⟨#[]⟩).2) ∧ LAct W w' g k V1 (L.fail k e)) :=
    fun W V1 h1 => l_close h1 (code11 e) ⟨#[]⟩ (by unfold maxLen; decide) hn
  obtain ⟨LF', hLF⟩ : ∃ x, x = L.fail k e := ⟨_, rfl⟩
  rw [← hLF] at HCL ⊢
  clear hb h hset hLF
  go_enter Try.func33, Try.ntmps33
  go_wp2_with fail
  refine (HCO.out _).mono ?_
  rintro x w1 ⟨rfl, ht⟩
  have hs1 := HSET.out.no ht
  have HS1 := Lib.hid hs1
  obtain ⟨V1, i1, l1, t1⟩ := hs1
  have HI1 := Lib.hid i1
  have HL1 := Lib.hid l1
  have HT1 := Lib.hid t1
  clear ht l1 t1 i1
  go_wp2_with fail
  refine (HCL.out _ V1 HI1.out).mono ?_
  rintro x w2 ⟨rfl, ha⟩
  have HA := Lib.hid (LAct.via HL1.out HT1.out ha)
  clear ha
  go_wp2_with fail
  go_end0
  exact ⟨rfl, HA.out⟩
end
end Go.Proofs.Ytpadlcllcmodaaa
/- close: Across. -/
namespace Go.Proofs.Ytpadlcllcmodaaa
open Go.RowKit
set_option linter.unusedSimpArgs false
set_option linter.unusedVariables false

/-- By which code the other side is ended. -/
def across11 (n : Int) : Int := if n = 1005 then 0 else if valid11 n = true then n else 1011
theorem c_across (n : Int) (w : World) : Calls Try.prog 51 #[.int .i64 n] w fun e w' => e = .returned (.int .i64 (across11 n)) ∧ Touch NoS w w' := by
  have HV := Lib.hid (fun W => c_valid n W)
  by_cases h : n = 1005
  · subst h
    go_enter Try.func51, Try.ntmps51
    go_wp2
    go_ret
    exact ⟨rfl, Touch.refl _ _⟩
  have hq : (n == 1005) = false := by rw [beq_eq_false_iff_ne]; exact h
  cases hv : valid11 n with
  | true =>
    rw [show across11 n = n from by unfold across11; rw [if_neg h, if_pos hv]]
    rw [hv] at HV
    clear hv h
    go_enter Try.func51, Try.ntmps51
    go_wp2_with fail
    refine (HV.out _).mono ?_
    rintro e w1 ⟨rfl, ht⟩
    have HT := Lib.hid ht
    clear ht
    go_wp2
    go_ret
    exact ⟨rfl, HT.out⟩
  | false =>
    rw [show across11 n = 1011 from by unfold across11; rw [if_neg h, if_neg (by rw [hv]; simp)]]
    rw [hv] at HV
    clear hv h
    go_enter Try.func51, Try.ntmps51
    go_wp2_with fail
    refine (HV.out _).mono ?_
    rintro e w1 ⟨rfl, ht⟩
    have HT := Lib.hid ht
    clear ht
    go_wp2
    go_ret
    exact ⟨rfl, HT.out⟩
end Go.Proofs.Ytpadlcllcmodaaa
