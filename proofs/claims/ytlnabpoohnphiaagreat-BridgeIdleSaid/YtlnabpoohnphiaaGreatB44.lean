/- ref10: Same, Few, Text. | law17: what the laws read: frames' texts, what went out as a string, its frames. | bridge: sides on which nothing waits; single control frames; plain Lean. | bridge: an end, or a wrong byte, on sides on which nothing waits; plain Lean. | bridge: one control frame, or a wrong byte, on a session on which nothing waits; plain Lean. | bridge: both sides end; plain Lean. | bridge: time goes by, and something comes often enough; plain Lean. -/
import Derived.Test.YtlnabpoohnphiaaGreatB12
import Derived.Test.YtlnabpoohnphiaaGreatB39
import Derived.Test.YtlnabpoohnphiaaGreatB43
import Derived.Test.YtlnabpoohnphiaaGreatB40
import Derived.Test.YtlnabpoohnphiaaGreatB04
import Derived.Test.YtlnabpoohnphiaaGreatB35
import Derived.Test.YtlnabpoohnphiaaGreatB34
/- ref10: Same, Few, Text. -/
namespace Go.Proofs.YtlnabpoohnphiaaGreat
open Go.RowKit
set_option linter.unusedSimpArgs false
set_option linter.unusedVariables false

instance : DecidableEq Fr := fun f g => decidable_of_iff (f.same g = true) (Fr.same_iff f g)
end Go.Proofs.YtlnabpoohnphiaaGreat
/- law17: what the laws read: frames' texts, what went out as a string, its frames. -/
namespace Go.Proofs.YtlnabpoohnphiaaGreat
open Go.RowKit
set_option linter.unusedSimpArgs false
set_option linter.unusedVariables false

theorem text17 (f : Fr) (hf : f.good) (hfm : form9 f = true) (hz : f.data.size ≤ 1000000) (n : Nat) (hn : (fput f).length = n) (hb : bytesIn (fput f)) : ∃ P : ByteArray, P.size = n ∧ sb P = fput f ∧ ∀ W, Calls Tryz.prog 15 #[.agg f.cs] W fun e w' => e = .returned (.string P) ∧ Touch NoS W w' :=
  ⟨Go.strOfNums (fput f), by rw [numsB_size]; exact hn, sb_nums _ hb, fun W => r9_text f hf hfm hz W⟩
/-- What goes out, as a string. -/
theorem str17 (l : List Int) (hb : bytesIn l) (n : Nat) (hn : l.length = n) : ∃ P : ByteArray, P.size = n ∧ sb P = l ∧ ∀ (W : World) (A : Option Addr) (c : Nat), Rd W A (u8s l) → (convert 43 9 (.slice A n c)).run Tryz.prog W = .ok (.string P) W :=
  ⟨Go.strOfNums l, by rw [numsB_size]; exact hn, sb_nums _ hb, fun W A c hr => conv_str W A l n c hn hr⟩
theorem outB_in {w wr : World} {g : Nat} {X : Bx} {K : Bk} {gl gq : Bool → Nat} {n : Nat} {B : Br} (h : At17 w wr g X K gl gq n B) (i : Bool) (x : Int) : bytesIn (outB (B i) x) := by
  unfold outB
  split
  · intro y hy
    cases hy
  · exact fun y hy => (h.ring i).2 y (List.mem_of_mem_take hy)
theorem all17_one {s : ByteArray} {mk : Bool} {f : Fr} (hz : s.size ≤ 1000000) (h : scan mk 200 (sb s) = ([f], [], 0)) (w : World) :
    Calls Tryz.prog 21 #[.string s, .bool mk, .int .i64 200] w fun e w' => ∃ g c, e = .returned (.tuple #[.slice (some ⟨g, 0, none⟩) 1 c, .int .i64 0, .int .i64 0]) ∧ w.heap.size ≤ g ∧ g < w'.heap.size ∧ w'.cell? ⟨g, 1, none⟩ = some (.int .i64 f.op) ∧ w'.cell? ⟨g, 7, none⟩ = some (.string f.data) ∧ Touch NoS w w' := by
  refine (r10_all s hz mk 200 (by decide) w).mono ?_
  rintro e w' ⟨v, rfl, ho, ht⟩
  rw [h] at ho ⊢
  simp only [List.length_cons, List.length_nil] at ho ⊢
  obtain ⟨A, c, rfl, h1, h2, h3, h4, h5⟩ := own_cases ho
  obtain ⟨g, off, rfl, hg, a0, a1, a2, a3, a4, a5, a6, a7⟩ := fr_cells h3 0 (by simp)
  obtain ⟨-, h6, h7, -⟩ := h5 _ rfl
  have h6' : off = 0 := h6
  subst h6'
  exact ⟨g, c, rfl, h7, hg, by simpa using a1, by simpa using a7, ht⟩
theorem all17_none {s : ByteArray} {mk : Bool} (hz : s.size ≤ 1000000) (h : scan mk 200 (sb s) = ([], [], 0)) (w : World) :
    Calls Tryz.prog 21 #[.string s, .bool mk, .int .i64 200] w fun e w' => ∃ A c, e = .returned (.tuple #[.slice A 0 c, .int .i64 0, .int .i64 0]) ∧ Touch NoS w w' := by
  refine (r10_all s hz mk 200 (by decide) w).mono ?_
  rintro e w' ⟨v, rfl, ho, ht⟩
  rw [h] at ho ⊢
  simp only [List.length_nil] at ho ⊢
  obtain ⟨A, c, rfl, -⟩ := own_cases ho
  exact ⟨A, c, rfl, ht⟩
/-- A session; no block of E is its own. -/
structure AtE (E : Nat → Prop) (w wr : World) (g : Nat) (X : Bx) (K : Bk) (gl gq : Bool → Nat) (n : Nat) (B : Br) : Prop where
  old : Touch NoS w wr
  is : IsB E wr g X K gl gq B
  base : ∀ b, b < w.heap.size → E b
  inv : BrI K n (2147483648 * (n : Int)) B
  fits : Kfits K
  msg : K.message ≤ 65536
section
variable {E : Nat → Prop} {w wr w' : World} {g : Nat} {X : Bx} {K : Bk} {gl gq : Bool → Nat} {n m : Nat} {B B' : Br}
theorem At17.e (h : At17 w wr g X K gl gq n B) : AtE (fun b => b < w.heap.size) w wr g X K gl gq n B := ⟨h.old, h.is, fun b hb => hb, h.inv, h.fits, h.msg⟩
theorem AtE.at (h : AtE E w wr g X K gl gq n B) : At17 w wr g X K gl gq n B := ⟨h.old, h.is.less h.base, h.inv, h.fits, h.msg⟩
theorem AtE.no (h : AtE E w wr g X K gl gq n B) (t : Touch NoS wr w') : AtE E w w' g X K gl gq n B := ⟨h.old.trans t, h.is.no t, h.base, h.inv, h.fits, h.msg⟩
/-- What is made anew is not its own. -/
theorem AtE.grow (h : AtE E w wr g X K gl gq n B) (t : Touch NoS wr w') : AtE (fun b => E b ∨ (wr.heap.size ≤ b ∧ b < w'.heap.size)) w w' g X K gl gq n B := ⟨h.old.trans t, h.is.grow t, fun b hb => .inl (h.base b hb), h.inv, h.fits, h.msg⟩
theorem AtE.then (h : AtE E w wr g X K gl gq n B) (s : Sett E wr w' g X K gl gq B') (hi : BrI K m (2147483648 * (m : Int)) B') : AtE E w w' g X K gl gq m B' :=
  ⟨h.old.then_new s.touch (fun i hi => .inl (Nat.le_of_not_lt fun hl => hi (h.base i hl))), s.is, h.base, hi, h.fits, h.msg⟩
theorem AtE.take (h : AtE E w wr g X K gl gq n B) (hn : n ≤ 90000) (i : Bool) (x : Int) : Calls Tryz.prog 18 #[.pointer (some ⟨g, 0, none⟩), .int .i64 i.toNat, .int .i64 x] wr fun e w' => (∃ A c, e = .returned (.slice A (outB (B i) x).length c) ∧ Rd w' A (u8s (outB (B i) x))) ∧ AtE E w w' g X K gl gq n (B.take K i x) ∧ Touch (Non E) wr w' := by
  refine (b_take h.is h.inv h.fits (by omega) i x).mono ?_
  rintro e w' ⟨h1, s⟩
  exact ⟨h1, h.then s (h.inv.take h.fits i x), s.touch⟩
theorem AtE.tick (h : AtE E w wr g X K gl gq n B) (hn : n ≤ 90000) (x : Int) : Calls Tryz.prog 23 #[.pointer (some ⟨g, 0, none⟩), .int .i64 x] wr fun e w' => e = .returned (.tuple #[]) ∧ AtE E w w' g X K gl gq (n + 2) (B.tick K x) ∧ Touch (Non E) wr w' := by
  refine (b_tick h.is h.inv h.fits (by omega) hn x).mono ?_
  rintro e w' ⟨rfl, s⟩
  exact ⟨rfl, h.then s ((h.inv.tick h.fits x).mono (Nat.le_refl _) (by omega)), s.touch⟩
theorem AtE.feed (h : AtE E w wr g X K gl gq n B) (hn : n ≤ 90000) (i : Bool) (l : List Int) (hl : bytesIn l) (hm : l.length ≤ 1000000) (b k c : Nat) (hb : E b) (hk : l.length = k) (hc : k ≤ c) (hr : Rd wr (some ⟨b, 0, none⟩) (u8s l)) :
    Calls Tryz.prog 17 #[.pointer (some ⟨g, 0, none⟩), .int .i64 i.toNat, .slice (some ⟨b, 0, none⟩) k c] wr fun e w' => e = .returned (.int .i64 (B.feed K i l).2) ∧ AtE E w w' g X K gl gq n (B.feed K i l).1 ∧ Touch (Non E) wr w' := by
  refine (b_feed h.is h.inv h.fits (by omega) (by omega) h.msg i l hl (some ⟨b, 0, none⟩) k c hk (by omega) hc hr (fun a ha => by cases ha; exact hb)).mono ?_
  rintro e w' ⟨rfl, s⟩
  exact ⟨rfl, h.then s (BrI.feedN h.fits i (by omega) l B hl h.inv), s.touch⟩
/-- A cell of a block that the session does not own. -/
theorem AtE.cell (h : AtE E w wr g X K gl gq n B) (t : Touch (Non E) wr w') {b o : Nat} (hb : E b) {v : Value} (hc : wr.cell? ⟨b, o, none⟩ = some v) : w'.cell? ⟨b, o, none⟩ = some v :=
  (World.cell?_of_block (t.block b (h.is.lt hb) (fun hn => hn hb))).trans hc
end
theorem room_idle {K : Bk} (h1 : K.message = 1 + 99) (h2 : K.count = ((1 + 3 % 8 : Nat) : Int)) (h3 : K.bytes = ((1 + 99 + 99 : Nat) : Int)) : roomL K [] K.message = true := by
  unfold roomL
  rw [h1, h2, h3]
  decide
theorem scan_none (mk : Bool) (most : Int) : scan mk most [] = ([], [], 0) := by
  have hs : slook mk most [] = (Fr.zero, 0, 90) := rfl
  unfold scan scanF
  rw [hs]
  rfl
end Go.Proofs.YtlnabpoohnphiaaGreat
/- bridge: sides on which nothing waits; single control frames; plain Lean. -/
namespace Go.Proofs.YtlnabpoohnphiaaGreat
open Go.RowKit
set_option linter.unusedSimpArgs false
set_option linter.unusedVariables false

/-- One frame that waits goes into the ring, if it fits. -/
theorem Ou.move_one (M : Nat) (mk : Bool) (d : Int) (f : Fr) (h : (fputz (Ou.fr mk ⟨[], [], [f], [], d⟩ f)).length ≤ M) :
    (⟨[], [], [f], [], d⟩ : Ou).move M mk = ⟨fputz (Ou.fr mk ⟨[], [], [f], [], d⟩ f), [], [], [], Ou.dr mk ⟨[], [], [f], [], d⟩⟩ := by
  obtain ⟨b, hb⟩ : ∃ b, b = fputz (Ou.fr mk ⟨[], [], [f], [], d⟩ f) := ⟨_, rfl⟩
  obtain ⟨e, he⟩ : ∃ e, e = Ou.dr mk ⟨[], [], [f], [], d⟩ := ⟨_, rfl⟩
  rw [← hb] at h ⊢
  rw [← he]
  have hp : (⟨[], [], [f], [], d⟩ : Ou).push M = ⟨[], [], [f], [], d⟩ := by simp [Ou.push]
  have hs : Ou.step mk ⟨[], [], [f], [], d⟩ = some ⟨[], b, [], [], e⟩ := by rw [hb, he]; rfl
  have hp2 : (⟨[], b, [], [], e⟩ : Ou).push M = ⟨b, [], [], [], e⟩ := by
    unfold Ou.push
    simp only [List.length_nil, Nat.sub_zero, List.nil_append]
    rw [List.take_of_length_le h, List.drop_eq_nil_of_le h]
  rw [Ou.move_eq, hp, if_pos rfl, hs]
  simp only
  rw [Ou.move_eq, hp2, if_pos rfl]
  rfl
theorem Ou.move_none (M : Nat) (mk : Bool) (d : Int) : (⟨[], [], [], [], d⟩ : Ou).move M mk = ⟨[], [], [], [], d⟩ := by
  rw [Ou.move_eq]
  have hp : (⟨[], [], [], [], d⟩ : Ou).push M = ⟨[], [], [], [], d⟩ := by simp [Ou.push]
  rw [hp, if_pos rfl]
  rfl
/-- As it goes out. -/
def outF (mk : Bool) (d : Int) (f : Fr) : Fr := if mk then mask1 f (nd d) else f
def outD (mk : Bool) (d : Int) : Int := if mk then nd d else d
theorem outF_ok {mk : Bool} {d : Int} {f : Fr} (h : okC f) : fits mk 200 (outF mk d f) ∧ fputz (outF mk d f) = fput (outF mk d f) ∧ (fput (outF mk d f)).length ≤ 139 ∧ (outF mk d f).op = f.op ∧ (outF mk d f).data = f.data := by
  have hc := fits_C h
  have hz := h.size
  have hm : outF mk d f ∈ mfr mk [f] d := by unfold outF mfr; cases mk <;> simp
  obtain ⟨h1, h2⟩ := mfr_fits (mk := mk) (H := [f]) (fun g hg => by simp at hg; rw [hg]; exact hc) d _ hm
  have hd : (outF mk d f).data = f.data := by unfold outF; cases mk <;> rfl
  have ho : (outF mk d f).op = f.op := by unfold outF; cases mk <;> rfl
  refine ⟨⟨h1.1, h1.2.1, h1.2.2.1, by rw [hd]; omega⟩, h2, ?_, ho, hd⟩
  rw [fput_length]
  have := size9_le (outF mk d f)
  rw [hd] at this
  omega
theorem outF_scan {mk : Bool} {d : Int} {f : Fr} (h : okC f) : scan mk 200 (fput (outF mk d f)) = ([outF mk d f], [], 0) := by
  obtain ⟨h1, -, h3, -⟩ := outF_ok (mk := mk) (d := d) h
  have := scan_puts [outF mk d f] (fun g hg => by simp at hg; rw [hg]; exact h1) (by simp; unfold maxLen; omega)
  simpa using this
section
variable {k : Lk} {M : Nat} {d : Int}
/-- A control frame put to a side on which nothing waits. -/
theorem ctl_idle (L : Lg) (hL : L.o = ⟨[], [], [], [], d⟩) (f : Fr) (hf : okC f) (ho : 139 ≤ k.out) : L.ctl k f = { L with o := ⟨fput (outF k.masks d f), [], [], [], outD k.masks d⟩ } := by
  obtain ⟨-, h2, h3, -⟩ := outF_ok (mk := k.masks) (d := d) hf
  unfold Lg.ctl
  rw [hL]
  have := Ou.move_one k.out k.masks d f (by show (fputz (outF k.masks d f)).length ≤ _; rw [h2]; omega)
  rw [show ({ (⟨[], [], [], [], d⟩ : Ou) with ctl := (⟨[], [], [], [], d⟩ : Ou).ctl ++ [f] } : Ou) = ⟨[], [], [f], [], d⟩ from rfl, this]
  show ({ L with o := ⟨fputz (outF k.masks d f), [], [], [], outD k.masks d⟩ } : Lg) = _
  rw [h2]
theorem pong_idle (ho : 139 ≤ k.out) (x : ByteArray) (hx : x.size ≤ 125) : (Lg.new M d).pong k x = { Lg.new M d with o := ⟨fput (outF k.masks d (ctlF 10 x)), [], [], [], outD k.masks d⟩ } := by
  have := ctl_idle (k := k) (Lg.new M d) rfl (ctlF 10 x) (okC.ctl (.inr (.inr rfl)) hx) ho
  rw [← this]
  rfl
/-- All is taken. -/
theorem take_idle (L : Lg) (b : List Int) (e : Int) (hL : L.o = ⟨b, [], [], [], e⟩) (n : Int) (hn : (b.length : Int) ≤ n) : L.take k n = { L with o := ⟨[], [], [], [], e⟩ } ∧ pk n L.o.ring.length = b.length ∧ L.o.ring.take (pk n L.o.ring.length) = b := by
  have hp : pk n L.o.ring.length = b.length := by rw [hL]; unfold pk; simp only; omega
  refine ⟨?_, hp, by rw [hp, hL, List.take_length]⟩
  unfold Lg.take
  rw [hp, hL]
  show ({ L with o := (⟨b.drop b.length, [], [], [], e⟩ : Ou).move k.out k.masks } : Lg) = _
  rw [List.drop_length, Ou.move_none]
/-- A control frame that comes. -/
theorem feed_one (L : Lg) (hd : L.down = false) (hp : L.part = []) (hse : L.serr = 0) {f : Fr} (hf : fits (!k.masks) (most16 k) f) (hl : (fput f).length ≤ maxLen) : L.feed k (fput f) = ((L.takeF k f).1, if (L.takeF k f).2.2 = true then [(L.takeF k f).2.1] else []) := by
  have hs := scan_puts [f] (fun g hg => by simp at hg; rw [hg]; exact hf) (by simpa using hl)
  simp only [List.flatMap_cons, List.flatMap_nil, List.append_nil] at hs
  have h2 := Lg.feed_by (k := k) (L := L) hd (b := fput f) (fs := [f]) (p := []) (e := 0) (by rw [hp, List.nil_append]; exact hs)
  have hL : L.setp [] 0 = L := by unfold Lg.setp; rw [← hp, ← hse]
  have hff : feedFs k L [f] = ((L.takeF k f).1, (if (L.takeF k f).2.2 = true then [(L.takeF k f).2.1] else []), (L.takeF k f).1.down) := by
    show feedStep k (L, [], false) f = _
    unfold feedStep
    rw [if_neg (by simp)]
    simp
  rw [hL, hff] at h2
  rw [h2]
  simp
theorem feed_pong_idle {f : Fr} (hf : fits (!k.masks) (most16 k) f) (h10 : f.op = 10) (hfin : f.fin = true) (hz : f.data.size ≤ 125) (hk : f.masked = true ∨ f.key = [0, 0, 0, 0]) (hl : (fput f).length ≤ maxLen) : (Lg.new M d).feed k (fput f) = (Lg.new M d, [⟨10, 0, f.data⟩]) := by
  have hm : mtake (Lg.new M d).m f = ((Lg.new M d).m, ⟨10, 0, f.data⟩, true, 0) := by
    have := mt_ctl (c := Mc.new M) (f := f) rfl rfl (.inr h10) hfin hz hk
    rw [h10] at this
    exact this
  rw [feed_one (Lg.new M d) rfl rfl rfl hf hl, takeF_tell hm (show (10 : Int) ≠ 9 by decide) (show (10 : Int) ≠ 8 by decide)]
  rfl
theorem feed_ping_idle {f : Fr} (hf : fits (!k.masks) (most16 k) f) (h9 : f.op = 9) (hfin : f.fin = true) (hz : f.data.size ≤ 125) (hk : f.masked = true ∨ f.key = [0, 0, 0, 0]) (hl : (fput f).length ≤ maxLen) : (Lg.new M d).feed k (fput f) = ((Lg.new M d).pong k f.data, []) := by
  have hm : mtake (Lg.new M d).m f = ((Lg.new M d).m, ⟨9, 0, f.data⟩, true, 0) := by
    have := mt_ctl (c := Mc.new M) (f := f) rfl rfl (.inl h9) hfin hz hk
    rw [h9] at this
    exact this
  rw [feed_one (Lg.new M d) rfl rfl rfl hf hl]
  have ht : (Lg.new M d).takeF k f = ((Lg.new M d).pong k f.data, Ev.zero, false) := by
    unfold Lg.takeF
    rw [hm]
    simp
  rw [ht]
  rfl
end
end Go.Proofs.YtlnabpoohnphiaaGreat
/- bridge: an end, or a wrong byte, on sides on which nothing waits; plain Lean. -/
namespace Go.Proofs.YtlnabpoohnphiaaGreat
open Go.RowKit
set_option linter.unusedSimpArgs false
set_option linter.unusedVariables false

section
variable {k : Lk} {M : Nat} {d : Int}
theorem close_idle (L : Lg) (hL : L.o = ⟨[], [], [], [], d⟩) (hs : L.sent = false) (ho : 139 ≤ k.out) (c : Int) (x : ByteArray) (hc : cput c ⟨#[]⟩ = (x, 0)) :
    L.close k c ⟨#[]⟩ = ({ L with sent := true, o := ⟨fput (outF k.masks d (ctlF 8 x)), [], [], [], outD k.masks d⟩ }, true) := by
  have hx : x.size ≤ 125 := (cput_small hc).1
  unfold Lg.close
  rw [hc, if_neg (by rw [hs]; rintro (h | h); cases h; exact h rfl)]
  have := ctl_idle (k := k) (d := d) ({ L with sent := true, o := { L.o with rest := [] } } : Lg) (by rw [hL]) (ctlF 8 x) (okC.ctl (.inl rfl) hx) ho
  rw [this]
theorem fail_idle (L : Lg) (hL : L.o = ⟨[], [], [], [], d⟩) (hs : L.sent = false) (ho : 139 ≤ k.out) (e : Int) :
    L.fail k e = { L with wrong := e, sent := true, o := ⟨fput (outF k.masks d (ctlF 8 (cput (code11 e) ⟨#[]⟩).1)), [], [], [], outD k.masks d⟩ } := by
  unfold Lg.fail
  rw [close_idle (k := k) (d := d) ({ L with wrong := e } : Lg) hL hs ho (code11 e) _ (valid11_put (code11_valid e)), valid11_put (code11_valid e)]
/-- An end that may be. -/
theorem feed_end_idle (ho : 139 ≤ k.out) {f : Fr} (hf : fits (!k.masks) (most16 k) f) (h8 : f.op = 8) (hg : (cget f.data).2.2 = 0) (hw : (cget f.data).2.1 = ⟨#[]⟩) (hl : (fput f).length ≤ maxLen) :
    ∃ m', (Lg.new M d).feed k (fput f) = ({ Lg.new M d with m := m', got := true, sent := true, o := ⟨fput (outF k.masks d (ctlF 8 f.data)), [], [], [], outD k.masks d⟩ }, [⟨8, (cget f.data).1, ⟨#[]⟩⟩]) := by
  obtain ⟨c', hm⟩ := mt_end (c := Mc.new M) rfl rfl h8 hf.2.1 hg
  have hc := cput_get f.data hg
  rw [hw] at hc
  refine ⟨c', ?_⟩
  rw [feed_one (Lg.new M d) rfl rfl rfl hf hl]
  have ht : (Lg.new M d).takeF k f = (({ Lg.new M d with m := c', got := true, sent := true, o := ⟨fput (outF k.masks d (ctlF 8 f.data)), [], [], [], outD k.masks d⟩ } : Lg), ⟨8, (cget f.data).1, ⟨#[]⟩⟩, true) := by
    unfold Lg.takeF
    have hm2 : mtake (Lg.new M d).m f = (c', ⟨8, (cget f.data).1, (cget f.data).2.1⟩, true, 0) := hm
    rw [hm2, hw]
    simp only [ne_eq, not_true_eq_false, if_false, true_and]
    rw [if_neg (by decide), if_pos trivial]
    rw [close_idle (k := k) (d := d) ({ Lg.new M d with m := c', got := true } : Lg) rfl rfl ho _ _ hc]
  rw [ht]
  rfl
/-- One that may not. -/
theorem feed_end_bad (ho : 139 ≤ k.out) {f : Fr} (hf : fits (!k.masks) (most16 k) f) (h8 : f.op = 8) {e : Int} (hg : (cget f.data).2.2 = e) (he : e ≠ 0) (hl : (fput f).length ≤ maxLen) :
    ∃ m', (Lg.new M d).feed k (fput f) = ({ Lg.new M d with m := m', wrong := e, sent := true, o := ⟨fput (outF k.masks d (ctlF 8 (cput (code11 e) ⟨#[]⟩).1)), [], [], [], outD k.masks d⟩ }, []) := by
  have hc : check9 f ≠ 91 := by
    have hf1 := hf.2.1
    unfold check9
    rw [if_pos hf1]
    split <;> decide
  have hm : mtake (Mc.new M) f = ((Mc.new M).stop e, Ev.zero, false, e) := by
    unfold mtake
    rw [if_neg (fun h => h rfl), if_neg (by rw [show (Mc.new (M : Int)).over = false from rfl]; simp), if_neg hc, if_pos h8]
    unfold mend
    rw [if_neg (by rw [hg]; exact he), hg]
  refine ⟨(Mc.new M).stop e, ?_⟩
  rw [feed_one (Lg.new M d) rfl rfl rfl hf hl]
  have ht : (Lg.new M d).takeF k f = (({ Lg.new M d with m := (Mc.new M).stop e, wrong := e, sent := true, o := ⟨fput (outF k.masks d (ctlF 8 (cput (code11 e) ⟨#[]⟩).1)), [], [], [], outD k.masks d⟩ } : Lg), Ev.zero, false) := by
    unfold Lg.takeF
    have hm2 : mtake (Lg.new M d).m f = ((Mc.new M).stop e, Ev.zero, false, e) := hm
    rw [hm2]
    simp only
    rw [if_pos he, fail_idle (k := k) (d := d) ({ Lg.new M d with m := (Mc.new M).stop e } : Lg) rfl rfl ho e]
  rw [ht]
  rfl
/-- A byte that no frame begins with. -/
theorem scan_bad (mk : Bool) (most : Int) {x : Int} (h : x / 16 % 8 ≠ 0) : scan mk most [x] = ([], [], 91) := by
  have hg : fget [x] most = (Fr.zero, 0, 91) := by
    unfold fget
    rw [if_neg (by simp), if_pos (.inl (by simpa using h))]
  have hs : slook mk most [x] = (Fr.zero, 0, 91) := by
    unfold slook
    rw [if_neg (by rintro ⟨h, _⟩; simp at h), if_neg (by rintro ⟨h, _⟩; simp at h), hg]
  unfold scan scanF
  rw [hs]
  rfl
theorem feed_wrong_idle (ho : 139 ≤ k.out) {x : Int} (h : x / 16 % 8 ≠ 0) :
    (Lg.new M d).feed k [x] = ({ Lg.new M d with serr := 91, wrong := 91, sent := true, o := ⟨fput (outF k.masks d (ctlF 8 (cput (code11 91) ⟨#[]⟩).1)), [], [], [], outD k.masks d⟩ }, []) := by
  have hs := scan_bad (!k.masks) (most16 k) h
  have h2 := Lg.feed_by (k := k) (L := Lg.new M d) rfl (b := [x]) (fs := []) (p := []) (e := 91) hs
  rw [h2]
  have hff : feedFs k ((Lg.new M d).setp [] 91) [] = ((Lg.new M d).setp [] 91, [], false) := rfl
  rw [hff]
  simp only [Bool.false_eq_true, if_false]
  rw [if_pos (by decide), fail_idle (k := k) (d := d) ((Lg.new M d).setp [] 91) rfl rfl ho 91]
  rfl
end
end Go.Proofs.YtlnabpoohnphiaaGreat
/- bridge: one control frame, or a wrong byte, on a session on which nothing waits; plain Lean. -/
namespace Go.Proofs.YtlnabpoohnphiaaGreat
open Go.RowKit
set_option linter.unusedSimpArgs false
set_option linter.unusedVariables false

theorem Br.set_self (B : Br) (i : Bool) (s : Sd) (h : s = B i) : B.set i s = B := by
  subst h
  funext j
  rw [Br.set_at]
  split
  · rename_i h
    rw [h]
  · rfl
theorem other_of {i j : Bool} (h : ¬ j = i) : j = !i := by cases i <;> cases j <;> simp_all
theorem Sd.eta (s : Sd) (L : Lg) (h : L = s.leg) : ({ s with leg := L } : Sd) = s := by subst h; rfl
theorem setp_bare {L : Lg} (hp : L.part = []) (hs : L.serr = 0) : L.setp [] 0 = L := by unfold Lg.setp; rw [← hp, ← hs]
theorem fput_ne (f : Fr) : fput f ≠ [] := by
  intro h
  have := fput_length f
  rw [h] at this
  unfold size9 at this
  simp at this
  omega
section
variable {K : Bk} {B : Br} {i : Bool} {M : Nat} {d : Int}
theorem hear_heardP (hp : (B i).leg.part = []) (hs : (B i).leg.serr = 0) (c : Int) : (B.heardP i []).hear K i c = B.hear K i c := by
  unfold Br.hear Br.hearL Br.heardP
  rw [setp_bare hp hs]
  simp only [Br.set_same, Br.set_set]
theorem feedN_heardP (hp : (B i).leg.part = []) (hs : (B i).leg.serr = 0) (l : List Int) (hl : l ≠ []) (hd : (B i).deaf = false) (hr : roomL K (B i).q K.message = true) : Br.feedN K i l (B.heardP i []) = Br.feedN K i l B := by
  rcases l with _ | ⟨c, l⟩
  · exact absurd rfl hl
  have h1 : (B.heardP i []) i = { B i with heard := 0, asked := false, leg := (B i).leg } := by unfold Br.heardP; rw [setp_bare hp hs]; exact Br.set_same _ _ _
  have hd' : ((B.heardP i []) i).deaf = false := by rw [h1]; exact hd
  have hr' : roomL K ((B.heardP i []) i).q K.message = true := by rw [h1]; exact hr
  unfold Br.feedN
  rw [if_pos ⟨hd', hr'⟩, if_pos ⟨hd, hr⟩, hear_heardP hp hs]
/-- A whole frame is fed. -/
theorem bare_feed (h : Calm B) (hL : (B i).leg = Lg.new M d) {f : Fr} (hf : fits (!(K.k i).masks) (most16 (K.k i)) f) (hl : (fput f).length ≤ maxLen) (hr : roomL K [] K.message = true) : B.feed K i (fput f) = (B.hearL K i (fput f), (fput f).length) := by
  have hp : (B i).leg.part = [] := by rw [hL]; rfl
  have hs : (B i).leg.serr = 0 := by rw [hL]; rfl
  have hd : (B i).leg.down = false := by rw [hL]; rfl
  have hdf : (B i).deaf = false := by unfold Sd.deaf; rw [h.lost, hd]; rfl
  have h1 := feed_frame (K := K) h hd hf hp hl (fput_ne f) hr
  rw [feedN_heardP hp hs _ (fput_ne f) hdf (by rw [h.q]; exact hr)] at h1
  unfold Br.feed
  rw [h1]
  simp only [ite_self]
/-- What the side's leg becomes by a ping. -/
def ponged17 (k : Lk) (M : Nat) (d : Int) (x : ByteArray) : Lg := { Lg.new M d with o := ⟨fput (outF k.masks d (ctlF 10 x)), [], [], [], outD k.masks d⟩ }
theorem ping_hear (h : Calm B) (hL : (B i).leg = Lg.new M d) {f : Fr} (hf : fits (!(K.k i).masks) (most16 (K.k i)) f) (hl : (fput f).length ≤ maxLen) (ho : 139 ≤ (K.k i).out) (h9 : f.op = 9) (hfin : f.fin = true) (hz : f.data.size ≤ 125) (hk : f.masked = true ∨ f.key = [0, 0, 0, 0]) :
    B.hearL K i (fput f) = B.set i { B i with heard := 0, asked := false, leg := ponged17 (K.k i) M d f.data } := by
  unfold Br.hearL
  rw [hL, feed_ping_idle hf h9 hfin hz hk hl, pong_idle ho f.data hz]
  simp only [List.foldl_nil]
  rw [if_neg (by show ¬ ((0 : Int) ≠ 0); simp)]
  exact Calm.settle (h.set i (h.lost i) rfl (h.q i) (h.last i))
theorem pong_hear (h : Calm B) (hL : (B i).leg = Lg.new M d) {f : Fr} (hf : fits (!(K.k i).masks) (most16 (K.k i)) f) (hl : (fput f).length ≤ maxLen) (h10 : f.op = 10) (hfin : f.fin = true) (hz : f.data.size ≤ 125) (hk : f.masked = true ∨ f.key = [0, 0, 0, 0]) :
    B.hearL K i (fput f) = B.set i { B i with heard := 0, asked := false } := by
  unfold Br.hearL
  rw [hL, feed_pong_idle hf h10 hfin hz hk hl]
  simp only [List.foldl_cons, List.foldl_nil]
  have ht : ∀ C : Br, Br.told K i C ⟨10, 0, f.data⟩ = C := fun C => by
    unfold Br.told
    rw [if_neg (by show ¬ ((10 : Int) = 1 ∨ (10 : Int) = 2); decide), if_neg (by show ¬ ((10 : Int) = 8); decide)]
  rw [ht, if_neg (by show ¬ ((0 : Int) ≠ 0); simp)]
  have := Calm.settle (K := K) (h.set i (s := { B i with heard := 0, asked := false, leg := Lg.new M d }) (h.lost i) rfl (h.q i) (h.last i))
  rw [this]
  congr 1
  rw [← hL]
/-- All that is to go out of a side is taken. -/
theorem take_bare (h : Calm B) {L : Lg} (hs : L.sent = false) {b : List Int} {e : Int} (hL : L.o = ⟨b, [], [], [], e⟩) (n : Int) (hn : (b.length : Int) ≤ n) (s : Sd) (hs0 : s.lost = false) (hs1 : s.q = []) (hs2 : s.last = -1) (hs3 : s.leg = L) :
    outB s n = b ∧ (B.set i s).take K i n = B.set i { s with leg := { L with o := ⟨[], [], [], [], e⟩ } } := by
  subst hs3
  obtain ⟨h1, h2, h3⟩ := take_idle (k := K.k i) s.leg b e hL n hn
  refine ⟨?_, ?_⟩
  · unfold outB
    rw [if_neg (by rw [hs0]; simp), h3]
  · unfold Br.take
    rw [Br.set_same, if_neg (by rw [hs0]; simp), h1, Br.set_set]
    exact Calm.settle (h.set i hs0 hs hs1 hs2)
/-- Both sides ended: nothing moves any more. -/
theorem settle_sent (hs : ∀ j, (B j).leg.sent = true) (hq : ∀ j, (B j).q = []) : B.settle K = B := by
  funext j
  have h1 : ∀ j, settle1 (K.k j) (B j).lost (B j).last (B j).leg (B (!j)).q = ((B j).leg, []) := fun j => by
    unfold settle1
    rw [if_pos (.inr (hs j))]
  show ({ B j with leg := (settle1 (K.k j) (B j).lost (B j).last (B j).leg (B (!j)).q).1, q := (settle1 (K.k (!j)) (B (!j)).lost (B (!j)).last (B (!j)).leg (B j).q).2 } : Sd) = B j
  have h2 := h1 (!j)
  rw [Bool.not_not] at h2
  rw [h1 j, h2]
  have := hq j
  rcases hb : B j with ⟨a, b, c, d, e, f, g⟩
  rw [hb] at this
  have h3 : b = [] := this
  rw [h3]
/-- A side whose end goes out. -/
def ended (k : Lk) (L : Lg) (d : Int) (x : ByteArray) : Lg := { L with sent := true, o := ⟨fput (outF k.masks d (ctlF 8 x)), [], [], [], outD k.masks d⟩ }
/-- One side ended: the other one is ended, too. -/
theorem settle_end (si so : Sd) (hi : si.leg.sent = true) (hqi : si.q = []) (hlo : so.lost = false) (hso : so.leg.sent = false) (hqo : so.q = []) (hfr : so.leg.free = true) (c : Int) (hc : so.last = c) (hc0 : 0 ≤ c) (hL : so.leg.o = ⟨[], [], [], [], d⟩) (ho : 139 ≤ (K.k (!i)).out) (x : ByteArray) (hx : cput c ⟨#[]⟩ = (x, 0)) :
    ((B.set i si).set (!i) so).settle K = (B.set i si).set (!i) { so with leg := ended (K.k (!i)) so.leg d x } := by
  have e1 : ((B.set i si).set (!i) so) i = si := by
    rw [Br.set_at, if_neg (by cases i <;> decide), Br.set_same]
  have e2 : ((B.set i si).set (!i) so) (!i) = so := Br.set_same _ _ _
  have s1 : settle1 (K.k i) si.lost si.last si.leg so.q = (si.leg, []) := by unfold settle1; rw [if_pos (.inr hi)]
  have s2 : settle1 (K.k (!i)) so.lost so.last so.leg si.q = (ended (K.k (!i)) so.leg d x, []) := by
    unfold settle1
    rw [if_neg (by rw [hlo, hso]; simp), hqi]
    have : sendAll (K.k (!i)) [] so.leg = (so.leg, []) := rfl
    rw [this, if_pos ⟨by rw [hc]; exact hc0, hfr, rfl⟩, hc, close_idle so.leg hL hso ho c x hx]
    rfl
  have ho2 : ((B.set i si).set (!i) { so with leg := ended (K.k (!i)) so.leg d x }) i = si := by
    rw [Br.set_at, if_neg (by cases i <;> decide), Br.set_same]
  have main : ∀ j : Bool, (((B.set i si).set (!i) so).settle K) j = ((B.set i si).set (!i) { so with leg := ended (K.k (!i)) so.leg d x }) j := by
    intro j
    show ({ ((B.set i si).set (!i) so) j with leg := (settle1 (K.k j) (((B.set i si).set (!i) so) j).lost (((B.set i si).set (!i) so) j).last (((B.set i si).set (!i) so) j).leg (((B.set i si).set (!i) so) (!j)).q).1, q := (settle1 (K.k (!j)) (((B.set i si).set (!i) so) (!j)).lost (((B.set i si).set (!i) so) (!j)).last (((B.set i si).set (!i) so) (!j)).leg (((B.set i si).set (!i) so) j).q).2 } : Sd) = _
    by_cases hj : j = i
    · subst hj
      rw [ho2, e1, e2, s1, s2]
      show ({ si with q := [] } : Sd) = si
      rw [← hqi]
    · have hj2 : j = !i := other_of hj
      subst hj2
      rw [Bool.not_not, e1, e2, s1, s2, Br.set_same]
      show ({ so with leg := ended (K.k (!i)) so.leg d x, q := [] } : Sd) = _
      rw [← hqo]
  exact funext main
end
end Go.Proofs.YtlnabpoohnphiaaGreat
/- bridge: both sides end; plain Lean. -/
namespace Go.Proofs.YtlnabpoohnphiaaGreat
open Go.RowKit
set_option linter.unusedSimpArgs false
set_option linter.unusedVariables false

/-- Both sides ended: the one on which it came, and the other one. -/
structure Both17 (K : Bk) (B' : Br) (i : Bool) (got : Bool) (wrong : Int) (di d2 : Int) (xi xo : ByteArray) : Prop where
  sent : ∀ j, (B' j).leg.sent = true
  lost : ∀ j, (B' j).lost = false
  q : ∀ j, (B' j).q = []
  got : (B' i).leg.got = got
  wrong : (B' i).leg.wrong = wrong
  got2 : (B' (!i)).leg.got = false
  wrong2 : (B' (!i)).leg.wrong = 0
  out : (B' i).leg.o = ⟨fput (outF (K.k i).masks di (ctlF 8 xi)), [], [], [], outD (K.k i).masks di⟩
  out2 : (B' (!i)).leg.o = ⟨fput (outF (K.k (!i)).masks d2 (ctlF 8 xo)), [], [], [], outD (K.k (!i)).masks d2⟩
section
variable {K : Bk} {B B' : Br} {i : Bool} {M : Nat} {di d2 : Int}
theorem set_two (B : Br) (i : Bool) (s t : Sd) : (B.set i s).set (!i) t i = s ∧ (B.set i s).set (!i) t (!i) = t := by
  refine ⟨?_, Br.set_same _ _ _⟩
  rw [Br.set_at, if_neg (by cases i <;> decide), Br.set_same]
theorem all_of {p : Bool → Prop} (i : Bool) (h1 : p i) (h2 : p (!i)) (j : Bool) : p j := by
  cases i <;> cases j
  · exact h1
  · exact h2
  · exact h2
  · exact h1
theorem both_make (h : Calm B) (hL2 : (B (!i)).leg = Lg.new M d2) (Li : Lg) (got : Bool) (wrong : Int) (xi : ByteArray) (h1 : Li.sent = true) (h2 : Li.got = got) (h3 : Li.wrong = wrong) (h4 : Li.o = ⟨fput (outF (K.k i).masks di (ctlF 8 xi)), [], [], [], outD (K.k i).masks di⟩)
    (c : Int) (hc0 : 0 ≤ c) (ho : 139 ≤ (K.k (!i)).out) (xo : ByteArray) (hx : cput c ⟨#[]⟩ = (xo, 0)) :
    Both17 K (((B.set i { B i with heard := 0, asked := false, leg := Li }).set (!i) { B (!i) with last := c }).settle K) i got wrong di d2 xi xo := by
  rw [settle_end (K := K) (B := B) (i := i) (d := d2) { B i with heard := 0, asked := false, leg := Li } { B (!i) with last := c } h1 (h.q i) (h.lost (!i)) (h.sent (!i)) (h.q (!i)) (by show (B (!i)).leg.free = true; rw [hL2]; rfl) c rfl hc0 (by show (B (!i)).leg.o = _; rw [hL2]; rfl) ho xo hx]
  obtain ⟨e1, e2⟩ := set_two B i { B i with heard := 0, asked := false, leg := Li } { ({ B (!i) with last := c } : Sd) with leg := ended (K.k (!i)) (B (!i)).leg d2 xo }
  refine ⟨?_, ?_, ?_, ?_, ?_, ?_, ?_, ?_, ?_⟩
  · exact all_of i (by rw [e1]; exact h1) (by rw [e2]; rfl)
  · exact all_of i (by rw [e1]; exact h.lost i) (by rw [e2]; exact h.lost (!i))
  · exact all_of i (by rw [e1]; exact h.q i) (by rw [e2]; exact h.q (!i))
  · rw [e1]; exact h2
  · rw [e1]; exact h3
  · rw [e2]
    show (B (!i)).leg.got = false
    rw [hL2]
    rfl
  · rw [e2]
    show (B (!i)).leg.wrong = 0
    rw [hL2]
    rfl
  · rw [e1]; exact h4
  · rw [e2]; rfl
theorem other_set (B : Br) (i : Bool) (s : Sd) : (B.set i s) (!i) = B (!i) := Br.set_other B i s
/-- An end that may be comes. -/
theorem end_hear (h : Calm B) (hL : (B i).leg = Lg.new M di) (hL2 : (B (!i)).leg = Lg.new M d2) (ho : ∀ j, 139 ≤ (K.k j).out) {f : Fr} (hf : fits (!(K.k i).masks) (most16 (K.k i)) f) (hl : (fput f).length ≤ maxLen) (h8 : f.op = 8) (hg : (cget f.data).2.2 = 0) (hw : (cget f.data).2.1 = ⟨#[]⟩) :
    Both17 K (B.hearL K i (fput f)) i true 0 di d2 f.data f.data := by
  obtain ⟨m', hfd⟩ := feed_end_idle (k := K.k i) (M := M) (d := di) (ho i) hf h8 hg hw hl
  have hc := cput_get f.data hg
  rw [hw] at hc
  have key : B.hearL K i (fput f) = ((B.set i { B i with heard := 0, asked := false, leg := { Lg.new M di with m := m', got := true, sent := true, o := ⟨fput (outF (K.k i).masks di (ctlF 8 f.data)), [], [], [], outD (K.k i).masks di⟩ } }).set (!i) { B (!i) with last := across11 (cget f.data).1 }).settle K := by
    unfold Br.hearL
    rw [hL, hfd]
    simp only [List.foldl_cons, List.foldl_nil]
    rw [if_neg (by show ¬ ((0 : Int) ≠ 0); simp)]
    unfold Br.told
    rw [if_neg (by show ¬ ((8 : Int) = 1 ∨ (8 : Int) = 2); decide), if_pos (by show (8 : Int) = 8; rfl), other_set]
    unfold Sd.end_
    rw [if_pos (by rw [h.last]; decide)]
  rw [key]
  refine both_make h hL2 _ true 0 f.data rfl rfl rfl rfl _ ?_ (ho _) f.data hc
  unfold across11 valid11
  split
  · exact Int.le_refl _
  split
  · rename_i hv
    have := of_decide_eq_true hv
    omega
  · decide
/-- A byte, or an end, that is wrong. -/
theorem bad_hear (h : Calm B) (hL2 : (B (!i)).leg = Lg.new M d2) (ho : 139 ≤ (K.k (!i)).out) {b : List Int} {L' : Lg} {e : Int} {xi : ByteArray} (hfd : (B i).leg.feed (K.k i) b = (L', [])) (h1 : L'.sent = true) (h2 : L'.got = false) (h3 : L'.wrong = e) (he : e ≠ 0)
    (h4 : L'.o = ⟨fput (outF (K.k i).masks di (ctlF 8 xi)), [], [], [], outD (K.k i).masks di⟩) :
    Both17 K (B.hearL K i b) i false e di d2 xi ⟨#[3, 233]⟩ := by
  have key : B.hearL K i b = ((B.set i { B i with heard := 0, asked := false, leg := L' }).set (!i) { B (!i) with last := 1001 }).settle K := by
    unfold Br.hearL
    rw [hfd]
    simp only [List.foldl_nil]
    rw [if_pos (by rw [h3]; exact he), other_set]
    unfold Sd.end_
    rw [if_pos (by rw [h.last]; decide)]
  rw [key]
  exact both_make h hL2 L' false e xi h1 h2 h3 h4 1001 (by decide) ho _ rfl
/-- What goes out is taken. -/
theorem Both17.take {got : Bool} {wrong : Int} {xi xo : ByteArray} (h : Both17 K B' i got wrong di d2 xi xo) (hx : xi.size ≤ 125) :
    outB (B' i) 300 = fput (outF (K.k i).masks di (ctlF 8 xi)) ∧ (B'.take K i 300) (!i) = B' (!i) ∧ (∀ j, (B'.take K i 300 j).lost = false) ∧ (∀ j, (B'.take K i 300 j).leg.sent = true) ∧ (∀ j, (B'.take K i 300 j).q = []) ∧ (B'.take K i 300 i).leg.got = got ∧ (B'.take K i 300 i).leg.wrong = wrong := by
  have hlen : ((fput (outF (K.k i).masks di (ctlF 8 xi))).length : Int) ≤ 300 := by
    obtain ⟨-, -, h3, -⟩ := outF_ok (mk := (K.k i).masks) (d := di) (okC.ctl (.inl rfl) hx)
    omega
  obtain ⟨h1, h2, h3⟩ := take_idle (k := K.k i) (B' i).leg _ _ h.out 300 hlen
  have hs : ∀ j, ((B'.set i { B' i with leg := { (B' i).leg with o := ⟨[], [], [], [], outD (K.k i).masks di⟩ } }) j).leg.sent = true := fun j => by
    rw [Br.set_at]
    split
    · exact h.sent i
    · exact h.sent j
  have hq : ∀ j, ((B'.set i { B' i with leg := { (B' i).leg with o := ⟨[], [], [], [], outD (K.k i).masks di⟩ } }) j).q = [] := fun j => by
    rw [Br.set_at]
    split
    · exact h.q i
    · exact h.q j
  have ht : B'.take K i 300 = B'.set i { B' i with leg := { (B' i).leg with o := ⟨[], [], [], [], outD (K.k i).masks di⟩ } } := by
    unfold Br.take
    rw [if_neg (by rw [h.lost]; simp), h1]
    exact settle_sent hs hq
  refine ⟨?_, ?_, fun j => ?_, fun j => ?_, fun j => ?_, ?_, ?_⟩
  · unfold outB
    rw [if_neg (by rw [h.lost]; simp), h3]
  · rw [ht, other_set]
  · rw [ht, Br.set_at]
    split
    · exact h.lost i
    · exact h.lost j
  · rw [ht]; exact hs j
  · rw [ht]; exact hq j
  · rw [ht, Br.set_same]; exact h.got
  · rw [ht, Br.set_same]; exact h.wrong
theorem Both17.swap {got : Bool} {wrong : Int} {xi xo : ByteArray} (h : Both17 K B' i got wrong di d2 xi xo) (hx : xi.size ≤ 125) (hxo : xo.size ≤ 125) : outB (B'.take K i 300 (!i)) 300 = fput (outF (K.k (!i)).masks d2 (ctlF 8 xo)) := by
  obtain ⟨-, e2, hl, -⟩ := h.take hx
  have hlen : ((fput (outF (K.k (!i)).masks d2 (ctlF 8 xo))).length : Int) ≤ 300 := by
    obtain ⟨-, -, h3, -⟩ := outF_ok (mk := (K.k (!i)).masks) (d := d2) (okC.ctl (.inl rfl) hxo)
    omega
  obtain ⟨-, -, h3⟩ := take_idle (k := K.k (!i)) (B' (!i)).leg _ _ h.out2 300 hlen
  unfold outB
  rw [e2, if_neg (by rw [h.lost]; simp), h3]
end
end Go.Proofs.YtlnabpoohnphiaaGreat
/- bridge: time goes by, and something comes often enough; plain Lean. -/
namespace Go.Proofs.YtlnabpoohnphiaaGreat
open Go.RowKit
set_option linter.unusedSimpArgs false
set_option linter.unusedVariables false

/-- A session on which nothing is under way; for how long nothing came. -/
def idle17 (M : Nat) (d : Int) (h : Bool → Int) : Br := fun j => ⟨Lg.new M d, [], false, -1, h j, false, 0⟩
theorem idle17_new (M : Nat) (d : Int) : Br.new M d = idle17 M d (fun _ => 0) := rfl
theorem idle17_calm (M : Nat) (d : Int) (h : Bool → Int) : Calm (idle17 M d h) := ⟨fun _ => rfl, fun _ => rfl, fun _ => rfl, fun _ => rfl⟩
section
variable {K : Bk} {M : Nat} {d : Int} {h : Bool → Int}
theorem idle17_set (i : Bool) (x : Int) : (idle17 M d h).set i ⟨Lg.new M d, [], false, -1, x, false, 0⟩ = idle17 M d (fun j => if j = i then x else h j) := by
  funext j
  rw [Br.set_at]
  unfold idle17
  by_cases hj : j = i
  · simp only [if_pos hj]
  · simp only [if_neg hj]
theorem idle17_tick1 (i : Bool) (n : Int) (hn : h i + n ≤ K.idle) : (idle17 M d h).tick1 K i n = idle17 M d (fun j => if j = i then h i + n else h j) := by
  unfold Br.tick1
  rw [if_neg (by show ¬ (false = true); decide), if_neg (by show ¬ (false = true); decide), if_neg (by show ¬ (K.idle < h i + n); omega)]
  exact idle17_set i (h i + n)
theorem idle17_tick (n : Int) (h0 : 0 ≤ n) (h1 : n ≤ 1073741824) (hn : ∀ j, h j + n ≤ K.idle) : (idle17 M d h).tick K n = idle17 M d (fun j => h j + n) := by
  have hc : clampT n = n := by unfold clampT; omega
  have hs : ∀ (g : Bool → Int) (i : Bool), g i + n ≤ K.idle → (idle17 M d g).tickS K i n = idle17 M d (fun j => if j = i then g i + n else g j) := fun g i hg => by
    unfold Br.tickS
    rw [if_neg (by show ¬ (false = true); decide), hc]
    exact idle17_tick1 i n hg
  unfold Br.tick
  rw [hs h false (hn false), hs _ true (by simpa using hn true)]
  have he : (fun j => if j = true then (if true = false then h false + n else h true) + n else if j = false then h false + n else h j) = fun j => h j + n := by
    funext j
    cases j <;> simp
  rw [he]
  exact (idle17_calm M d _).settle
theorem idle17_feed (i : Bool) {f : Fr} (hf : fits (!(K.k i).masks) (most16 (K.k i)) f) (hl : (fput f).length ≤ maxLen) (hr : roomL K [] K.message = true) (h10 : f.op = 10) (hfin : f.fin = true) (hz : f.data.size ≤ 125) (hk : f.masked = true ∨ f.key = [0, 0, 0, 0]) :
    (idle17 M d h).feed K i (fput f) = (idle17 M d (fun j => if j = i then 0 else h j), (fput f).length) := by
  rw [bare_feed (K := K) (M := M) (d := d) (idle17_calm M d h) rfl hf hl hr, pong_hear (K := K) (M := M) (d := d) (idle17_calm M d h) rfl hf hl h10 hfin hz hk]
  exact Prod.ext (idle17_set i 0) rfl
theorem idle17_out (i : Bool) (n : Int) : outB (idle17 M d h i) n = [] := by
  unfold outB
  rw [if_neg (by show ¬ (false = true); decide)]
  show List.take _ [] = []
  exact List.take_nil
theorem idle17_over : (idle17 M d h).over = false := rfl
end
end Go.Proofs.YtlnabpoohnphiaaGreat
