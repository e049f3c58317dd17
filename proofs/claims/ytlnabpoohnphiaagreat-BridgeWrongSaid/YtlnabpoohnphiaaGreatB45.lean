/- bridge: pings and pongs, one by one; plain Lean. | bridge: both sides ended, what they say; plain Lean. -/
import Derived.Test.YtlnabpoohnphiaaGreatB44
/- bridge: pings and pongs, one by one; plain Lean. -/
namespace Go.Proofs.YtlnabpoohnphiaaGreat
open Go.RowKit
set_option linter.unusedSimpArgs false
set_option linter.unusedVariables false

/-- A session on which nothing is under way; what its masks are drawn from. -/
def two17 (M : Nat) (d1 d : Int) : Br := fun j => Sd.new M (if j = true then d else d1)
theorem two17_new (M : Nat) (d : Int) : Br.new M d = two17 M d d := by
  funext j
  unfold two17 Br.new
  simp
theorem two17_calm (M : Nat) (d1 d : Int) : Calm (two17 M d1 d) := ⟨fun _ => rfl, fun _ => rfl, fun _ => rfl, fun _ => rfl⟩
theorem two17_leg (M : Nat) (d1 d : Int) : (two17 M d1 d true).leg = Lg.new M d := rfl
theorem two17_set (M : Nat) (d1 d e : Int) : (two17 M d1 d).set true (Sd.new M e) = two17 M d1 e := by
  funext j
  cases j <;> rfl
section
variable {K : Bk} {M : Nat} {d1 d : Int}
theorem ctl_fits {op : Int} (ho : op = 9 ∨ op = 10) {x : ByteArray} (hx : x.size ≤ 100) {k : Lk} (hk : k.masks = true) (hm : 125 ≤ most16 k) : fits (!k.masks) (most16 k) (ctlF op x) ∧ (fput (ctlF op x)).length ≤ 120 ∧ form9 (ctlF op x) = true ∧ (ctlF op x).good ∧ bytesIn (fput (ctlF op x)) := by
  have hc : okC (ctlF op x) := okC.ctl (by rcases ho with h | h <;> simp [h]) (by omega)
  obtain ⟨h1, h2, h3, h4⟩ := fits_C hc
  have hf : fits (!k.masks) (most16 k) (ctlF op x) := ⟨h1, h2, by rw [hk]; rfl, by show (x.size : Int) ≤ _; omega⟩
  refine ⟨hf, ?_, h2, h1, ?_⟩
  · rw [fput_length]
    have := size9_le (ctlF op x)
    have h5 : (ctlF op x).data = x := rfl
    rw [h5] at this
    omega
  · have := fits_in [ctlF op x] (fun g hg => by simp at hg; rw [hg]; exact hf)
    simpa using this
/-- A ping comes, its pong is taken. -/
theorem ping17 (hk : (K.k true).masks = true) (ho : 139 ≤ (K.k true).out) (hr : roomL K [] K.message = true) (x : ByteArray) (hx : x.size ≤ 100) :
    ((two17 M d1 d).feed K true (fput (ctlF 9 x))).2 = (fput (ctlF 9 x)).length ∧ outB (((two17 M d1 d).feed K true (fput (ctlF 9 x))).1 false) 9 = [] ∧ outB (((two17 M d1 d).feed K true (fput (ctlF 9 x))).1 true) 300 = fput (outF true d (ctlF 10 x)) ∧
      ((two17 M d1 d).feed K true (fput (ctlF 9 x))).1.take K true 300 = two17 M d1 (outD true d) := by
  obtain ⟨h1, h2, -⟩ := ctl_fits (op := 9) (.inl rfl) hx hk (by unfold most16; omega)
  have hl : (fput (ctlF 9 x)).length ≤ maxLen := by unfold maxLen; omega
  rw [bare_feed (K := K) (i := true) (M := M) (d := d) (two17_calm M d1 d) rfl h1 hl hr]
  rw [ping_hear (K := K) (i := true) (M := M) (d := d) (two17_calm M d1 d) rfl h1 hl ho rfl rfl (by show x.size ≤ 125; omega) (.inr rfl)]
  obtain ⟨-, -, h3, -⟩ := outF_ok (mk := true) (d := d) (okC.ctl (op := 10) (.inr (.inr rfl)) (show x.size ≤ 125 by omega))
  obtain ⟨t1, t2⟩ := take_bare (K := K) (B := two17 M d1 d) (i := true) (two17_calm M d1 d) (L := ponged17 (K.k true) M d x) rfl (b := fput (outF (K.k true).masks d (ctlF 10 x))) (e := outD (K.k true).masks d) rfl 300 (by rw [hk]; omega) { two17 M d1 d true with heard := 0, asked := false, leg := ponged17 (K.k true) M d x } rfl rfl rfl rfl
  refine ⟨rfl, ?_, ?_, ?_⟩
  · rfl
  · rw [hk] at t1
    show outB (((two17 M d1 d).set true _) true) 300 = _
    rw [Br.set_same]
    exact t1
  · refine t2.trans ?_
    rw [hk]
    exact two17_set M d1 d _
/-- A pong comes: nothing is said. -/
theorem pong17 (hk : (K.k true).masks = true) (hr : roomL K [] K.message = true) (x : ByteArray) (hx : x.size ≤ 100) :
    (two17 M d1 d).feed K true (fput (ctlF 10 x)) = (two17 M d1 d, (fput (ctlF 10 x)).length) := by
  obtain ⟨h1, h2, -⟩ := ctl_fits (op := 10) (.inr rfl) hx hk (by unfold most16; omega)
  have hl : (fput (ctlF 10 x)).length ≤ maxLen := by unfold maxLen; omega
  rw [bare_feed (K := K) (i := true) (M := M) (d := d) (two17_calm M d1 d) rfl h1 hl hr, pong_hear (K := K) (i := true) (M := M) (d := d) (two17_calm M d1 d) rfl h1 hl rfl rfl (by show x.size ≤ 125; omega) (.inr rfl)]
  exact Prod.ext (Br.set_self _ _ _ rfl) rfl
theorem two17_take (j : Bool) (n : Int) : outB (two17 M d1 d j) n = [] ∧ (two17 M d1 d).take K j n = two17 M d1 d := by
  have hn : ∀ e, pk n (Lg.new M e).o.ring.length = 0 := fun e => by
    show pk n 0 = 0
    unfold pk
    omega
  refine ⟨?_, ?_⟩
  · unfold outB
    rw [if_neg (by show ¬ (false = true); decide)]
    exact List.take_nil
  · unfold Br.take
    rw [if_neg (by show ¬ (false = true); decide)]
    have ht : (two17 M d1 d j).leg.take (K.k j) n = (two17 M d1 d j).leg := by
      show (Lg.new M _).take (K.k j) n = Lg.new M _
      unfold Lg.take
      rw [hn]
      show ({ Lg.new M _ with o := (⟨[], [], [], [], _⟩ : Ou).move (K.k j).out (K.k j).masks } : Lg) = _
      rw [Ou.move_none]
      rfl
    rw [ht, Br.set_self _ _ _ rfl]
    exact (two17_calm M d1 d).settle
end
end Go.Proofs.YtlnabpoohnphiaaGreat
/- bridge: both sides ended, what they say; plain Lean. -/
namespace Go.Proofs.YtlnabpoohnphiaaGreat
open Go.RowKit
set_option linter.unusedSimpArgs false
set_option linter.unusedVariables false

section
variable {K : Bk} {B B' : Br} {i : Bool} {M : Nat} {di d2 : Int}
theorem feedN_stop {K : Bk} {i : Bool} {B : Br} (l : List Int) (h : (B i).deaf = true) : Br.feedN K i l B = (B, 0) := by
  rcases l with _ | ⟨c, l⟩
  · rfl
  · unfold Br.feedN
    rw [if_neg (by rw [h]; simp)]
theorem deaf_feed (l : List Int) (h : (B i).deaf = true) : B.feed K i l = (B, l.length) := by
  unfold Br.feed
  rw [feedN_stop l h]
  exact Prod.ext rfl (if_pos h)
theorem take_sent (hs : ∀ j, (B j).leg.sent = true) (hq : ∀ j, (B j).q = []) (hl : ∀ j, (B j).lost = false) (j : Bool) (n : Int) : B.take K j n = B.set j { B j with leg := (B j).leg.take (K.k j) n } := by
  unfold Br.take
  rw [if_neg (by rw [hl]; simp)]
  refine settle_sent (fun m => ?_) (fun m => ?_)
  · rw [Br.set_at]
    split
    · exact hs j
    · exact hs m
  · rw [Br.set_at]
    split
    · exact hq j
    · exact hq m
/-- What is left once all went out. -/
theorem Both17.after {got : Bool} {wrong : Int} {xi xo : ByteArray} (h : Both17 K B' i got wrong di d2 xi xo) (n m : Int) (hd : got = true ∨ wrong ≠ 0) :
    (((B'.take K i n).take K (!i) m) i).deaf = true ∧ ((B'.take K i n).take K (!i) m).over = false := by
  have e1 := take_sent (K := K) h.sent h.q h.lost i n
  have hs2 : ∀ j, (B'.take K i n j).leg.sent = true := fun j => by
    rw [e1, Br.set_at]
    split
    · exact h.sent i
    · exact h.sent j
  have hq2 : ∀ j, (B'.take K i n j).q = [] := fun j => by
    rw [e1, Br.set_at]
    split
    · exact h.q i
    · exact h.q j
  have hl2 : ∀ j, (B'.take K i n j).lost = false := fun j => by
    rw [e1, Br.set_at]
    split
    · exact h.lost i
    · exact h.lost j
  have e2 := take_sent (K := K) hs2 hq2 hl2 (!i) m
  have f1 : ((B'.take K i n).take K (!i) m) i = { B' i with leg := (B' i).leg.take (K.k i) n } := by
    rw [e2, Br.set_at, if_neg (by cases i <;> decide), e1, Br.set_same]
  have f2 : ((B'.take K i n).take K (!i) m) (!i) = { B' (!i) with leg := (B' (!i)).leg.take (K.k (!i)) m } := by
    rw [e2, Br.set_same, e1, other_set]
  refine ⟨?_, ?_⟩
  · rw [f1]
    unfold Sd.deaf
    show ((B' i).lost || ((B' i).leg.got || decide ((B' i).leg.wrong ≠ 0))) = true
    rw [h.got, h.wrong]
    rcases hd with hd | hd
    · rw [hd]
      simp
    · simp [hd]
  · have ho : (((B'.take K i n).take K (!i) m) (!i)).over = false := by
      rw [f2]
      unfold Sd.over
      show ((B' (!i)).lost || ((B' (!i)).leg.sent && ((B' (!i)).leg.got || decide ((B' (!i)).leg.wrong ≠ 0)) && _)) = false
      rw [h.lost, h.got2, h.wrong2]
      simp
    unfold Br.over
    cases i
    · rw [show (!false) = true from rfl] at ho ⊢
      rw [ho, Bool.and_false]
    · rw [show (!true) = false from rfl] at ho ⊢
      rw [ho, Bool.false_and]
/-- A byte that is wrong, and more. -/
theorem wrong_feed (ho : ∀ j, 139 ≤ (K.k j).out) (hr : roomL K [] K.message = true) {x : Int} (h : x / 16 % 8 ≠ 0) (l : List Int) :
    ∃ B', (Br.new M di).feed K i (x :: l) = (B', l.length + 1) ∧ Both17 K B' i false 91 di di ⟨#[3, 234]⟩ ⟨#[3, 233]⟩ := by
  have hc : Calm (Br.new M di) := ⟨fun _ => rfl, fun _ => rfl, fun _ => rfl, fun _ => rfl⟩
  have hfd := feed_wrong_idle (k := K.k i) (M := M) (d := di) (ho i) h
  have hB := bad_hear (K := K) (B := Br.new M di) (i := i) (M := M) (di := di) (d2 := di) hc rfl (ho (!i)) (b := [x]) (xi := ⟨#[3, 234]⟩) hfd rfl rfl rfl (show (91 : Int) ≠ 0 by decide) rfl
  refine ⟨(Br.new M di).hearL K i [x], ?_, hB⟩
  have hdf : ((Br.new M di).hearL K i [x] i).deaf = true := by
    unfold Sd.deaf
    show (_ || (((Br.new M di).hearL K i [x] i).leg.got || decide (((Br.new M di).hearL K i [x] i).leg.wrong ≠ 0))) = true
    rw [hB.wrong]
    simp
  have hn : Br.feedN K i (x :: l) (Br.new M di) = ((Br.new M di).hearL K i [x], 1) := by
    unfold Br.feedN
    rw [if_pos ⟨rfl, hr⟩]
    show ((Br.feedN K i l ((Br.new M di).hearL K i [x])).1, (Br.feedN K i l ((Br.new M di).hearL K i [x])).2 + 1) = _
    rw [feedN_stop l hdf]
  unfold Br.feed
  rw [hn]
  exact Prod.ext rfl (if_pos hdf)
/-- What goes out of both, as frames. -/
theorem Both17.scan1 {mk : Bool} (hmk : (K.k i).masks = mk) {got : Bool} {wrong : Int} {xi xo : ByteArray} (h : Both17 K B' i got wrong di d2 xi xo) (hx : xi.size ≤ 125) :
    scan mk 200 (outB (B' i) 300) = ([outF mk di (ctlF 8 xi)], [], 0) ∧ (outB (B' i) 300).length ≤ 200 := by
  have hc : okC (ctlF 8 xi) := okC.ctl (.inl rfl) hx
  rw [(h.take hx).1, hmk]
  obtain ⟨-, -, h3, -⟩ := outF_ok (mk := mk) (d := di) hc
  exact ⟨outF_scan hc, by omega⟩
theorem Both17.scan2 {mk : Bool} (hmk : (K.k (!i)).masks = mk) {got : Bool} {wrong : Int} {xi xo : ByteArray} (h : Both17 K B' i got wrong di d2 xi xo) (hx : xi.size ≤ 125) (hxo : xo.size ≤ 125) :
    scan mk 200 (outB (B'.take K i 300 (!i)) 300) = ([outF mk d2 (ctlF 8 xo)], [], 0) ∧ (outB (B'.take K i 300 (!i)) 300).length ≤ 200 := by
  have hc : okC (ctlF 8 xo) := okC.ctl (.inl rfl) hxo
  rw [h.swap hx hxo, hmk]
  obtain ⟨-, -, h3, -⟩ := outF_ok (mk := mk) (d := d2) hc
  exact ⟨outF_scan hc, by omega⟩
theorem outF_data (mk : Bool) (d : Int) (f : Fr) : (outF mk d f).op = f.op ∧ (outF mk d f).data = f.data := by unfold outF; cases mk <;> exact ⟨rfl, rfl⟩
end
end Go.Proofs.YtlnabpoohnphiaaGreat
