/- stream: plain laws on frames' bytes. | leg: what is still to go out; how many control frames wait; plain Lean. -/
import Derived.Test.YtpadlcllcmodaaaY20
import Derived.Test.YtpadlcllcmodaaaY19
import Derived.Test.YtpadlcllcmodaaaY07
import Derived.Test.YtpadlcllcmodaaaV01
/- stream: plain laws on frames' bytes. -/
namespace Go.Proofs.Ytpadlcllcmodaaa
open Go.RowKit
set_option linter.unusedSimpArgs false
set_option linter.unusedVariables false

theorem slook_fput (mk : Bool) (most : Int) (f : Fr) (hf : f.good) (hc : form9 f = true) (hmk : f.masked = mk) (hd : (f.data.size : Int) ≤ most) (r : List Int) (hr : bytesIn r) : slook mk most (fput f ++ r) = (f, (fput f).length, 0) := by
  have hg := fget_fput f hf hc r most
  rw [if_neg (by omega)] at hg
  have hlen : 2 ≤ (fput f).length := by rw [fput_length]; exact size9_ge f
  have hb : bytesIn (fput f ++ r) := fun x hx => by
    rcases List.mem_append.1 hx with h | h
    · exact fput_bytes hf hc x h
    · exact hr x h
  unfold slook
  have h1 : ¬ (fget ((fput f ++ r).take 1) most).2.2 = 91 := fun h => by
    have hm := fget_mono (l := (fput f ++ r).take 1) (r := (fput f ++ r).drop 1) (by rw [List.take_append_drop]; exact hb) most (by rw [h]; decide)
    rw [List.take_append_drop, hg] at hm
    rw [← hm] at h
    cases h
  have h2 : decide (128 ≤ (fput f ++ r).getD 1 0) = mk := by
    obtain ⟨x, t, hl, _, hx⟩ := long9_head f
    have he : (fput f ++ r).getD 1 0 = x := by unfold fput; rw [hl]; rfl
    rw [he, ← hmk]
    cases hm : f.masked
    · exact decide_eq_false (fun h => by have := hx.1 h; rw [hm] at this; cases this)
    · exact decide_eq_true (hx.2 hm)
  rw [if_neg (fun h => h1 h.2), if_neg (fun h => h.2 h2), hg]
theorem scan_fput (mk : Bool) (most : Int) (f : Fr) (hf : f.good) (hc : form9 f = true) (hmk : f.masked = mk) (hd : (f.data.size : Int) ≤ most) (r : List Int) (hr : bytesIn r) (hl : (fput f ++ r).length ≤ maxLen) :
    scan mk most (fput f ++ r) = (f :: (scan mk most r).1, (scan mk most r).2) := by
  have hb : bytesIn (fput f ++ r) := fun x hx => by
    rcases List.mem_append.1 hx with h | h
    · exact fput_bytes hf hc x h
    · exact hr x h
  rw [scan_eq mk most _ hb hl, slook_fput mk most f hf hc hmk hd r hr]
  simp only [if_true]
  rw [List.drop_left]
theorem scan_nil (mk : Bool) (most : Int) : scan mk most [] = ([], [], 0) := rfl
theorem scan_split (mk : Bool) (most : Int) (a b c : List Int) (gs : List Fr) (hb : bytesIn (a ++ b ++ c)) (hl : (a ++ b ++ c).length ≤ maxLen) (h : scan mk most (a ++ b ++ c) = (gs, [], 0)) :
    ∃ fs2 part2 gs2, scan mk most (a ++ b) = (fs2, part2, 0) ∧ scan mk most (part2 ++ c) = (gs2, [], 0) ∧ fs2 ++ gs2 = gs := by
  obtain ⟨fs2, part2, e2, h1⟩ : ∃ fs2 part2 e2, scan mk most (a ++ b) = (fs2, part2, e2) := ⟨_, _, _, rfl⟩
  have hs := scan_append mk most (a ++ b).length (a ++ b) c (Nat.le_refl _) hb hl
  rw [h1, h] at hs
  simp only at hs
  by_cases he : e2 = 0
  · subst he
    obtain ⟨g2, p2, e3, h3⟩ : ∃ g2 p2 e3, scan mk most (part2 ++ c) = (g2, p2, e3) := ⟨_, _, _, rfl⟩
    have h4 := hs.1 rfl
    rw [h3] at h4
    simp only at h4
    injection h4 with h5 h6
    injection h6 with h7 h8
    subst h7 h8
    exact ⟨fs2, part2, g2, h1, h3, h5.symm⟩
  · have h4 := hs.2 he
    injection h4 with h5 h6
    injection h6 with h7 h8
    exact absurd h8.symm he

/-- Frames that a stream takes. -/
def fits (mk : Bool) (most : Int) (f : Fr) : Prop := f.good ∧ form9 f = true ∧ f.masked = mk ∧ (f.data.size : Int) ≤ most
theorem fits_in {mk : Bool} {most : Int} : ∀ (l : List Fr), (∀ f ∈ l, fits mk most f) → bytesIn (l.flatMap fput) := by
  intro l
  induction l with
  | nil => intro _ x hx; cases hx
  | cons f l ih =>
    intro h x hx
    simp only [List.flatMap_cons, List.mem_append] at hx
    rcases hx with hx | hx
    · obtain ⟨h1, h2, _⟩ := h f (by simp)
      exact fput_bytes h1 h2 x hx
    · exact ih (fun g hg => h g (by simp [hg])) x hx
theorem scan_puts {mk : Bool} {most : Int} : ∀ (l : List Fr), (∀ f ∈ l, fits mk most f) → (l.flatMap fput).length ≤ maxLen → scan mk most (l.flatMap fput) = (l, [], 0) := by
  intro l
  induction l with
  | nil => intro _ _; rfl
  | cons f l ih =>
    intro h hl
    obtain ⟨h1, h2, h3, h4⟩ := h f (by simp)
    simp only [List.flatMap_cons] at hl ⊢
    rw [scan_fput mk most f h1 h2 h3 h4 _ (fits_in l (fun g hg => h g (by simp [hg]))) hl, ih (fun g hg => h g (by simp [hg])) (by rw [List.length_append] at hl; omega)]
end Go.Proofs.Ytpadlcllcmodaaa
/- leg: what is still to go out; how many control frames wait; plain Lean. -/
namespace Go.Proofs.Ytpadlcllcmodaaa
open Go.RowKit
set_option linter.unusedSimpArgs false
set_option linter.unusedVariables false

/-- Frames as they go out from a draw on. -/
def mfr (mk : Bool) : List Fr → Int → List Fr
  | [], _ => []
  | f :: fs, d => (if mk then mask1 f (nd d) else f) :: mfr mk fs (if mk then nd d else d)
/-- The draw behind so many. -/
def mdr (mk : Bool) : List Fr → Int → Int
  | [], d => d
  | _ :: fs, d => mdr mk fs (if mk then nd d else d)
theorem mfr_append (mk : Bool) : ∀ (a b : List Fr) (d : Int), mfr mk (a ++ b) d = mfr mk a d ++ mfr mk b (mdr mk a d) := by
  intro a
  induction a with
  | nil => intro b d; rfl
  | cons f fs ih =>
    intro b d
    simp only [List.cons_append, mfr, mdr, ih]
def Ou.toGo (mk : Bool) (o : Ou) : List Int := o.ring ++ o.tail ++ (mfr mk (o.ctl ++ o.rest) o.draw).flatMap fputz
theorem Ou.push_toGo (M : Nat) (mk : Bool) (o : Ou) : (o.push M).toGo mk = o.toGo mk := by
  unfold Ou.push Ou.toGo
  simp only [List.append_assoc]
  congr 1
  rw [← List.append_assoc, List.take_append_drop]
theorem Ou.step_toGo {mk : Bool} {o o2 : Ou} (h : o.step mk = some o2) (ht : o.tail = []) : o2.toGo mk = o.toGo mk := by
  obtain ⟨r, t, c, s, d⟩ := o
  simp only at ht
  subst ht
  rcases c with _ | ⟨f, fs⟩
  · rcases s with _ | ⟨f, fs⟩
    · simp [Ou.step] at h
    · simp [Ou.step] at h
      subst h
      simp [Ou.toGo, mfr, Ou.fr, Ou.dr]
  · simp [Ou.step] at h
    subst h
    simp [Ou.toGo, mfr, Ou.fr, Ou.dr]
theorem Ou.moveN_toGo (M : Nat) (mk : Bool) : ∀ (n : Nat) (o : Ou), (o.moveN M mk n).toGo mk = o.toGo mk := by
  intro n
  induction n with
  | zero => intro o; exact Ou.push_toGo M mk o
  | succ n ih =>
    intro o
    unfold Ou.moveN
    split
    · rename_i ht
      rcases h : (o.push M).step mk with _ | o2
      · exact Ou.push_toGo M mk o
      · show (o2.moveN M mk n).toGo mk = _
        rw [ih, Ou.step_toGo h ht, Ou.push_toGo]
    · exact Ou.push_toGo M mk o
theorem Ou.move_toGo (M : Nat) (mk : Bool) (o : Ou) : (o.move M mk).toGo mk = o.toGo mk := Ou.moveN_toGo M mk _ o
theorem Lg.take_toGo (k : Lk) (L : Lg) (n : Int) : L.o.ring.take (pk n L.o.ring.length) ++ (L.take k n).o.toGo k.masks = L.o.toGo k.masks := by
  unfold Lg.take
  rw [Ou.move_toGo]
  unfold Ou.toGo
  simp only [← List.append_assoc, List.take_append_drop]
theorem Lg.quiet_nil {L : Lg} (h : L.quiet = true) : L.o.ring = [] ∧ L.o.tail = [] ∧ L.o.ctl = [] ∧ L.o.rest = [] := by
  unfold Lg.quiet at h
  simp only [Bool.and_eq_true, decide_eq_true_eq] at h
  exact ⟨List.eq_nil_of_length_eq_zero h.1.1.1, List.eq_nil_of_length_eq_zero h.1.1.2, List.eq_nil_of_length_eq_zero h.1.2, List.eq_nil_of_length_eq_zero h.2⟩
theorem Lg.quiet_toGo {L : Lg} {mk : Bool} (h : L.quiet = true) : L.o.toGo mk = [] := by
  obtain ⟨h1, h2, h3, h4⟩ := Lg.quiet_nil h
  unfold Ou.toGo
  rw [h1, h2, h3, h4]
  rfl
/-- Control frames that wait: at most a pong, and an end behind it. -/
structure Lg.tame (L : Lg) : Prop where
  two : L.o.ctl.length ≤ 2
  one : L.sent = false → L.o.ctl.length ≤ 1 ∧ ∀ f ∈ L.o.ctl, f.op = 10
theorem Lg.new_tame (m : Nat) (d : Int) : (Lg.new m d).tame := ⟨by show (0 : Nat) ≤ 2; omega, fun _ => ⟨by show (0 : Nat) ≤ 1; omega, fun f hf => (by cases hf)⟩⟩
theorem Ou.moveN_sub (M : Nat) (mk : Bool) : ∀ (n : Nat) (o : Ou), ∀ f ∈ (o.moveN M mk n).ctl, f ∈ o.ctl := by
  intro n
  induction n with
  | zero => intro o f hf; exact hf
  | succ n ih =>
    intro o f hf
    unfold Ou.moveN at hf
    split at hf
    · rcases h : (o.push M).step mk with _ | o2
      · rw [h] at hf
        exact hf
      · rw [h] at hf
        have h2 := ih o2 f hf
        obtain ⟨r, t, c, s, d⟩ := o
        rcases c with _ | ⟨g, gs⟩
        · rcases s with _ | ⟨g, gs⟩
          · simp [Ou.step, Ou.push] at h
          · simp [Ou.step, Ou.push] at h
            subst h
            exact h2
        · simp [Ou.step, Ou.push] at h
          subst h
          exact List.mem_cons_of_mem _ h2
    · exact hf
theorem Ou.move_sub (M : Nat) (mk : Bool) (o : Ou) : ∀ f ∈ (o.move M mk).ctl, f ∈ o.ctl := Ou.moveN_sub M mk _ o
theorem pidx_pong : ∀ (l : List Fr), (∀ f ∈ l, f.op = 10) → l ≠ [] → pidx l = 0 := by
  intro l h hn
  rcases l with _ | ⟨f, fs⟩
  · exact absurd rfl hn
  · have := h f List.mem_cons_self
    simp [pidx, this]
theorem Lg.tame.pong {L : Lg} (k : Lk) (h : L.tame) (d : ByteArray) : (L.pong k d).tame := by
  unfold Lg.pong
  by_cases hs : L.sent = true
  · rw [if_pos hs]
    exact h
  rw [if_neg hs]
  have hs' : L.sent = false := by cases h : L.sent; rfl; exact absurd h hs
  obtain ⟨h1, h2⟩ := h.one hs'
  have hp : (ponged L.o.ctl d).length ≤ 1 ∧ ∀ f ∈ ponged L.o.ctl d, f.op = 10 := by
    unfold ponged
    by_cases hc : L.o.ctl = []
    · rw [hc]
      exact ⟨by simp [pidx, ctlF], fun f hf => by simp [pidx, ctlF] at hf; rw [hf]⟩
    · rw [pidx_pong _ h2 hc]
      have : 0 < L.o.ctl.length := List.length_pos_iff.2 hc
      rw [if_pos this]
      refine ⟨by simp [setD]; exact h1, fun f hf => ?_⟩
      obtain ⟨j, hj, rfl⟩ := List.getElem_of_mem hf
      simp only [setD, List.getElem_modify]
      have hj2 : j < L.o.ctl.length := by simpa [setD] using hj
      split
      · exact h2 L.o.ctl[j] (List.getElem_mem hj2)
      · exact h2 L.o.ctl[j] (List.getElem_mem hj2)
  have hm := Ou.move_ctl k.out k.masks { L.o with ctl := ponged L.o.ctl d }
  refine ⟨by show ((_ : Ou).move k.out k.masks).ctl.length ≤ 2; exact Nat.le_trans hm (by show (ponged L.o.ctl d).length ≤ 2; omega), fun _ => ⟨Nat.le_trans hm hp.1, fun f hf => hp.2 f (Ou.move_sub _ _ _ f hf)⟩⟩
theorem Lg.tame.close {L : Lg} (k : Lk) (h : L.tame) (c : Int) (s : ByteArray) : (L.close k c s).1.tame := by
  unfold Lg.close
  by_cases hc : L.sent = true ∨ (cput c s).2 ≠ 0
  · rw [if_pos hc]
    exact h
  rw [if_neg hc]
  have hs' : L.sent = false := by
    cases hh : L.sent
    · rfl
    · exact absurd (.inl hh) hc
  obtain ⟨h1, h2⟩ := h.one hs'
  refine ⟨?_, fun h => (by cases h)⟩
  have hm := Ou.move_ctl k.out k.masks { ({ L.o with rest := [] } : Ou) with ctl := L.o.ctl ++ [ctlF 8 (cput c s).1] }
  refine Nat.le_trans hm ?_
  simp
  omega
theorem Lg.tame.fail {L : Lg} (k : Lk) (h : L.tame) (e : Int) : (L.fail k e).tame := Lg.tame.close (L := { L with wrong := e }) k ⟨h.two, h.one⟩ _ _
theorem Lg.tame.takeF {L : Lg} (k : Lk) (h : L.tame) (f : Fr) : (L.takeF k f).1.tame := by
  unfold Lg.takeF
  split
  · exact Lg.tame.fail (L := { L with m := (mtake L.m f).1 }) k ⟨h.two, h.one⟩ _
  split
  · exact Lg.tame.pong (L := { L with m := (mtake L.m f).1 }) k ⟨h.two, h.one⟩ _
  split
  · exact Lg.tame.close (L := { L with m := (mtake L.m f).1, got := true }) k ⟨h.two, h.one⟩ _ _
  · exact ⟨h.two, h.one⟩
theorem feedFold_tame (k : Lk) : ∀ (fs : List Fr) (s : Lg × List Ev × Bool), s.1.tame → (fs.foldl (feedStep k) s).1.tame := by
  intro fs
  induction fs with
  | nil => intro s h; exact h
  | cons f fs ih =>
    intro s h
    rw [List.foldl_cons]
    refine ih _ ?_
    unfold feedStep
    split
    · exact h
    · exact h.takeF k f
theorem Lg.tame.feed {L : Lg} (k : Lk) (h : L.tame) (b : List Int) : (L.feed k b).1.tame := by
  unfold Lg.feed
  have h0 : (L.fed k b).tame := ⟨h.two, h.one⟩
  have hf := feedFold_tame k (scan (!k.masks) (most16 k) (L.part ++ b)).1 (L.fed k b, [], false) h0
  split
  · exact h
  split
  · exact hf
  split
  · exact Lg.tame.fail k hf _
  · exact hf
theorem Lg.tame.take {L : Lg} (k : Lk) (h : L.tame) (n : Int) : (L.take k n).tame :=
  ⟨Nat.le_trans (Ou.move_ctl _ _ _) h.two, fun hs => ⟨Nat.le_trans (Ou.move_ctl _ _ _) (h.one hs).1, fun f hf => (h.one hs).2 f (Ou.move_sub k.out k.masks { L.o with ring := L.o.ring.drop (pk n L.o.ring.length) } f hf)⟩⟩
theorem Lg.tame.send {L : Lg} (k : Lk) (h : L.tame) (op : Int) (s : ByteArray) : (L.send k op s).1.tame := by
  unfold Lg.send
  split
  · exact ⟨Nat.le_trans (Ou.move_ctl _ _ _) h.two, fun hs => ⟨Nat.le_trans (Ou.move_ctl _ _ _) (h.one hs).1, fun f hf => (h.one hs).2 f (Ou.move_sub k.out k.masks { L.o with rest := cuts k op s } f hf)⟩⟩
  · exact h
/-- What always holds of a side that asks for no pongs. -/
structure Lg.fine (k : Lk) (L : Lg) : Prop where
  ok : L.ok k
  part : (L.part.length : Int) ≤ most16 k + 13
  most : L.m.most = k.message
  tame : L.tame
theorem Lg.new_fine (k : Lk) (d : Int) : (Lg.new k.message d).fine k := ⟨(Lg.new_okb k d 0).ok, (Lg.new_okb k d 0).part, rfl, Lg.new_tame _ _⟩
theorem Lg.fine.feed {k : Lk} {L : Lg} (h : L.fine k) (b : List Int) (hb : bytesIn b) (hl : L.part.length + b.length ≤ 1000000) : (L.feed k b).1.fine k := by
  have := Lg.feed_okb k 2 L ⟨h.ok, h.part, h.most, h.tame.two⟩ b hb hl
  exact ⟨this.ok, this.part, this.most, h.tame.feed k b⟩
theorem Lg.fine.take {k : Lk} {L : Lg} (h : L.fine k) (n : Int) : (L.take k n).fine k := ⟨⟨h.ok.bytes, h.ok.serr⟩, h.part, h.most, h.tame.take k n⟩
theorem Lg.fine.send {k : Lk} {L : Lg} (h : L.fine k) (op : Int) (s : ByteArray) : (L.send k op s).1.fine k := by
  have := (Lg.send_like k L op s).okb (n := 2) (m := 2) ⟨h.ok, h.part, h.most, h.tame.two⟩ (h.tame.send k op s).two
  exact ⟨this.ok, this.part, this.most, h.tame.send k op s⟩
theorem Lg.fine.close {k : Lk} {L : Lg} (h : L.fine k) (c : Int) (s : ByteArray) : (L.close k c s).1.fine k := by
  have := (Lg.close_like k L c s).okb (n := 2) (m := 2) ⟨h.ok, h.part, h.most, h.tame.two⟩ (h.tame.close k c s).two
  exact ⟨this.ok, this.part, this.most, h.tame.close k c s⟩
end Go.Proofs.Ytpadlcllcmodaaa
