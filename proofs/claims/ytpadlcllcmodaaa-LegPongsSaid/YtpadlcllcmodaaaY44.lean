/- leg: what always holds of a side; plain Lean. -/
import Derived.Test.YtpadlcllcmodaaaY43
/- leg: what always holds of a side; plain Lean. -/
namespace Go.Proofs.Ytpadlcllcmodaaa
open Go.RowKit
set_option linter.unusedSimpArgs false
set_option linter.unusedVariables false

structure Lg.okb (k : Lk) (n : Nat) (L : Lg) : Prop where
  ok : L.ok k
  part : (L.part.length : Int) ≤ most16 k + 13
  most : L.m.most = k.message
  ctl : L.o.ctl.length ≤ n
theorem Lg.okb.mono {k : Lk} {n m : Nat} {L : Lg} (h : L.okb k n) (hm : n ≤ m) : L.okb k m := ⟨h.ok, h.part, h.most, by have := h.ctl; omega⟩
theorem Lg.new_okb (k : Lk) (draw : Int) (n : Nat) : (Lg.new k.message draw).okb k n :=
  ⟨⟨fun x hx => (by cases hx), fun h => absurd rfl h⟩, by show (0 : Int) ≤ _; unfold most16; omega, rfl, Nat.zero_le _⟩
/-- The same stream, the same machine, as much down. -/
structure Lg.like (L L' : Lg) : Prop where
  part : L'.part = L.part
  serr : L'.serr = L.serr
  m : L'.m = L.m
  down : L'.down = L.down
theorem Lg.like.okb {k : Lk} {n m : Nat} {L L' : Lg} (h : L.like L') (hb : L.okb k n) (hc : L'.o.ctl.length ≤ m) : L'.okb k m :=
  ⟨⟨by rw [h.part]; exact hb.ok.bytes, by rw [h.serr, h.down]; exact hb.ok.serr⟩, by rw [h.part]; exact hb.part, by rw [h.m]; exact hb.most, hc⟩
theorem Lg.send_like (k : Lk) (L : Lg) (op : Int) (s : ByteArray) : L.like (L.send k op s).1 := by
  unfold Lg.send
  split
  · exact ⟨rfl, rfl, rfl, rfl⟩
  · exact ⟨rfl, rfl, rfl, rfl⟩
theorem Lg.send_ctl (k : Lk) (L : Lg) (op : Int) (s : ByteArray) : (L.send k op s).1.o.ctl.length ≤ L.o.ctl.length := by
  unfold Lg.send
  split
  · exact Ou.move_ctl _ _ _
  · exact Nat.le_refl _
theorem Lg.ping_like (k : Lk) (L : Lg) (d : ByteArray) : L.like (L.ping k d).1 := by
  unfold Lg.ping
  split
  · exact ⟨rfl, rfl, rfl, rfl⟩
  · exact ⟨rfl, rfl, rfl, rfl⟩
theorem Lg.ping_ctl (k : Lk) (L : Lg) (d : ByteArray) : (L.ping k d).1.o.ctl.length ≤ L.o.ctl.length + 1 := by
  unfold Lg.ping
  split
  · exact Nat.le_succ _
  · exact Lg.ctl_ctl _ _ _
theorem Lg.close_like (k : Lk) (L : Lg) (c : Int) (s : ByteArray) : L.like (L.close k c s).1 := by
  unfold Lg.close
  split
  · exact ⟨rfl, rfl, rfl, rfl⟩
  · exact ⟨rfl, rfl, rfl, rfl⟩
theorem Lg.take_like (k : Lk) (L : Lg) (n : Int) : L.like (L.take k n) := ⟨rfl, rfl, rfl, rfl⟩
theorem Lg.take_ctl (k : Lk) (L : Lg) (n : Int) : (L.take k n).o.ctl.length ≤ L.o.ctl.length := Ou.move_ctl _ _ _
theorem lg_mtake_most (c : Mc) (f : Fr) : (mtake c f).1.most = c.most := by
  have hgo : ∀ c' : Mc, c'.most = c.most → (mgo c' f).1.most = c.most := by
    intro c' hc
    unfold mgo
    repeat' split
    all_goals exact hc
  unfold mtake
  split
  · rfl
  split
  · rfl
  split
  · rfl
  split
  · unfold mend
    split <;> rfl
  split
  · rfl
  · unfold mdata
    split
    · split
      · rfl
      · exact hgo c rfl
    · split
      · exact hgo _ rfl
      · rfl
theorem Lg.pong_like (k : Lk) (L : Lg) (d : ByteArray) : L.like (L.pong k d) := by
  unfold Lg.pong
  split
  · exact ⟨rfl, rfl, rfl, rfl⟩
  · exact ⟨rfl, rfl, rfl, rfl⟩
theorem Lg.close_same (k : Lk) (L : Lg) (c : Int) (s : ByteArray) : (L.close k c s).1.got = L.got ∧ (L.close k c s).1.wrong = L.wrong := by
  unfold Lg.close
  split
  · exact ⟨rfl, rfl⟩
  · exact ⟨rfl, rfl⟩
theorem Lg.fail_down (k : Lk) (L : Lg) (e : Int) (he : e ≠ 0) : (L.fail k e).down = true := by
  have := (Lg.close_same k ({ L with wrong := e } : Lg) (code11 e) ⟨#[]⟩).2
  unfold Lg.fail Lg.down
  rw [this]
  simp [he]
theorem Lg.fail_keeps (k : Lk) (L : Lg) (e : Int) : (L.fail k e).part = L.part ∧ (L.fail k e).serr = L.serr ∧ (L.fail k e).m = L.m := by
  have := Lg.close_like k ({ L with wrong := e } : Lg) (code11 e) ⟨#[]⟩
  exact ⟨this.part, this.serr, this.m⟩
theorem Lg.takeF_keeps (k : Lk) (L : Lg) (f : Fr) : (L.takeF k f).1.part = L.part ∧ (L.takeF k f).1.serr = L.serr ∧ (L.takeF k f).1.m = (mtake L.m f).1 := by
  unfold Lg.takeF
  split
  · exact Lg.fail_keeps k _ _
  split
  · have := Lg.pong_like k ({ L with m := (mtake L.m f).1 } : Lg) (mtake L.m f).2.1.data
    exact ⟨this.part, this.serr, this.m⟩
  split
  · have := Lg.close_like k ({ L with m := (mtake L.m f).1, got := true } : Lg) (across11 (mtake L.m f).2.1.code) ⟨#[]⟩
    exact ⟨this.part, this.serr, this.m⟩
  · exact ⟨rfl, rfl, rfl⟩
theorem feedFold_keeps (k : Lk) : ∀ (fs : List Fr) (s : Lg × List Ev × Bool), (s.2.2 = true → s.1.down = true) →
    (fs.foldl (feedStep k) s).1.part = s.1.part ∧ (fs.foldl (feedStep k) s).1.serr = s.1.serr ∧ (fs.foldl (feedStep k) s).1.m.most = s.1.m.most ∧ (fs.foldl (feedStep k) s).1.o.ctl.length ≤ s.1.o.ctl.length + fs.length ∧ ((fs.foldl (feedStep k) s).2.2 = true → (fs.foldl (feedStep k) s).1.down = true) := by
  intro fs
  induction fs with
  | nil => intro s h; exact ⟨rfl, rfl, rfl, Nat.le_refl _, h⟩
  | cons f fs ih =>
    intro s h
    rw [List.foldl_cons]
    by_cases hs : s.2.2 = true
    · rw [show feedStep k s f = s from by unfold feedStep; rw [if_pos hs]]
      obtain ⟨h1, h2, h3, h4, h5⟩ := ih s h
      exact ⟨h1, h2, h3, by rw [List.length_cons]; omega, h5⟩
    · obtain ⟨h1, h2, h3, h4, h5⟩ := ih (feedStep k s f) (by unfold feedStep; rw [if_neg hs]; exact fun h => h)
      have e : (feedStep k s f).1 = (s.1.takeF k f).1 := by unfold feedStep; rw [if_neg hs]
      rw [e] at h1 h2 h3 h4
      obtain ⟨k1, k2, k3⟩ := Lg.takeF_keeps k s.1 f
      have k4 := Lg.takeF_ctl k s.1 f
      refine ⟨h1.trans k1, h2.trans k2, h3.trans (by rw [k3, lg_mtake_most]), by rw [List.length_cons]; omega, h5⟩
theorem Lg.feed_okb (k : Lk) (n : Nat) (L : Lg) (h : L.okb k n) (b : List Int) (hb : bytesIn b) (hl : L.part.length + b.length ≤ 1000000) : (L.feed k b).1.okb k (n + L.part.length + b.length + 1) := by
  unfold Lg.feed
  by_cases hd : L.down = true
  · rw [if_pos hd]
    exact h.mono (by omega)
  rw [if_neg hd]
  have hin : bytesIn (L.part ++ b) := fun x hx => by
    rcases List.mem_append.1 hx with hx | hx
    · exact h.ok.bytes x hx
    · exact hb x hx
  have hml : (L.part ++ b).length ≤ maxLen := by rw [List.length_append]; unfold maxLen; omega
  obtain ⟨-, sf2, sf3, -⟩ := scan_facts (!k.masks) (most16 k) (by unfold most16; omega) (L.part ++ b).length (L.part ++ b) (Nat.le_refl _) hin hml
  obtain ⟨g1, -, g3⟩ := scan_in (!k.masks) (most16 k) (L.part ++ b).length (L.part ++ b) (Nat.le_refl _) hin hml
  obtain ⟨fs, rest, e1, hsc⟩ : ∃ fs rest e1, scan (!k.masks) (most16 k) (L.part ++ b) = (fs, rest, e1) := ⟨_, _, _, rfl⟩
  have hfd : L.fed k b = { L with part := rest, serr := e1 } := by unfold Lg.fed; rw [hsc]
  rw [hfd]
  rw [hsc] at sf2 sf3 g1 g3 ⊢
  simp only at sf2 sf3 g1 g3 ⊢
  rw [List.length_append] at g3
  obtain ⟨k1, k2, k3, k4, k5⟩ := feedFold_keeps k fs ({ L with part := rest, serr := e1 }, [], false) (fun h => by cases h)
  have hpl : (rest.length : Int) ≤ most16 k + 13 := by
    by_cases he : e1 = 0
    · exact (sf2 he).2
    · rw [sf3 he]
      show (0 : Int) ≤ _
      unfold most16
      omega
  have hc := h.ctl
  change (feedFs k { L with part := rest, serr := e1 } fs).1.part = rest at k1
  change (feedFs k { L with part := rest, serr := e1 } fs).1.serr = e1 at k2
  change (feedFs k { L with part := rest, serr := e1 } fs).1.m.most = L.m.most at k3
  change (feedFs k { L with part := rest, serr := e1 } fs).1.o.ctl.length ≤ L.o.ctl.length + fs.length at k4
  change (feedFs k { L with part := rest, serr := e1 } fs).2.2 = true → (feedFs k { L with part := rest, serr := e1 } fs).1.down = true at k5
  generalize feedFs k { L with part := rest, serr := e1 } fs = r at k1 k2 k3 k4 k5
  by_cases hr : r.2.2 = true
  · rw [if_pos hr]
    exact ⟨⟨by show bytesIn r.1.part; rw [k1]; exact g1, fun _ => k5 hr⟩, by show (r.1.part.length : Int) ≤ _; rw [k1]; exact hpl, by show r.1.m.most = _; rw [k3]; exact h.most, by show r.1.o.ctl.length ≤ _; omega⟩
  rw [if_neg hr]
  by_cases he : e1 = 0
  · rw [if_neg (by rw [he]; simp)]
    exact ⟨⟨by show bytesIn r.1.part; rw [k1]; exact g1, fun h => absurd (k2.trans he) h⟩, by show (r.1.part.length : Int) ≤ _; rw [k1]; exact hpl, by show r.1.m.most = _; rw [k3]; exact h.most, by show r.1.o.ctl.length ≤ _; omega⟩
  · rw [if_pos he]
    obtain ⟨f1, f2, f3⟩ := Lg.fail_keeps k r.1 e1
    have f4 := Lg.fail_ctl k r.1 e1
    exact ⟨⟨by show bytesIn (r.1.fail k e1).part; rw [f1, k1]; exact g1, fun _ => Lg.fail_down k r.1 e1 he⟩, by show ((r.1.fail k e1).part.length : Int) ≤ _; rw [f1, k1]; exact hpl, by show (r.1.fail k e1).m.most = _; rw [f3, k3]; exact h.most, by show (r.1.fail k e1).o.ctl.length ≤ _; omega⟩
end Go.Proofs.Ytpadlcllcmodaaa
