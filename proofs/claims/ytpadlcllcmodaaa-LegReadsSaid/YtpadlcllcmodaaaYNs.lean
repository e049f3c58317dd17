/- leg: bytes in pieces, or all at once; plain Lean. -/
import Derived.Test.YtpadlcllcmodaaaY44
namespace Go.Proofs.Ytpadlcllcmodaaa
open Go.RowKit
set_option linter.unusedSimpArgs false
set_option linter.unusedVariables false

/-- With another stream. -/
def Lg.setp (L : Lg) (p : List Int) (e : Int) : Lg := { L with part := p, serr := e }
theorem Lg.setp_setp (L : Lg) (p q : List Int) (e f : Int) : (L.setp p e).setp q f = L.setp q f := rfl
theorem Lg.setp_self (L : Lg) : L.setp L.part L.serr = L := rfl
theorem Lg.close_setp (k : Lk) (L : Lg) (p : List Int) (e : Int) (c : Int) (s : ByteArray) : (L.setp p e).close k c s = ((L.close k c s).1.setp p e, (L.close k c s).2) := by
  unfold Lg.close
  by_cases h : L.sent = true ∨ (cput c s).2 ≠ 0
  · rw [if_pos h, if_pos (show (L.setp p e).sent = true ∨ (cput c s).2 ≠ 0 from h)]
  · rw [if_neg h, if_neg (show ¬ ((L.setp p e).sent = true ∨ (cput c s).2 ≠ 0) from h)]
    rfl
theorem Lg.fail_setp (k : Lk) (L : Lg) (p : List Int) (e : Int) (x : Int) : (L.setp p e).fail k x = (L.fail k x).setp p e := by
  unfold Lg.fail
  have := Lg.close_setp k ({ L with wrong := x } : Lg) p e (code11 x) ⟨#[]⟩
  exact congrArg Prod.fst this
theorem Lg.pong_setp (k : Lk) (L : Lg) (p : List Int) (e : Int) (d : ByteArray) : (L.setp p e).pong k d = (L.pong k d).setp p e := by
  unfold Lg.pong
  by_cases h : L.sent = true
  · rw [if_pos h, if_pos (show (L.setp p e).sent = true from h)]
  · rw [if_neg h, if_neg (show ¬ (L.setp p e).sent = true from h)]
    rfl
theorem Lg.takeF_setp (k : Lk) (L : Lg) (p : List Int) (e : Int) (f : Fr) : (L.setp p e).takeF k f = ((L.takeF k f).1.setp p e, (L.takeF k f).2) := by
  unfold Lg.takeF
  rw [show mtake (L.setp p e).m f = mtake L.m f from rfl]
  by_cases h1 : (mtake L.m f).2.2.2 ≠ 0
  · rw [if_pos h1, if_pos h1]
    have := Lg.fail_setp k ({ L with m := (mtake L.m f).1 } : Lg) p e (mtake L.m f).2.2.2
    exact Prod.ext this rfl
  rw [if_neg h1, if_neg h1]
  by_cases h2 : (mtake L.m f).2.2.1 = true ∧ (mtake L.m f).2.1.op = 9
  · rw [if_pos h2, if_pos h2]
    have := Lg.pong_setp k ({ L with m := (mtake L.m f).1 } : Lg) p e (mtake L.m f).2.1.data
    exact Prod.ext this rfl
  rw [if_neg h2, if_neg h2]
  by_cases h3 : (mtake L.m f).2.2.1 = true ∧ (mtake L.m f).2.1.op = 8
  · rw [if_pos h3, if_pos h3]
    have := Lg.close_setp k ({ L with m := (mtake L.m f).1, got := true } : Lg) p e (across11 (mtake L.m f).2.1.code) ⟨#[]⟩
    have h := congrArg Prod.fst this
    exact Prod.ext h rfl
  rw [if_neg h3, if_neg h3]
  rfl
theorem feedStep_setp (k : Lk) (s : Lg × List Ev × Bool) (p : List Int) (e : Int) (f : Fr) : feedStep k (s.1.setp p e, s.2) f = ((feedStep k s f).1.setp p e, (feedStep k s f).2) := by
  unfold feedStep
  by_cases h : s.2.2 = true
  · rw [if_pos h, if_pos h]
  · rw [if_neg h, if_neg h]
    simp only [Lg.takeF_setp]
    rfl
theorem feedFold_setp (k : Lk) (p : List Int) (e : Int) : ∀ (fs : List Fr) (s : Lg × List Ev × Bool), fs.foldl (feedStep k) (s.1.setp p e, s.2) = ((fs.foldl (feedStep k) s).1.setp p e, (fs.foldl (feedStep k) s).2) := by
  intro fs
  induction fs with
  | nil => intro s; rfl
  | cons f fs ih =>
    intro s
    rw [List.foldl_cons, List.foldl_cons, feedStep_setp]
    exact ih _
theorem feedFold_out (k : Lk) : ∀ (fs : List Fr) (L : Lg) (out : List Ev) (b : Bool), fs.foldl (feedStep k) (L, out, b) = ((fs.foldl (feedStep k) (L, [], b)).1, out ++ (fs.foldl (feedStep k) (L, [], b)).2.1, (fs.foldl (feedStep k) (L, [], b)).2.2) := by
  intro fs
  induction fs with
  | nil => intro L out b; simp
  | cons f fs ih =>
    intro L out b
    rw [List.foldl_cons, List.foldl_cons]
    cases b with
    | true =>
      rw [show feedStep k (L, out, true) f = (L, out, true) from by unfold feedStep; rw [if_pos rfl], show feedStep k (L, [], true) f = (L, [], true) from by unfold feedStep; rw [if_pos rfl]]
      exact ih L out true
    | false =>
      rw [show feedStep k (L, out, false) f = ((L.takeF k f).1, (if (L.takeF k f).2.2 = true then out ++ [(L.takeF k f).2.1] else out), (L.takeF k f).1.down) from by unfold feedStep; rw [if_neg (by simp)],
        show feedStep k (L, [], false) f = ((L.takeF k f).1, (if (L.takeF k f).2.2 = true then [] ++ [(L.takeF k f).2.1] else []), (L.takeF k f).1.down) from by unfold feedStep; rw [if_neg (by simp)]]
      rw [ih, ih (L.takeF k f).1 (if (L.takeF k f).2.2 = true then [] ++ [(L.takeF k f).2.1] else [])]
      cases (L.takeF k f).2.2 with
      | true => simp
      | false => simp
/-- Equal but for what the stream keeps. -/
def Lg.alike (L L' : Lg) : Prop := ∃ p e, L' = L.setp p e
theorem Lg.feed_down {k : Lk} {L : Lg} (h : L.down = true) (b : List Int) : L.feed k b = (L, []) := by unfold Lg.feed; rw [if_pos h]
/-- What feeding comes to, the frames being known. -/
theorem Lg.feed_by {k : Lk} {L : Lg} (h : L.down = false) {b : List Int} {fs : List Fr} {p : List Int} {e : Int} (hs : scan (!k.masks) (most16 k) (L.part ++ b) = (fs, p, e)) :
    L.feed k b = (if (feedFs k (L.setp p e) fs).2.2 = true then ((feedFs k (L.setp p e) fs).1, (feedFs k (L.setp p e) fs).2.1) else if e ≠ 0 then ((feedFs k (L.setp p e) fs).1.fail k e, (feedFs k (L.setp p e) fs).2.1) else ((feedFs k (L.setp p e) fs).1, (feedFs k (L.setp p e) fs).2.1)) := by
  have hfd : L.fed k b = L.setp p e := by unfold Lg.fed Lg.setp; rw [hs]
  unfold Lg.feed
  rw [if_neg (by rw [h]; simp), hfd, hs]
theorem feedFs_setp (k : Lk) (L : Lg) (p : List Int) (e : Int) (fs : List Fr) : feedFs k (L.setp p e) fs = ((feedFs k L fs).1.setp p e, (feedFs k L fs).2) := feedFold_setp k p e fs (L, [], false)
theorem feedFs_flag (k : Lk) (L : Lg) (hd : L.down = false) (fs : List Fr) : (feedFs k L fs).2.2 = (feedFs k L fs).1.down := by
  have key : ∀ (fs : List Fr) (s : Lg × List Ev × Bool), s.2.2 = s.1.down → (fs.foldl (feedStep k) s).2.2 = (fs.foldl (feedStep k) s).1.down := by
    intro fs
    induction fs with
    | nil => intro s h; exact h
    | cons f fs ih =>
      intro s h
      rw [List.foldl_cons]
      refine ih _ ?_
      unfold feedStep
      split
      · exact h
      · rfl
  exact key fs (L, [], false) hd.symm
/-- In pieces, or at once. -/
theorem Lg.feed_two (k : Lk) (L : Lg) (hok : L.ok k) (a b : List Int) (ha : bytesIn a) (hb : bytesIn b) (hl : L.part.length + a.length + b.length ≤ 1000000) :
    ((L.feed k a).1.feed k b).1.alike (L.feed k (a ++ b)).1 ∧ (L.feed k a).2 ++ ((L.feed k a).1.feed k b).2 = (L.feed k (a ++ b)).2 := by
  cases hd : L.down with
  | true =>
    rw [Lg.feed_down hd, Lg.feed_down hd]
    simp only
    rw [Lg.feed_down hd]
    exact ⟨⟨L.part, L.serr, rfl⟩, rfl⟩
  | false =>
    have hin : bytesIn ((L.part ++ a) ++ b) := fun x hx => by
      rcases List.mem_append.1 hx with hx | hx
      · rcases List.mem_append.1 hx with hx | hx
        · exact hok.bytes x hx
        · exact ha x hx
      · exact hb x hx
    have hml : ((L.part ++ a) ++ b).length ≤ maxLen := by simp only [List.length_append]; unfold maxLen; omega
    obtain ⟨fs, p, e, hs⟩ : ∃ fs p e, scan (!k.masks) (most16 k) (L.part ++ a) = (fs, p, e) := ⟨_, _, _, rfl⟩
    have hap := scan_append (!k.masks) (most16 k) (L.part ++ a).length (L.part ++ a) b (Nat.le_refl _) hin hml
    rw [hs] at hap
    simp only at hap
    have hA := Lg.feed_by hd hs
    have hfl := feedFs_flag k L hd fs
    rw [feedFs_setp] at hA
    simp only at hA
    obtain ⟨r, hr⟩ : ∃ r, r = feedFs k L fs := ⟨_, rfl⟩
    rw [← hr] at hA hfl
    by_cases hst : r.2.2 = true
    · -- stopped within a
      rw [if_pos hst] at hA
      have hdn : (r.1.setp p e).down = true := by show r.1.down = true; rw [← hfl]; exact hst
      rw [hA]
      simp only
      rw [Lg.feed_down hdn]
      obtain ⟨fs2, p2, e2, hs2⟩ : ∃ fs p e, scan (!k.masks) (most16 k) (L.part ++ (a ++ b)) = (fs, p, e) := ⟨_, _, _, rfl⟩
      have hB := Lg.feed_by hd hs2
      rw [← List.append_assoc] at hs2
      have hpre : ∃ gs, fs2 = fs ++ gs := by
        by_cases he : e = 0
        · have := hap.1 he
          rw [hs2] at this
          exact ⟨_, congrArg Prod.fst this⟩
        · have := hap.2 he
          rw [hs2] at this
          exact ⟨[], by rw [List.append_nil]; exact congrArg Prod.fst this⟩
      obtain ⟨gs, rfl⟩ := hpre
      have hall : feedFs k L (fs ++ gs) = r := by
        unfold feedFs at hr ⊢
        rw [List.foldl_append, ← hr]
        exact feedFs_stop k r hst gs
      rw [feedFs_setp, hall] at hB
      simp only at hB
      rw [if_pos hst] at hB
      rw [hB]
      exact ⟨⟨p2, e2, rfl⟩, by simp⟩
    · have hst' : r.2.2 = false := by cases h : r.2.2; rfl; exact absurd h hst
      rw [if_neg hst] at hA
      have hrd : r.1.down = false := by rw [← hfl]; exact hst'
      by_cases he : e = 0
      · -- all of a is read
        subst he
        rw [if_neg (by simp)] at hA
        rw [hA]
        simp only
        obtain ⟨gs, p2, e2, hs2⟩ : ∃ x y z, scan (!k.masks) (most16 k) (p ++ b) = (x, y, z) := ⟨_, _, _, rfl⟩
        have hC := Lg.feed_by (L := r.1.setp p 0) (show r.1.down = false from hrd) (b := b) (show scan (!k.masks) (most16 k) (p ++ b) = (gs, p2, e2) from hs2)
        have h1 := hap.1 rfl
        rw [hs2] at h1
        rw [List.append_assoc] at h1
        have hB := Lg.feed_by hd h1
        simp only at hB
        have hall : feedFs k L (fs ++ gs) = ((feedFs k r.1 gs).1, r.2.1 ++ (feedFs k r.1 gs).2.1, (feedFs k r.1 gs).2.2) := by
          unfold feedFs at hr ⊢
          rw [List.foldl_append, ← hr, show r = (r.1, r.2.1, false) from by rw [← hst']]
          exact feedFold_out k gs r.1 r.2.1 false
        rw [feedFs_setp, hall] at hB
        rw [Lg.setp_setp, feedFs_setp] at hC
        simp only at hB hC
        rw [hB, hC]
        generalize feedFs k r.1 gs = t
        by_cases ht : t.2.2 = true
        · rw [if_pos ht, if_pos ht]
          exact ⟨⟨p2, e2, rfl⟩, rfl⟩
        · rw [if_neg ht, if_neg ht]
          by_cases he2 : e2 = 0
          · rw [if_neg (by rw [he2]; simp), if_neg (by rw [he2]; simp)]
            exact ⟨⟨p2, e2, rfl⟩, rfl⟩
          · rw [if_pos he2, if_pos he2]
            exact ⟨⟨_, _, (Lg.setp_self _).symm⟩, rfl⟩
      · -- a is wrong
        rw [if_pos he] at hA
        rw [hA]
        simp only
        rw [Lg.feed_down (Lg.fail_down k _ e he)]
        have h1 := hap.2 he
        rw [List.append_assoc] at h1
        obtain ⟨fs2, p2, e2, hs2⟩ : ∃ fs p e, scan (!k.masks) (most16 k) (L.part ++ (a ++ b)) = (fs, p, e) := ⟨_, _, _, rfl⟩
        have hB := Lg.feed_by hd hs2
        rw [hs2] at h1
        have q1 : fs2 = fs := congrArg Prod.fst h1
        have q3 : e2 = e := congrArg (fun x => x.2.2) h1
        subst q1 q3
        rw [feedFs_setp, ← hr] at hB
        simp only at hB
        rw [if_neg hst, if_pos he] at hB
        rw [hB]
        refine ⟨?_, by simp⟩
        simp only
        rw [Lg.fail_setp, Lg.fail_setp]
        exact ⟨p2, e2, rfl⟩
end Go.Proofs.Ytpadlcllcmodaaa
