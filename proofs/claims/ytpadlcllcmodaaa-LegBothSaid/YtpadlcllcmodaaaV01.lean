/- leg: what is to go out goes out; plain Lean. | leg: bytes in pieces, or all at once; plain Lean. -/
import Derived.Test.YtpadlcllcmodaaaY44
/- leg: what is to go out goes out; plain Lean. -/
namespace Go.Proofs.Ytpadlcllcmodaaa
open Go.RowKit
set_option linter.unusedSimpArgs false
set_option linter.unusedVariables false

def Ou.wt (o : Ou) : Nat := o.ring.length + o.tail.length + (o.ctl.map (fun f => f.data.size + 15)).sum + (o.rest.map (fun f => f.data.size + 15)).sum
/-- As it is behind move. -/
structure Ou.still (M : Nat) (o : Ou) : Prop where
  full : o.tail ≠ [] → M ≤ o.ring.length
  done : o.tail = [] → o.ctl = [] ∧ o.rest = []
structure Ou.sized (D : Nat) (o : Ou) : Prop where
  frames : ∀ f ∈ o.ctl ++ o.rest, f.data.size ≤ D
  tail : o.tail.length ≤ D + 14
theorem Ou.push_wt (M : Nat) (o : Ou) : (o.push M).wt = o.wt := by
  unfold Ou.push Ou.wt
  simp only [List.length_append, List.length_take, List.length_drop]
  omega
theorem Ou.push_full (M : Nat) (o : Ou) (h : (o.push M).tail ≠ []) : M ≤ (o.push M).ring.length := by
  have : 0 < ((o.push M).tail).length := List.length_pos_iff.2 h
  unfold Ou.push at this ⊢
  simp only [List.length_append, List.length_take, List.length_drop] at this ⊢
  omega
theorem Ou.fr_size (mk : Bool) (o : Ou) (f : Fr) : (o.fr mk f).data.size = f.data.size := by
  unfold Ou.fr
  split <;> rfl
theorem fputz_len (f : Fr) : (fputz f).length ≤ f.data.size + 14 := by
  unfold fputz
  split
  · rw [fput_length]
    exact size9_le f
  · simp
theorem Ou.step_wt {mk : Bool} {o o2 : Ou} (h : o.step mk = some o2) (ht : o.tail = []) : o2.wt + 1 ≤ o.wt := by
  obtain ⟨r, t, c, s, d⟩ := o
  rcases c with _ | ⟨f, fs⟩
  · rcases s with _ | ⟨f, fs⟩
    · simp [Ou.step] at h
    · simp [Ou.step] at h
      subst h
      have h1 := fputz_len (Ou.fr mk ⟨r, t, [], f :: fs, d⟩ f)
      rw [Ou.fr_size] at h1
      simp only [Ou.wt, List.map_cons, List.sum_cons] at h1 ⊢
      omega
  · simp [Ou.step] at h
    subst h
    have h1 := fputz_len (Ou.fr mk ⟨r, t, f :: fs, s, d⟩ f)
    rw [Ou.fr_size] at h1
    simp only [Ou.wt, List.map_cons, List.sum_cons] at h1 ⊢
    omega
theorem Ou.moveN_wt (M : Nat) (mk : Bool) : ∀ (n : Nat) (o : Ou), (o.moveN M mk n).wt ≤ o.wt := by
  intro n
  induction n with
  | zero => intro o; exact Nat.le_of_eq (Ou.push_wt M o)
  | succ n ih =>
    intro o
    unfold Ou.moveN
    split
    · rename_i ht
      rcases h : (o.push M).step mk with _ | o2
      · exact Nat.le_of_eq (Ou.push_wt M o)
      · have := Ou.step_wt h ht
        rw [Ou.push_wt] at this
        have := ih o2
        show (o2.moveN M mk n).wt ≤ _
        omega
    · exact Nat.le_of_eq (Ou.push_wt M o)
theorem Ou.move_wt (M : Nat) (mk : Bool) (o : Ou) : (o.move M mk).wt ≤ o.wt := Ou.moveN_wt M mk _ o
theorem Ou.left_zero {o : Ou} (h : o.left = 0) : o.ctl = [] ∧ o.rest = [] := by
  unfold Ou.left at h
  exact ⟨List.eq_nil_of_length_eq_zero (by omega), List.eq_nil_of_length_eq_zero (by omega)⟩
theorem Ou.moveN_still (M : Nat) (mk : Bool) : ∀ (n : Nat) (o : Ou), o.left ≤ n → (o.moveN M mk n).still M := by
  intro n
  induction n with
  | zero =>
    intro o h
    exact ⟨Ou.push_full M o, fun _ => Ou.left_zero (o := o.push M) (by rw [Ou.push_left]; omega)⟩
  | succ n ih =>
    intro o h
    unfold Ou.moveN
    split
    · rename_i ht
      rcases hs : (o.push M).step mk with _ | o2
      · exact ⟨Ou.push_full M o, fun _ => Ou.left_zero (Ou.step_none.1 hs)⟩
      · have := Ou.step_left hs
        rw [Ou.push_left] at this
        exact ih o2 (by omega)
    · rename_i ht
      exact ⟨Ou.push_full M o, fun h => absurd h ht⟩
theorem Ou.move_still (M : Nat) (mk : Bool) (o : Ou) : (o.move M mk).still M := Ou.moveN_still M mk _ o (Nat.le_refl _)
theorem Ou.step_sized {D : Nat} {mk : Bool} {o o2 : Ou} (h : o.step mk = some o2) (hs : o.sized D) : o2.sized D := by
  obtain ⟨r, t, c, s, d⟩ := o
  rcases c with _ | ⟨f, fs⟩
  · rcases s with _ | ⟨f, fs⟩
    · simp [Ou.step] at h
    · simp [Ou.step] at h
      subst h
      have h1 := fputz_len (Ou.fr mk ⟨r, t, [], f :: fs, d⟩ f)
      rw [Ou.fr_size] at h1
      have h2 := hs.frames f (by simp)
      exact ⟨fun x hx => hs.frames x (by simp at hx ⊢; exact .inr hx), by show List.length (fputz _) ≤ _; omega⟩
  · simp [Ou.step] at h
    subst h
    have h1 := fputz_len (Ou.fr mk ⟨r, t, f :: fs, s, d⟩ f)
    rw [Ou.fr_size] at h1
    have h2 := hs.frames f (by simp)
    exact ⟨fun x hx => hs.frames x (by simp at hx ⊢; exact .inr hx), by show List.length (fputz _) ≤ _; omega⟩
theorem Ou.push_sized {D : Nat} (M : Nat) {o : Ou} (hs : o.sized D) : (o.push M).sized D :=
  ⟨hs.frames, by have := hs.tail; show (o.tail.drop _).length ≤ _; rw [List.length_drop]; omega⟩
theorem Ou.moveN_sized {D : Nat} (M : Nat) (mk : Bool) : ∀ (n : Nat) (o : Ou), o.sized D → (o.moveN M mk n).sized D := by
  intro n
  induction n with
  | zero => intro o h; exact Ou.push_sized M h
  | succ n ih =>
    intro o h
    unfold Ou.moveN
    split
    · rcases hs : (o.push M).step mk with _ | o2
      · exact Ou.push_sized M h
      · exact ih o2 (Ou.step_sized hs (Ou.push_sized M h))
    · exact Ou.push_sized M h
theorem Ou.move_sized {D : Nat} (M : Nat) (mk : Bool) {o : Ou} (h : o.sized D) : (o.move M mk).sized D := Ou.moveN_sized M mk _ o h
/-- A side that isn't quiet has something in its ring; Take takes of it. -/
theorem Lg.take_down (k : Lk) (L : Lg) (hst : L.o.still k.out) (hk : 1 ≤ k.out) (hq : L.quiet = false) (n : Int) (hn : 1 ≤ n) : (L.take k n).o.wt + 1 ≤ L.o.wt := by
  have hr : 1 ≤ L.o.ring.length := by
    by_cases ht : L.o.tail = []
    · obtain ⟨h1, h2⟩ := hst.done ht
      unfold Lg.quiet at hq
      rw [ht, h1, h2] at hq
      simp at hq
      have : 0 < L.o.ring.length := List.length_pos_iff.2 hq
      omega
    · have := hst.full ht
      omega
  have hp : 1 ≤ pk n L.o.ring.length := by unfold pk; omega
  have hp2 := pk_le n L.o.ring.length
  have := Ou.move_wt k.out k.masks { L.o with ring := L.o.ring.drop (pk n L.o.ring.length) }
  refine Nat.le_trans (Nat.add_le_add_right this 1) ?_
  unfold Ou.wt
  simp only [List.length_drop]
  omega
theorem Lg.take_still (k : Lk) (L : Lg) (n : Int) : (L.take k n).o.still k.out := Ou.move_still _ _ _
theorem Lg.quiet_zero {L : Lg} (h : L.o.wt = 0) : L.quiet = true := by
  unfold Ou.wt at h
  have h1 : L.o.ctl = [] := by
    rcases hc : L.o.ctl with _ | ⟨f, fs⟩
    · rfl
    · rw [hc] at h
      simp at h
  have h2 : L.o.rest = [] := by
    rcases hc : L.o.rest with _ | ⟨f, fs⟩
    · rfl
    · rw [hc] at h
      simp at h
  unfold Lg.quiet
  rw [h1, h2]
  simp
  constructor
  · exact List.eq_nil_of_length_eq_zero (by omega)
  · exact List.eq_nil_of_length_eq_zero (by omega)
theorem Lg.new_still (k : Lk) (m : Nat) (d : Int) : (Lg.new m d).o.still k.out := ⟨fun h => absurd rfl h, fun _ => ⟨rfl, rfl⟩⟩
theorem Lg.new_sized (D m : Nat) (d : Int) : (Lg.new m d).o.sized D := ⟨fun f hf => (by cases hf), Nat.zero_le _⟩
theorem Lg.send_still (k : Lk) (L : Lg) (op : Int) (s : ByteArray) (h : L.o.still k.out) : (L.send k op s).1.o.still k.out := by
  unfold Lg.send
  split
  · exact Ou.move_still _ _ _
  · exact h
theorem Lg.close_still (k : Lk) (L : Lg) (c : Int) (s : ByteArray) (h : L.o.still k.out) : (L.close k c s).1.o.still k.out := by
  unfold Lg.close
  split
  · exact h
  · exact Ou.move_still _ _ _
theorem cutFs_size (op : Int) (s : ByteArray) (most n : Nat) : ∀ f ∈ cutFs op s most n, f.data.size ≤ most := by
  intro f hf
  unfold cutFs at hf
  obtain ⟨i, _, rfl⟩ := List.mem_map.1 hf
  show (s.extract _ _).size ≤ most
  rw [ByteArray.size_extract]
  omega
theorem Lg.send_sized {D : Nat} (k : Lk) (L : Lg) (op : Int) (s : ByteArray) (hk : k.frame ≤ D) (h : L.o.sized D) : (L.send k op s).1.o.sized D := by
  unfold Lg.send
  split
  · refine Ou.move_sized _ _ ⟨fun f hf => ?_, h.tail⟩
    rcases List.mem_append.1 hf with hf | hf
    · exact h.frames f (List.mem_append.2 (.inl hf))
    · have := cutFs_size op s k.frame _ f hf
      omega
  · exact h
theorem Lg.take_sized {D : Nat} (k : Lk) (L : Lg) (n : Int) (h : L.o.sized D) : (L.take k n).o.sized D := Ou.move_sized _ _ ⟨h.frames, h.tail⟩
end Go.Proofs.Ytpadlcllcmodaaa
/- leg: bytes in pieces, or all at once; plain Lean. -/
namespace Go.Proofs.Ytpadlcllcmodaaa
open Go.RowKit
set_option linter.unusedSimpArgs false
set_option linter.unusedVariables false

/-- With another stream. -/
def Lg.setp (L : Lg) (p : List Int) (e : Int) : Lg := { L with part := p, serr := e }
theorem Lg.setp_setp (L : Lg) (p q : List Int) (e f : Int) : (L.setp p e).setp q f = L.setp q f := rfl
theorem Lg.setp_self (L : Lg) : L.setp L.part L.serr = L := rfl
theorem Lg.close_setp (k : Lk) (L : Lg) (p : List Int) (e : Int) (c : Int) (s : ByteArray) : (L.setp p e).close k c s = ((L.close k c s).1.setp p e, (L.close k c s).2) := by
  unfold Lg.close
  by_cases h : L.sent = true ∨ (cput c s).2 ≠ 0
  · rw [if_pos h, if_pos (show (L.setp p e).sent = true ∨ (cput c s).2 ≠ 0 from h)]
  · rw [if_neg h, if_neg (show ¬ ((L.setp p e).sent = true ∨ (cput c s).2 ≠ 0) from h)]
    rfl
theorem Lg.fail_setp (k : Lk) (L : Lg) (p : List Int) (e : Int) (x : Int) : (L.setp p e).fail k x = (L.fail k x).setp p e := by
  unfold Lg.fail
  have := Lg.close_setp k ({ L with wrong := x } : Lg) p e (code11 x) ⟨#[]⟩
  exact congrArg Prod.fst this
theorem Lg.pong_setp (k : Lk) (L : Lg) (p : List Int) (e : Int) (d : ByteArray) : (L.setp p e).pong k d = (L.pong k d).setp p e := by
  unfold Lg.pong
  by_cases h : L.sent = true
  · rw [if_pos h, if_pos (show (L.setp p e).sent = true from h)]
  · rw [if_neg h, if_neg (show ¬ (L.setp p e).sent = true from h)]
    rfl
theorem Lg.takeF_setp (k : Lk) (L : Lg) (p : List Int) (e : Int) (f : Fr) : (L.setp p e).takeF k f = ((L.takeF k f).1.setp p e, (L.takeF k f).2) := by
  unfold Lg.takeF
  rw [show mtake (L.setp p e).m f = mtake L.m f from rfl]
  by_cases h1 : (mtake L.m f).2.2.2 ≠ 0
  · rw [if_pos h1, if_pos h1]
    have := Lg.fail_setp k ({ L with m := (mtake L.m f).1 } : Lg) p e (mtake L.m f).2.2.2
    exact Prod.ext this rfl
  rw [if_neg h1, if_neg h1]
  by_cases h2 : (mtake L.m f).2.2.1 = true ∧ (mtake L.m f).2.1.op = 9
  · rw [if_pos h2, if_pos h2]
    have := Lg.pong_setp k ({ L with m := (mtake L.m f).1 } : Lg) p e (mtake L.m f).2.1.data
    exact Prod.ext this rfl
  rw [if_neg h2, if_neg h2]
  by_cases h3 : (mtake L.m f).2.2.1 = true ∧ (mtake L.m f).2.1.op = 8
  · rw [if_pos h3, if_pos h3]
    have := Lg.close_setp k ({ L with m := (mtake L.m f).1, got := true } : Lg) p e (across11 (mtake L.m f).2.1.code) ⟨#[]⟩
    have h := congrArg Prod.fst this
    exact Prod.ext h rfl
  rw [if_neg h3, if_neg h3]
  rfl
theorem feedStep_setp (k : Lk) (s : Lg × List Ev × Bool) (p : List Int) (e : Int) (f : Fr) : feedStep k (s.1.setp p e, s.2) f = ((feedStep k s f).1.setp p e, (feedStep k s f).2) := by
  unfold feedStep
  by_cases h : s.2.2 = true
  · rw [if_pos h, if_pos h]
  · rw [if_neg h, if_neg h]
    simp only [Lg.takeF_setp]
    rfl
theorem feedFold_setp (k : Lk) (p : List Int) (e : Int) : ∀ (fs : List Fr) (s : Lg × List Ev × Bool), fs.foldl (feedStep k) (s.1.setp p e, s.2) = ((fs.foldl (feedStep k) s).1.setp p e, (fs.foldl (feedStep k) s).2) := by
  intro fs
  induction fs with
  | nil => intro s; rfl
  | cons f fs ih =>
    intro s
    rw [List.foldl_cons, List.foldl_cons, feedStep_setp]
    exact ih _
theorem feedFold_out (k : Lk) : ∀ (fs : List Fr) (L : Lg) (out : List Ev) (b : Bool), fs.foldl (feedStep k) (L, out, b) = ((fs.foldl (feedStep k) (L, [], b)).1, out ++ (fs.foldl (feedStep k) (L, [], b)).2.1, (fs.foldl (feedStep k) (L, [], b)).2.2) := by
  intro fs
  induction fs with
  | nil => intro L out b; simp
  | cons f fs ih =>
    intro L out b
    rw [List.foldl_cons, List.foldl_cons]
    cases b with
    | true =>
      rw [show feedStep k (L, out, true) f = (L, out, true) from by unfold feedStep; rw [if_pos rfl], show feedStep k (L, [], true) f = (L, [], true) from by unfold feedStep; rw [if_pos rfl]]
      exact ih L out true
    | false =>
      rw [show feedStep k (L, out, false) f = ((L.takeF k f).1, (if (L.takeF k f).2.2 = true then out ++ [(L.takeF k f).2.1] else out), (L.takeF k f).1.down) from by unfold feedStep; rw [if_neg (by simp)],
        show feedStep k (L, [], false) f = ((L.takeF k f).1, (if (L.takeF k f).2.2 = true then [] ++ [(L.takeF k f).2.1] else []), (L.takeF k f).1.down) from by unfold feedStep; rw [if_neg (by simp)]]
      rw [ih, ih (L.takeF k f).1 (if (L.takeF k f).2.2 = true then [] ++ [(L.takeF k f).2.1] else [])]
      cases (L.takeF k f).2.2 with
      | true => simp
      | false => simp
/-- Equal but for what the stream keeps. -/
def Lg.alike (L L' : Lg) : Prop := ∃ p e, L' = L.setp p e
theorem Lg.feed_down {k : Lk} {L : Lg} (h : L.down = true) (b : List Int) : L.feed k b = (L, []) := by unfold Lg.feed; rw [if_pos h]
/-- What feeding comes to, the frames being known. -/
theorem Lg.feed_by {k : Lk} {L : Lg} (h : L.down = false) {b : List Int} {fs : List Fr} {p : List Int} {e : Int} (hs : scan (!k.masks) (most16 k) (L.part ++ b) = (fs, p, e)) :
    L.feed k b = (if (feedFs k (L.setp p e) fs).2.2 = true then ((feedFs k (L.setp p e) fs).1, (feedFs k (L.setp p e) fs).2.1) else if e ≠ 0 then ((feedFs k (L.setp p e) fs).1.fail k e, (feedFs k (L.setp p e) fs).2.1) else ((feedFs k (L.setp p e) fs).1, (feedFs k (L.setp p e) fs).2.1)) := by
  have hfd : L.fed k b = L.setp p e := by unfold Lg.fed Lg.setp; rw [hs]
  unfold Lg.feed
  rw [if_neg (by rw [h]; simp), hfd, hs]
theorem feedFs_setp (k : Lk) (L : Lg) (p : List Int) (e : Int) (fs : List Fr) : feedFs k (L.setp p e) fs = ((feedFs k L fs).1.setp p e, (feedFs k L fs).2) := feedFold_setp k p e fs (L, [], false)
theorem feedFs_flag (k : Lk) (L : Lg) (hd : L.down = false) (fs : List Fr) : (feedFs k L fs).2.2 = (feedFs k L fs).1.down := by
  have key : ∀ (fs : List Fr) (s : Lg × List Ev × Bool), s.2.2 = s.1.down → (fs.foldl (feedStep k) s).2.2 = (fs.foldl (feedStep k) s).1.down := by
    intro fs
    induction fs with
    | nil => intro s h; exact h
    | cons f fs ih =>
      intro s h
      rw [List.foldl_cons]
      refine ih _ ?_
      unfold feedStep
      split
      · exact h
      · rfl
  exact key fs (L, [], false) hd.symm
/-- In pieces, or at once. -/
theorem Lg.feed_two (k : Lk) (L : Lg) (hok : L.ok k) (a b : List Int) (ha : bytesIn a) (hb : bytesIn b) (hl : L.part.length + a.length + b.length ≤ 1000000) :
    ((L.feed k a).1.feed k b).1.alike (L.feed k (a ++ b)).1 ∧ (L.feed k a).2 ++ ((L.feed k a).1.feed k b).2 = (L.feed k (a ++ b)).2 := by
  cases hd : L.down with
  | true =>
    rw [Lg.feed_down hd, Lg.feed_down hd]
    simp only
    rw [Lg.feed_down hd]
    exact ⟨⟨L.part, L.serr, rfl⟩, rfl⟩
  | false =>
    have hin : bytesIn ((L.part ++ a) ++ b) := fun x hx => by
      rcases List.mem_append.1 hx with hx | hx
      · rcases List.mem_append.1 hx with hx | hx
        · exact hok.bytes x hx
        · exact ha x hx
      · exact hb x hx
    have hml : ((L.part ++ a) ++ b).length ≤ maxLen := by simp only [List.length_append]; unfold maxLen; omega
    obtain ⟨fs, p, e, hs⟩ : ∃ fs p e, scan (!k.masks) (most16 k) (L.part ++ a) = (fs, p, e) := ⟨_, _, _, rfl⟩
    have hap := scan_append (!k.masks) (most16 k) (L.part ++ a).length (L.part ++ a) b (Nat.le_refl _) hin hml
    rw [hs] at hap
    simp only at hap
    have hA := Lg.feed_by hd hs
    have hfl := feedFs_flag k L hd fs
    rw [feedFs_setp] at hA
    simp only at hA
    obtain ⟨r, hr⟩ : ∃ r, r = feedFs k L fs := ⟨_, rfl⟩
    rw [← hr] at hA hfl
    by_cases hst : r.2.2 = true
    · -- stopped within a
      rw [if_pos hst] at hA
      have hdn : (r.1.setp p e).down = true := by show r.1.down = true; rw [← hfl]; exact hst
      rw [hA]
      simp only
      rw [Lg.feed_down hdn]
      obtain ⟨fs2, p2, e2, hs2⟩ : ∃ fs p e, scan (!k.masks) (most16 k) (L.part ++ (a ++ b)) = (fs, p, e) := ⟨_, _, _, rfl⟩
      have hB := Lg.feed_by hd hs2
      rw [← List.append_assoc] at hs2
      have hpre : ∃ gs, fs2 = fs ++ gs := by
        by_cases he : e = 0
        · have := hap.1 he
          rw [hs2] at this
          exact ⟨_, congrArg Prod.fst this⟩
        · have := hap.2 he
          rw [hs2] at this
          exact ⟨[], by rw [List.append_nil]; exact congrArg Prod.fst this⟩
      obtain ⟨gs, rfl⟩ := hpre
      have hall : feedFs k L (fs ++ gs) = r := by
        unfold feedFs at hr ⊢
        rw [List.foldl_append, ← hr]
        exact feedFs_stop k r hst gs
      rw [feedFs_setp, hall] at hB
      simp only at hB
      rw [if_pos hst] at hB
      rw [hB]
      exact ⟨⟨p2, e2, rfl⟩, by simp⟩
    · have hst' : r.2.2 = false := by cases h : r.2.2; rfl; exact absurd h hst
      rw [if_neg hst] at hA
      have hrd : r.1.down = false := by rw [← hfl]; exact hst'
      by_cases he : e = 0
      · -- all of a is read
        subst he
        rw [if_neg (by simp)] at hA
        rw [hA]
        simp only
        obtain ⟨gs, p2, e2, hs2⟩ : ∃ x y z, scan (!k.masks) (most16 k) (p ++ b) = (x, y, z) := ⟨_, _, _, rfl⟩
        have hC := Lg.feed_by (L := r.1.setp p 0) (show r.1.down = false from hrd) (b := b) (show scan (!k.masks) (most16 k) (p ++ b) = (gs, p2, e2) from hs2)
        have h1 := hap.1 rfl
        rw [hs2] at h1
        rw [List.append_assoc] at h1
        have hB := Lg.feed_by hd h1
        simp only at hB
        have hall : feedFs k L (fs ++ gs) = ((feedFs k r.1 gs).1, r.2.1 ++ (feedFs k r.1 gs).2.1, (feedFs k r.1 gs).2.2) := by
          unfold feedFs at hr ⊢
          rw [List.foldl_append, ← hr, show r = (r.1, r.2.1, false) from by rw [← hst']]
          exact feedFold_out k gs r.1 r.2.1 false
        rw [feedFs_setp, hall] at hB
        rw [Lg.setp_setp, feedFs_setp] at hC
        simp only at hB hC
        rw [hB, hC]
        generalize feedFs k r.1 gs = t
        by_cases ht : t.2.2 = true
        · rw [if_pos ht, if_pos ht]
          exact ⟨⟨p2, e2, rfl⟩, rfl⟩
        · rw [if_neg ht, if_neg ht]
          by_cases he2 : e2 = 0
          · rw [if_neg (by rw [he2]; simp), if_neg (by rw [he2]; simp)]
            exact ⟨⟨p2, e2, rfl⟩, rfl⟩
          · rw [if_pos he2, if_pos he2]
            exact ⟨⟨_, _, (Lg.setp_self _).symm⟩, rfl⟩
      · -- a is wrong
        rw [if_pos he] at hA
        rw [hA]
        simp only
        rw [Lg.feed_down (Lg.fail_down k _ e he)]
        have h1 := hap.2 he
        rw [List.append_assoc] at h1
        obtain ⟨fs2, p2, e2, hs2⟩ : ∃ fs p e, scan (!k.masks) (most16 k) (L.part ++ (a ++ b)) = (fs, p, e) := ⟨_, _, _, rfl⟩
        have hB := Lg.feed_by hd hs2
        rw [hs2] at h1
        have q1 : fs2 = fs := congrArg Prod.fst h1
        have q3 : e2 = e := congrArg (fun x => x.2.2) h1
        subst q1 q3
        rw [feedFs_setp, ← hr] at hB
        simp only at hB
        rw [if_neg hst, if_pos he] at hB
        rw [hB]
        refine ⟨?_, by simp⟩
        simp only
        rw [Lg.fail_setp, Lg.fail_setp]
        exact ⟨p2, e2, rfl⟩
end Go.Proofs.Ytpadlcllcmodaaa
