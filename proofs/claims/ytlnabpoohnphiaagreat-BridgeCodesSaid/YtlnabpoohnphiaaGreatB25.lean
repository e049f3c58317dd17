/- leg: what is to go out goes out; plain Lean. | leg: bytes in pieces, or all at once; plain Lean. | stream: plain laws on frames' bytes. | leg: what is still to go out; how many control frames wait; plain Lean. -/
import Derived.Test.YtlnabpoohnphiaaGreatB24
import Derived.Test.YtlnabpoohnphiaaGreatB12
import Derived.Test.YtlnabpoohnphiaaGreatB11
import Derived.Test.YtlnabpoohnphiaaGreatB04
/- leg: what is to go out goes out; plain Lean. -/
namespace Go.Proofs.YtlnabpoohnphiaaGreat
open Go.RowKit
set_option linter.unusedSimpArgs false
set_option linter.unusedVariables false

def Ou.wt (o : Ou) : Nat := o.ring.length + o.tail.length + (o.ctl.map (fun f => f.data.size + 15)).sum + (o.rest.map (fun f => f.data.size + 15)).sum
/-- As it is behind move. -/
structure Ou.still (M : Nat) (o : Ou) : Prop where
  full : o.tail ≠ [] → M ≤ o.ring.length
  done : o.tail = [] → o.ctl = [] ∧ o.rest = []
structure Ou.sized (D : Nat) (o : Ou) : Prop where
  frames : ∀ f ∈ o.ctl ++ o.rest, f.data.size ≤ D
  tail : o.tail.length ≤ D + 14
theorem Ou.push_wt (M : Nat) (o : Ou) : (o.push M).wt = o.wt := by
  unfold Ou.push Ou.wt
  simp only [List.length_append, List.length_take, List.length_drop]
  omega
theorem Ou.push_full (M : Nat) (o : Ou) (h : (o.push M).tail ≠ []) : M ≤ (o.push M).ring.length := by
  have : 0 < ((o.push M).tail).length := List.length_pos_iff.2 h
  unfold Ou.push at this ⊢
  simp only [List.length_append, List.length_take, List.length_drop] at this ⊢
  omega
theorem Ou.fr_size (mk : Bool) (o : Ou) (f : Fr) : (o.fr mk f).data.size = f.data.size := by
  unfold Ou.fr
  split <;> rfl
theorem fputz_len (f : Fr) : (fputz f).length ≤ f.data.size + 14 := by
  unfold fputz
  split
  · rw [fput_length]
    exact size9_le f
  · simp
theorem Ou.step_wt {mk : Bool} {o o2 : Ou} (h : o.step mk = some o2) (ht : o.tail = []) : o2.wt + 1 ≤ o.wt := by
  obtain ⟨r, t, c, s, d⟩ := o
  rcases c with _ | ⟨f, fs⟩
  · rcases s with _ | ⟨f, fs⟩
    · simp [Ou.step] at h
    · simp [Ou.step] at h
      subst h
      have h1 := fputz_len (Ou.fr mk ⟨r, t, [], f :: fs, d⟩ f)
      rw [Ou.fr_size] at h1
      simp only [Ou.wt, List.map_cons, List.sum_cons] at h1 ⊢
      omega
  · simp [Ou.step] at h
    subst h
    have h1 := fputz_len (Ou.fr mk ⟨r, t, f :: fs, s, d⟩ f)
    rw [Ou.fr_size] at h1
    simp only [Ou.wt, List.map_cons, List.sum_cons] at h1 ⊢
    omega
theorem Ou.moveN_wt (M : Nat) (mk : Bool) : ∀ (n : Nat) (o : Ou), (o.moveN M mk n).wt ≤ o.wt := by
  intro n
  induction n with
  | zero => intro o; exact Nat.le_of_eq (Ou.push_wt M o)
  | succ n ih =>
    intro o
    unfold Ou.moveN
    split
    · rename_i ht
      rcases h : (o.push M).step mk with _ | o2
      · exact Nat.le_of_eq (Ou.push_wt M o)
      · have := Ou.step_wt h ht
        rw [Ou.push_wt] at this
        have := ih o2
        show (o2.moveN M mk n).wt ≤ _
        omega
    · exact Nat.le_of_eq (Ou.push_wt M o)
theorem Ou.move_wt (M : Nat) (mk : Bool) (o : Ou) : (o.move M mk).wt ≤ o.wt := Ou.moveN_wt M mk _ o
theorem Ou.left_zero {o : Ou} (h : o.left = 0) : o.ctl = [] ∧ o.rest = [] := by
  unfold Ou.left at h
  exact ⟨List.eq_nil_of_length_eq_zero (by omega), List.eq_nil_of_length_eq_zero (by omega)⟩
theorem Ou.moveN_still (M : Nat) (mk : Bool) : ∀ (n : Nat) (o : Ou), o.left ≤ n → (o.moveN M mk n).still M := by
  intro n
  induction n with
  | zero =>
    intro o h
    exact ⟨Ou.push_full M o, fun _ => Ou.left_zero (o := o.push M) (by rw [Ou.push_left]; omega)⟩
  | succ n ih =>
    intro o h
    unfold Ou.moveN
    split
    · rename_i ht
      rcases hs : (o.push M).step mk with _ | o2
      · exact ⟨Ou.push_full M o, fun _ => Ou.left_zero (Ou.step_none.1 hs)⟩
      · have := Ou.step_left hs
        rw [Ou.push_left] at this
        exact ih o2 (by omega)
    · rename_i ht
      exact ⟨Ou.push_full M o, fun h => absurd h ht⟩
theorem Ou.move_still (M : Nat) (mk : Bool) (o : Ou) : (o.move M mk).still M := Ou.moveN_still M mk _ o (Nat.le_refl _)
theorem Ou.step_sized {D : Nat} {mk : Bool} {o o2 : Ou} (h : o.step mk = some o2) (hs : o.sized D) : o2.sized D := by
  obtain ⟨r, t, c, s, d⟩ := o
  rcases c with _ | ⟨f, fs⟩
  · rcases s with _ | ⟨f, fs⟩
    · simp [Ou.step] at h
    · simp [Ou.step] at h
      subst h
      have h1 := fputz_len (Ou.fr mk ⟨r, t, [], f :: fs, d⟩ f)
      rw [Ou.fr_size] at h1
      have h2 := hs.frames f (by simp)
      exact ⟨fun x hx => hs.frames x (by simp at hx ⊢; exact .inr hx), by show List.length (fputz _) ≤ _; omega⟩
  · simp [Ou.step] at h
    subst h
    have h1 := fputz_len (Ou.fr mk ⟨r, t, f :: fs, s, d⟩ f)
    rw [Ou.fr_size] at h1
    have h2 := hs.frames f (by simp)
    exact ⟨fun x hx => hs.frames x (by simp at hx ⊢; exact .inr hx), by show List.length (fputz _) ≤ _; omega⟩
theorem Ou.push_sized {D : Nat} (M : Nat) {o : Ou} (hs : o.sized D) : (o.push M).sized D :=
  ⟨hs.frames, by have := hs.tail; show (o.tail.drop _).length ≤ _; rw [List.length_drop]; omega⟩
theorem Ou.moveN_sized {D : Nat} (M : Nat) (mk : Bool) : ∀ (n : Nat) (o : Ou), o.sized D → (o.moveN M mk n).sized D := by
  intro n
  induction n with
  | zero => intro o h; exact Ou.push_sized M h
  | succ n ih =>
    intro o h
    unfold Ou.moveN
    split
    · rcases hs : (o.push M).step mk with _ | o2
      · exact Ou.push_sized M h
      · exact ih o2 (Ou.step_sized hs (Ou.push_sized M h))
    · exact Ou.push_sized M h
theorem Ou.move_sized {D : Nat} (M : Nat) (mk : Bool) {o : Ou} (h : o.sized D) : (o.move M mk).sized D := Ou.moveN_sized M mk _ o h
/-- A side that isn't quiet has something in its ring; Take takes of it. -/
theorem Lg.take_down (k : Lk) (L : Lg) (hst : L.o.still k.out) (hk : 1 ≤ k.out) (hq : L.quiet = false) (n : Int) (hn : 1 ≤ n) : (L.take k n).o.wt + 1 ≤ L.o.wt := by
  have hr : 1 ≤ L.o.ring.length := by
    by_cases ht : L.o.tail = []
    · obtain ⟨h1, h2⟩ := hst.done ht
      unfold Lg.quiet at hq
      rw [ht, h1, h2] at hq
      simp at hq
      have : 0 < L.o.ring.length := List.length_pos_iff.2 hq
      omega
    · have := hst.full ht
      omega
  have hp : 1 ≤ pk n L.o.ring.length := by unfold pk; omega
  have hp2 := pk_le n L.o.ring.length
  have := Ou.move_wt k.out k.masks { L.o with ring := L.o.ring.drop (pk n L.o.ring.length) }
  refine Nat.le_trans (Nat.add_le_add_right this 1) ?_
  unfold Ou.wt
  simp only [List.length_drop]
  omega
theorem Lg.take_still (k : Lk) (L : Lg) (n : Int) : (L.take k n).o.still k.out := Ou.move_still _ _ _
theorem Lg.quiet_zero {L : Lg} (h : L.o.wt = 0) : L.quiet = true := by
  unfold Ou.wt at h
  have h1 : L.o.ctl = [] := by
    rcases hc : L.o.ctl with _ | ⟨f, fs⟩
    · rfl
    · rw [hc] at h
      simp at h
  have h2 : L.o.rest = [] := by
    rcases hc : L.o.rest with _ | ⟨f, fs⟩
    · rfl
    · rw [hc] at h
      simp at h
  unfold Lg.quiet
  rw [h1, h2]
  simp
  constructor
  · exact List.eq_nil_of_length_eq_zero (by omega)
  · exact List.eq_nil_of_length_eq_zero (by omega)
theorem Lg.new_still (k : Lk) (m : Nat) (d : Int) : (Lg.new m d).o.still k.out := ⟨fun h => absurd rfl h, fun _ => ⟨rfl, rfl⟩⟩
theorem Lg.new_sized (D m : Nat) (d : Int) : (Lg.new m d).o.sized D := ⟨fun f hf => (by cases hf), Nat.zero_le _⟩
theorem Lg.send_still (k : Lk) (L : Lg) (op : Int) (s : ByteArray) (h : L.o.still k.out) : (L.send k op s).1.o.still k.out := by
  unfold Lg.send
  split
  · exact Ou.move_still _ _ _
  · exact h
theorem Lg.close_still (k : Lk) (L : Lg) (c : Int) (s : ByteArray) (h : L.o.still k.out) : (L.close k c s).1.o.still k.out := by
  unfold Lg.close
  split
  · exact h
  · exact Ou.move_still _ _ _
theorem cutFs_size (op : Int) (s : ByteArray) (most n : Nat) : ∀ f ∈ cutFs op s most n, f.data.size ≤ most := by
  intro f hf
  unfold cutFs at hf
  obtain ⟨i, _, rfl⟩ := List.mem_map.1 hf
  show (s.extract _ _).size ≤ most
  rw [ByteArray.size_extract]
  omega
theorem Lg.send_sized {D : Nat} (k : Lk) (L : Lg) (op : Int) (s : ByteArray) (hk : k.frame ≤ D) (h : L.o.sized D) : (L.send k op s).1.o.sized D := by
  unfold Lg.send
  split
  · refine Ou.move_sized _ _ ⟨fun f hf => ?_, h.tail⟩
    rcases List.mem_append.1 hf with hf | hf
    · exact h.frames f (List.mem_append.2 (.inl hf))
    · have := cutFs_size op s k.frame _ f hf
      omega
  · exact h
theorem Lg.take_sized {D : Nat} (k : Lk) (L : Lg) (n : Int) (h : L.o.sized D) : (L.take k n).o.sized D := Ou.move_sized _ _ ⟨h.frames, h.tail⟩
end Go.Proofs.YtlnabpoohnphiaaGreat
/- leg: bytes in pieces, or all at once; plain Lean. -/
namespace Go.Proofs.YtlnabpoohnphiaaGreat
open Go.RowKit
set_option linter.unusedSimpArgs false
set_option linter.unusedVariables false

/-- With another stream. -/
def Lg.setp (L : Lg) (p : List Int) (e : Int) : Lg := { L with part := p, serr := e }
theorem Lg.setp_setp (L : Lg) (p q : List Int) (e f : Int) : (L.setp p e).setp q f = L.setp q f := rfl
theorem Lg.setp_self (L : Lg) : L.setp L.part L.serr = L := rfl
theorem Lg.close_setp (k : Lk) (L : Lg) (p : List Int) (e : Int) (c : Int) (s : ByteArray) : (L.setp p e).close k c s = ((L.close k c s).1.setp p e, (L.close k c s).2) := by
  unfold Lg.close
  by_cases h : L.sent = true ∨ (cput c s).2 ≠ 0
  · rw [if_pos h, if_pos (show (L.setp p e).sent = true ∨ (cput c s).2 ≠ 0 from h)]
  · rw [if_neg h, if_neg (show ¬ ((L.setp p e).sent = true ∨ (cput c s).2 ≠ 0) from h)]
    rfl
theorem Lg.fail_setp (k : Lk) (L : Lg) (p : List Int) (e : Int) (x : Int) : (L.setp p e).fail k x = (L.fail k x).setp p e := by
  unfold Lg.fail
  have := Lg.close_setp k ({ L with wrong := x } : Lg) p e (code11 x) ⟨#[]⟩
  exact congrArg Prod.fst this
theorem Lg.pong_setp (k : Lk) (L : Lg) (p : List Int) (e : Int) (d : ByteArray) : (L.setp p e).pong k d = (L.pong k d).setp p e := by
  unfold Lg.pong
  by_cases h : L.sent = true
  · rw [if_pos h, if_pos (show (L.setp p e).sent = true from h)]
  · rw [if_neg h, if_neg (show ¬ (L.setp p e).sent = true from h)]
    rfl
theorem Lg.takeF_setp (k : Lk) (L : Lg) (p : List Int) (e : Int) (f : Fr) : (L.setp p e).takeF k f = ((L.takeF k f).1.setp p e, (L.takeF k f).2) := by
  unfold Lg.takeF
  rw [show mtake (L.setp p e).m f = mtake L.m f from rfl]
  by_cases h1 : (mtake L.m f).2.2.2 ≠ 0
  · rw [if_pos h1, if_pos h1]
    have := Lg.fail_setp k ({ L with m := (mtake L.m f).1 } : Lg) p e (mtake L.m f).2.2.2
    exact Prod.ext this rfl
  rw [if_neg h1, if_neg h1]
  by_cases h2 : (mtake L.m f).2.2.1 = true ∧ (mtake L.m f).2.1.op = 9
  · rw [if_pos h2, if_pos h2]
    have := Lg.pong_setp k ({ L with m := (mtake L.m f).1 } : Lg) p e (mtake L.m f).2.1.data
    exact Prod.ext this rfl
  rw [if_neg h2, if_neg h2]
  by_cases h3 : (mtake L.m f).2.2.1 = true ∧ (mtake L.m f).2.1.op = 8
  · rw [if_pos h3, if_pos h3]
    have := Lg.close_setp k ({ L with m := (mtake L.m f).1, got := true } : Lg) p e (across11 (mtake L.m f).2.1.code) ⟨#[]⟩
    have h := congrArg Prod.fst this
    exact Prod.ext h rfl
  rw [if_neg h3, if_neg h3]
  rfl
theorem feedStep_setp (k : Lk) (s : Lg × List Ev × Bool) (p : List Int) (e : Int) (f : Fr) : feedStep k (s.1.setp p e, s.2) f = ((feedStep k s f).1.setp p e, (feedStep k s f).2) := by
  unfold feedStep
  by_cases h : s.2.2 = true
  · rw [if_pos h, if_pos h]
  · rw [if_neg h, if_neg h]
    simp only [Lg.takeF_setp]
    rfl
theorem feedFold_setp (k : Lk) (p : List Int) (e : Int) : ∀ (fs : List Fr) (s : Lg × List Ev × Bool), fs.foldl (feedStep k) (s.1.setp p e, s.2) = ((fs.foldl (feedStep k) s).1.setp p e, (fs.foldl (feedStep k) s).2) := by
  intro fs
  induction fs with
  | nil => intro s; rfl
  | cons f fs ih =>
    intro s
    rw [List.foldl_cons, List.foldl_cons, feedStep_setp]
    exact ih _
theorem feedFold_out (k : Lk) : ∀ (fs : List Fr) (L : Lg) (out : List Ev) (b : Bool), fs.foldl (feedStep k) (L, out, b) = ((fs.foldl (feedStep k) (L, [], b)).1, out ++ (fs.foldl (feedStep k) (L, [], b)).2.1, (fs.foldl (feedStep k) (L, [], b)).2.2) := by
  intro fs
  induction fs with
  | nil => intro L out b; simp
  | cons f fs ih =>
    intro L out b
    rw [List.foldl_cons, List.foldl_cons]
    cases b with
    | true =>
      rw [show feedStep k (L, out, true) f = (L, out, true) from by unfold feedStep; rw [if_pos rfl], show feedStep k (L, [], true) f = (L, [], true) from by unfold feedStep; rw [if_pos rfl]]
      exact ih L out true
    | false =>
      rw [show feedStep k (L, out, false) f = ((L.takeF k f).1, (if (L.takeF k f).2.2 = true then out ++ [(L.takeF k f).2.1] else out), (L.takeF k f).1.down) from by unfold feedStep; rw [if_neg (by simp)],
        show feedStep k (L, [], false) f = ((L.takeF k f).1, (if (L.takeF k f).2.2 = true then [] ++ [(L.takeF k f).2.1] else []), (L.takeF k f).1.down) from by unfold feedStep; rw [if_neg (by simp)]]
      rw [ih, ih (L.takeF k f).1 (if (L.takeF k f).2.2 = true then [] ++ [(L.takeF k f).2.1] else [])]
      cases (L.takeF k f).2.2 with
      | true => simp
      | false => simp
/-- Equal but for what the stream keeps. -/
def Lg.alike (L L' : Lg) : Prop := ∃ p e, L' = L.setp p e
theorem Lg.feed_down {k : Lk} {L : Lg} (h : L.down = true) (b : List Int) : L.feed k b = (L, []) := by unfold Lg.feed; rw [if_pos h]
/-- What feeding comes to, the frames being known. -/
theorem Lg.feed_by {k : Lk} {L : Lg} (h : L.down = false) {b : List Int} {fs : List Fr} {p : List Int} {e : Int} (hs : scan (!k.masks) (most16 k) (L.part ++ b) = (fs, p, e)) :
    L.feed k b = (if (feedFs k (L.setp p e) fs).2.2 = true then ((feedFs k (L.setp p e) fs).1, (feedFs k (L.setp p e) fs).2.1) else if e ≠ 0 then ((feedFs k (L.setp p e) fs).1.fail k e, (feedFs k (L.setp p e) fs).2.1) else ((feedFs k (L.setp p e) fs).1, (feedFs k (L.setp p e) fs).2.1)) := by
  have hfd : L.fed k b = L.setp p e := by unfold Lg.fed Lg.setp; rw [hs]
  unfold Lg.feed
  rw [if_neg (by rw [h]; simp), hfd, hs]
theorem feedFs_setp (k : Lk) (L : Lg) (p : List Int) (e : Int) (fs : List Fr) : feedFs k (L.setp p e) fs = ((feedFs k L fs).1.setp p e, (feedFs k L fs).2) := feedFold_setp k p e fs (L, [], false)
theorem feedFs_flag (k : Lk) (L : Lg) (hd : L.down = false) (fs : List Fr) : (feedFs k L fs).2.2 = (feedFs k L fs).1.down := by
  have key : ∀ (fs : List Fr) (s : Lg × List Ev × Bool), s.2.2 = s.1.down → (fs.foldl (feedStep k) s).2.2 = (fs.foldl (feedStep k) s).1.down := by
    intro fs
    induction fs with
    | nil => intro s h; exact h
    | cons f fs ih =>
      intro s h
      rw [List.foldl_cons]
      refine ih _ ?_
      unfold feedStep
      split
      · exact h
      · rfl
  exact key fs (L, [], false) hd.symm
/-- In pieces, or at once. -/
theorem Lg.feed_two (k : Lk) (L : Lg) (hok : L.ok k) (a b : List Int) (ha : bytesIn a) (hb : bytesIn b) (hl : L.part.length + a.length + b.length ≤ 1000000) :
    ((L.feed k a).1.feed k b).1.alike (L.feed k (a ++ b)).1 ∧ (L.feed k a).2 ++ ((L.feed k a).1.feed k b).2 = (L.feed k (a ++ b)).2 := by
  cases hd : L.down with
  | true =>
    rw [Lg.feed_down hd, Lg.feed_down hd]
    simp only
    rw [Lg.feed_down hd]
    exact ⟨⟨L.part, L.serr, rfl⟩, rfl⟩
  | false =>
    have hin : bytesIn ((L.part ++ a) ++ b) := fun x hx => by
      rcases List.mem_append.1 hx with hx | hx
      · rcases List.mem_append.1 hx with hx | hx
        · exact hok.bytes x hx
        · exact ha x hx
      · exact hb x hx
    have hml : ((L.part ++ a) ++ b).length ≤ maxLen := by simp only [List.length_append]; unfold maxLen; omega
    obtain ⟨fs, p, e, hs⟩ : ∃ fs p e, scan (!k.masks) (most16 k) (L.part ++ a) = (fs, p, e) := ⟨_, _, _, rfl⟩
    have hap := scan_append (!k.masks) (most16 k) (L.part ++ a).length (L.part ++ a) b (Nat.le_refl _) hin hml
    rw [hs] at hap
    simp only at hap
    have hA := Lg.feed_by hd hs
    have hfl := feedFs_flag k L hd fs
    rw [feedFs_setp] at hA
    simp only at hA
    obtain ⟨r, hr⟩ : ∃ r, r = feedFs k L fs := ⟨_, rfl⟩
    rw [← hr] at hA hfl
    by_cases hst : r.2.2 = true
    · -- stopped within a
      rw [if_pos hst] at hA
      have hdn : (r.1.setp p e).down = true := by show r.1.down = true; rw [← hfl]; exact hst
      rw [hA]
      simp only
      rw [Lg.feed_down hdn]
      obtain ⟨fs2, p2, e2, hs2⟩ : ∃ fs p e, scan (!k.masks) (most16 k) (L.part ++ (a ++ b)) = (fs, p, e) := ⟨_, _, _, rfl⟩
      have hB := Lg.feed_by hd hs2
      rw [← List.append_assoc] at hs2
      have hpre : ∃ gs, fs2 = fs ++ gs := by
        by_cases he : e = 0
        · have := hap.1 he
          rw [hs2] at this
          exact ⟨_, congrArg Prod.fst this⟩
        · have := hap.2 he
          rw [hs2] at this
          exact ⟨[], by rw [List.append_nil]; exact congrArg Prod.fst this⟩
      obtain ⟨gs, rfl⟩ := hpre
      have hall : feedFs k L (fs ++ gs) = r := by
        unfold feedFs at hr ⊢
        rw [List.foldl_append, ← hr]
        exact feedFs_stop k r hst gs
      rw [feedFs_setp, hall] at hB
      simp only at hB
      rw [if_pos hst] at hB
      rw [hB]
      exact ⟨⟨p2, e2, rfl⟩, by simp⟩
    · have hst' : r.2.2 = false := by cases h : r.2.2; rfl; exact absurd h hst
      rw [if_neg hst] at hA
      have hrd : r.1.down = false := by rw [← hfl]; exact hst'
      by_cases he : e = 0
      · -- all of a is read
        subst he
        rw [if_neg (by simp)] at hA
        rw [hA]
        simp only
        obtain ⟨gs, p2, e2, hs2⟩ : ∃ x y z, scan (!k.masks) (most16 k) (p ++ b) = (x, y, z) := ⟨_, _, _, rfl⟩
        have hC := Lg.feed_by (L := r.1.setp p 0) (show r.1.down = false from hrd) (b := b) (show scan (!k.masks) (most16 k) (p ++ b) = (gs, p2, e2) from hs2)
        have h1 := hap.1 rfl
        rw [hs2] at h1
        rw [List.append_assoc] at h1
        have hB := Lg.feed_by hd h1
        simp only at hB
        have hall : feedFs k L (fs ++ gs) = ((feedFs k r.1 gs).1, r.2.1 ++ (feedFs k r.1 gs).2.1, (feedFs k r.1 gs).2.2) := by
          unfold feedFs at hr ⊢
          rw [List.foldl_append, ← hr, show r = (r.1, r.2.1, false) from by rw [← hst']]
          exact feedFold_out k gs r.1 r.2.1 false
        rw [feedFs_setp, hall] at hB
        rw [Lg.setp_setp, feedFs_setp] at hC
        simp only at hB hC
        rw [hB, hC]
        generalize feedFs k r.1 gs = t
        by_cases ht : t.2.2 = true
        · rw [if_pos ht, if_pos ht]
          exact ⟨⟨p2, e2, rfl⟩, rfl⟩
        · rw [if_neg ht, if_neg ht]
          by_cases he2 : e2 = 0
          · rw [if_neg (by rw [he2]; simp), if_neg (by rw [he2]; simp)]
            exact ⟨⟨p2, e2, rfl⟩, rfl⟩
          · rw [if_pos he2, if_pos he2]
            exact ⟨⟨_, _, (Lg.setp_self _).symm⟩, rfl⟩
      · -- a is wrong
        rw [if_pos he] at hA
        rw [hA]
        simp only
        rw [Lg.feed_down (Lg.fail_down k _ e he)]
        have h1 := hap.2 he
        rw [List.append_assoc] at h1
        obtain ⟨fs2, p2, e2, hs2⟩ : ∃ fs p e, scan (!k.masks) (most16 k) (L.part ++ (a ++ b)) = (fs, p, e) := ⟨_, _, _, rfl⟩
        have hB := Lg.feed_by hd hs2
        rw [hs2] at h1
        have q1 : fs2 = fs := congrArg Prod.fst h1
        have q3 : e2 = e := congrArg (fun x => x.2.2) h1
        subst q1 q3
        rw [feedFs_setp, ← hr] at hB
        simp only at hB
        rw [if_neg hst, if_pos he] at hB
        rw [hB]
        refine ⟨?_, by simp⟩
        simp only
        rw [Lg.fail_setp, Lg.fail_setp]
        exact ⟨p2, e2, rfl⟩
end Go.Proofs.YtlnabpoohnphiaaGreat
/- stream: plain laws on frames' bytes. -/
namespace Go.Proofs.YtlnabpoohnphiaaGreat
open Go.RowKit
set_option linter.unusedSimpArgs false
set_option linter.unusedVariables false

theorem slook_fput (mk : Bool) (most : Int) (f : Fr) (hf : f.good) (hc : form9 f = true) (hmk : f.masked = mk) (hd : (f.data.size : Int) ≤ most) (r : List Int) (hr : bytesIn r) : slook mk most (fput f ++ r) = (f, (fput f).length, 0) := by
  have hg := fget_fput f hf hc r most
  rw [if_neg (by omega)] at hg
  have hlen : 2 ≤ (fput f).length := by rw [fput_length]; exact size9_ge f
  have hb : bytesIn (fput f ++ r) := fun x hx => by
    rcases List.mem_append.1 hx with h | h
    · exact fput_bytes hf hc x h
    · exact hr x h
  unfold slook
  have h1 : ¬ (fget ((fput f ++ r).take 1) most).2.2 = 91 := fun h => by
    have hm := fget_mono (l := (fput f ++ r).take 1) (r := (fput f ++ r).drop 1) (by rw [List.take_append_drop]; exact hb) most (by rw [h]; decide)
    rw [List.take_append_drop, hg] at hm
    rw [← hm] at h
    cases h
  have h2 : decide (128 ≤ (fput f ++ r).getD 1 0) = mk := by
    obtain ⟨x, t, hl, _, hx⟩ := long9_head f
    have he : (fput f ++ r).getD 1 0 = x := by unfold fput; rw [hl]; rfl
    rw [he, ← hmk]
    cases hm : f.masked
    · exact decide_eq_false (fun h => by have := hx.1 h; rw [hm] at this; cases this)
    · exact decide_eq_true (hx.2 hm)
  rw [if_neg (fun h => h1 h.2), if_neg (fun h => h.2 h2), hg]
theorem scan_fput (mk : Bool) (most : Int) (f : Fr) (hf : f.good) (hc : form9 f = true) (hmk : f.masked = mk) (hd : (f.data.size : Int) ≤ most) (r : List Int) (hr : bytesIn r) (hl : (fput f ++ r).length ≤ maxLen) :
    scan mk most (fput f ++ r) = (f :: (scan mk most r).1, (scan mk most r).2) := by
  have hb : bytesIn (fput f ++ r) := fun x hx => by
    rcases List.mem_append.1 hx with h | h
    · exact fput_bytes hf hc x h
    · exact hr x h
  rw [scan_eq mk most _ hb hl, slook_fput mk most f hf hc hmk hd r hr]
  simp only [if_true]
  rw [List.drop_left]
theorem scan_nil (mk : Bool) (most : Int) : scan mk most [] = ([], [], 0) := rfl
theorem scan_split (mk : Bool) (most : Int) (a b c : List Int) (gs : List Fr) (hb : bytesIn (a ++ b ++ c)) (hl : (a ++ b ++ c).length ≤ maxLen) (h : scan mk most (a ++ b ++ c) = (gs, [], 0)) :
    ∃ fs2 part2 gs2, scan mk most (a ++ b) = (fs2, part2, 0) ∧ scan mk most (part2 ++ c) = (gs2, [], 0) ∧ fs2 ++ gs2 = gs := by
  obtain ⟨fs2, part2, e2, h1⟩ : ∃ fs2 part2 e2, scan mk most (a ++ b) = (fs2, part2, e2) := ⟨_, _, _, rfl⟩
  have hs := scan_append mk most (a ++ b).length (a ++ b) c (Nat.le_refl _) hb hl
  rw [h1, h] at hs
  simp only at hs
  by_cases he : e2 = 0
  · subst he
    obtain ⟨g2, p2, e3, h3⟩ : ∃ g2 p2 e3, scan mk most (part2 ++ c) = (g2, p2, e3) := ⟨_, _, _, rfl⟩
    have h4 := hs.1 rfl
    rw [h3] at h4
    simp only at h4
    injection h4 with h5 h6
    injection h6 with h7 h8
    subst h7 h8
    exact ⟨fs2, part2, g2, h1, h3, h5.symm⟩
  · have h4 := hs.2 he
    injection h4 with h5 h6
    injection h6 with h7 h8
    exact absurd h8.symm he

/-- Frames that a stream takes. -/
def fits (mk : Bool) (most : Int) (f : Fr) : Prop := f.good ∧ form9 f = true ∧ f.masked = mk ∧ (f.data.size : Int) ≤ most
theorem fits_in {mk : Bool} {most : Int} : ∀ (l : List Fr), (∀ f ∈ l, fits mk most f) → bytesIn (l.flatMap fput) := by
  intro l
  induction l with
  | nil => intro _ x hx; cases hx
  | cons f l ih =>
    intro h x hx
    simp only [List.flatMap_cons, List.mem_append] at hx
    rcases hx with hx | hx
    · obtain ⟨h1, h2, _⟩ := h f (by simp)
      exact fput_bytes h1 h2 x hx
    · exact ih (fun g hg => h g (by simp [hg])) x hx
theorem scan_puts {mk : Bool} {most : Int} : ∀ (l : List Fr), (∀ f ∈ l, fits mk most f) → (l.flatMap fput).length ≤ maxLen → scan mk most (l.flatMap fput) = (l, [], 0) := by
  intro l
  induction l with
  | nil => intro _ _; rfl
  | cons f l ih =>
    intro h hl
    obtain ⟨h1, h2, h3, h4⟩ := h f (by simp)
    simp only [List.flatMap_cons] at hl ⊢
    rw [scan_fput mk most f h1 h2 h3 h4 _ (fits_in l (fun g hg => h g (by simp [hg]))) hl, ih (fun g hg => h g (by simp [hg])) (by rw [List.length_append] at hl; omega)]
end Go.Proofs.YtlnabpoohnphiaaGreat
/- leg: what is still to go out; how many control frames wait; plain Lean. -/
namespace Go.Proofs.YtlnabpoohnphiaaGreat
open Go.RowKit
set_option linter.unusedSimpArgs false
set_option linter.unusedVariables false

/-- Frames as they go out from a draw on. -/
def mfr (mk : Bool) : List Fr → Int → List Fr
  | [], _ => []
  | f :: fs, d => (if mk then mask1 f (nd d) else f) :: mfr mk fs (if mk then nd d else d)
/-- The draw behind so many. -/
def mdr (mk : Bool) : List Fr → Int → Int
  | [], d => d
  | _ :: fs, d => mdr mk fs (if mk then nd d else d)
theorem mfr_append (mk : Bool) : ∀ (a b : List Fr) (d : Int), mfr mk (a ++ b) d = mfr mk a d ++ mfr mk b (mdr mk a d) := by
  intro a
  induction a with
  | nil => intro b d; rfl
  | cons f fs ih =>
    intro b d
    simp only [List.cons_append, mfr, mdr, ih]
def Ou.toGo (mk : Bool) (o : Ou) : List Int := o.ring ++ o.tail ++ (mfr mk (o.ctl ++ o.rest) o.draw).flatMap fputz
theorem Ou.push_toGo (M : Nat) (mk : Bool) (o : Ou) : (o.push M).toGo mk = o.toGo mk := by
  unfold Ou.push Ou.toGo
  simp only [List.append_assoc]
  congr 1
  rw [← List.append_assoc, List.take_append_drop]
theorem Ou.step_toGo {mk : Bool} {o o2 : Ou} (h : o.step mk = some o2) (ht : o.tail = []) : o2.toGo mk = o.toGo mk := by
  obtain ⟨r, t, c, s, d⟩ := o
  simp only at ht
  subst ht
  rcases c with _ | ⟨f, fs⟩
  · rcases s with _ | ⟨f, fs⟩
    · simp [Ou.step] at h
    · simp [Ou.step] at h
      subst h
      simp [Ou.toGo, mfr, Ou.fr, Ou.dr]
  · simp [Ou.step] at h
    subst h
    simp [Ou.toGo, mfr, Ou.fr, Ou.dr]
theorem Ou.moveN_toGo (M : Nat) (mk : Bool) : ∀ (n : Nat) (o : Ou), (o.moveN M mk n).toGo mk = o.toGo mk := by
  intro n
  induction n with
  | zero => intro o; exact Ou.push_toGo M mk o
  | succ n ih =>
    intro o
    unfold Ou.moveN
    split
    · rename_i ht
      rcases h : (o.push M).step mk with _ | o2
      · exact Ou.push_toGo M mk o
      · show (o2.moveN M mk n).toGo mk = _
        rw [ih, Ou.step_toGo h ht, Ou.push_toGo]
    · exact Ou.push_toGo M mk o
theorem Ou.move_toGo (M : Nat) (mk : Bool) (o : Ou) : (o.move M mk).toGo mk = o.toGo mk := Ou.moveN_toGo M mk _ o
theorem Lg.take_toGo (k : Lk) (L : Lg) (n : Int) : L.o.ring.take (pk n L.o.ring.length) ++ (L.take k n).o.toGo k.masks = L.o.toGo k.masks := by
  unfold Lg.take
  rw [Ou.move_toGo]
  unfold Ou.toGo
  simp only [← List.append_assoc, List.take_append_drop]
theorem Lg.quiet_nil {L : Lg} (h : L.quiet = true) : L.o.ring = [] ∧ L.o.tail = [] ∧ L.o.ctl = [] ∧ L.o.rest = [] := by
  unfold Lg.quiet at h
  simp only [Bool.and_eq_true, decide_eq_true_eq] at h
  exact ⟨List.eq_nil_of_length_eq_zero h.1.1.1, List.eq_nil_of_length_eq_zero h.1.1.2, List.eq_nil_of_length_eq_zero h.1.2, List.eq_nil_of_length_eq_zero h.2⟩
theorem Lg.quiet_toGo {L : Lg} {mk : Bool} (h : L.quiet = true) : L.o.toGo mk = [] := by
  obtain ⟨h1, h2, h3, h4⟩ := Lg.quiet_nil h
  unfold Ou.toGo
  rw [h1, h2, h3, h4]
  rfl
/-- Control frames that wait: at most a pong, and an end behind it. -/
structure Lg.tame (L : Lg) : Prop where
  two : L.o.ctl.length ≤ 2
  one : L.sent = false → L.o.ctl.length ≤ 1 ∧ ∀ f ∈ L.o.ctl, f.op = 10
theorem Lg.new_tame (m : Nat) (d : Int) : (Lg.new m d).tame := ⟨by show (0 : Nat) ≤ 2; omega, fun _ => ⟨by show (0 : Nat) ≤ 1; omega, fun f hf => (by cases hf)⟩⟩
theorem Ou.moveN_sub (M : Nat) (mk : Bool) : ∀ (n : Nat) (o : Ou), ∀ f ∈ (o.moveN M mk n).ctl, f ∈ o.ctl := by
  intro n
  induction n with
  | zero => intro o f hf; exact hf
  | succ n ih =>
    intro o f hf
    unfold Ou.moveN at hf
    split at hf
    · rcases h : (o.push M).step mk with _ | o2
      · rw [h] at hf
        exact hf
      · rw [h] at hf
        have h2 := ih o2 f hf
        obtain ⟨r, t, c, s, d⟩ := o
        rcases c with _ | ⟨g, gs⟩
        · rcases s with _ | ⟨g, gs⟩
          · simp [Ou.step, Ou.push] at h
          · simp [Ou.step, Ou.push] at h
            subst h
            exact h2
        · simp [Ou.step, Ou.push] at h
          subst h
          exact List.mem_cons_of_mem _ h2
    · exact hf
theorem Ou.move_sub (M : Nat) (mk : Bool) (o : Ou) : ∀ f ∈ (o.move M mk).ctl, f ∈ o.ctl := Ou.moveN_sub M mk _ o
theorem pidx_pong : ∀ (l : List Fr), (∀ f ∈ l, f.op = 10) → l ≠ [] → pidx l = 0 := by
  intro l h hn
  rcases l with _ | ⟨f, fs⟩
  · exact absurd rfl hn
  · have := h f List.mem_cons_self
    simp [pidx, this]
theorem Lg.tame.pong {L : Lg} (k : Lk) (h : L.tame) (d : ByteArray) : (L.pong k d).tame := by
  unfold Lg.pong
  by_cases hs : L.sent = true
  · rw [if_pos hs]
    exact h
  rw [if_neg hs]
  have hs' : L.sent = false := by cases h : L.sent; rfl; exact absurd h hs
  obtain ⟨h1, h2⟩ := h.one hs'
  have hp : (ponged L.o.ctl d).length ≤ 1 ∧ ∀ f ∈ ponged L.o.ctl d, f.op = 10 := by
    unfold ponged
    by_cases hc : L.o.ctl = []
    · rw [hc]
      exact ⟨by simp [pidx, ctlF], fun f hf => by simp [pidx, ctlF] at hf; rw [hf]⟩
    · rw [pidx_pong _ h2 hc]
      have : 0 < L.o.ctl.length := List.length_pos_iff.2 hc
      rw [if_pos this]
      refine ⟨by simp [setD]; exact h1, fun f hf => ?_⟩
      obtain ⟨j, hj, rfl⟩ := List.getElem_of_mem hf
      simp only [setD, List.getElem_modify]
      have hj2 : j < L.o.ctl.length := by simpa [setD] using hj
      split
      · exact h2 L.o.ctl[j] (List.getElem_mem hj2)
      · exact h2 L.o.ctl[j] (List.getElem_mem hj2)
  have hm := Ou.move_ctl k.out k.masks { L.o with ctl := ponged L.o.ctl d }
  refine ⟨by show ((_ : Ou).move k.out k.masks).ctl.length ≤ 2; exact Nat.le_trans hm (by show (ponged L.o.ctl d).length ≤ 2; omega), fun _ => ⟨Nat.le_trans hm hp.1, fun f hf => hp.2 f (Ou.move_sub _ _ _ f hf)⟩⟩
theorem Lg.tame.close {L : Lg} (k : Lk) (h : L.tame) (c : Int) (s : ByteArray) : (L.close k c s).1.tame := by
  unfold Lg.close
  by_cases hc : L.sent = true ∨ (cput c s).2 ≠ 0
  · rw [if_pos hc]
    exact h
  rw [if_neg hc]
  have hs' : L.sent = false := by
    cases hh : L.sent
    · rfl
    · exact absurd (.inl hh) hc
  obtain ⟨h1, h2⟩ := h.one hs'
  refine ⟨?_, fun h => (by cases h)⟩
  have hm := Ou.move_ctl k.out k.masks { ({ L.o with rest := [] } : Ou) with ctl := L.o.ctl ++ [ctlF 8 (cput c s).1] }
  refine Nat.le_trans hm ?_
  simp
  omega
theorem Lg.tame.fail {L : Lg} (k : Lk) (h : L.tame) (e : Int) : (L.fail k e).tame := Lg.tame.close (L := { L with wrong := e }) k ⟨h.two, h.one⟩ _ _
theorem Lg.tame.takeF {L : Lg} (k : Lk) (h : L.tame) (f : Fr) : (L.takeF k f).1.tame := by
  unfold Lg.takeF
  split
  · exact Lg.tame.fail (L := { L with m := (mtake L.m f).1 }) k ⟨h.two, h.one⟩ _
  split
  · exact Lg.tame.pong (L := { L with m := (mtake L.m f).1 }) k ⟨h.two, h.one⟩ _
  split
  · exact Lg.tame.close (L := { L with m := (mtake L.m f).1, got := true }) k ⟨h.two, h.one⟩ _ _
  · exact ⟨h.two, h.one⟩
theorem feedFold_tame (k : Lk) : ∀ (fs : List Fr) (s : Lg × List Ev × Bool), s.1.tame → (fs.foldl (feedStep k) s).1.tame := by
  intro fs
  induction fs with
  | nil => intro s h; exact h
  | cons f fs ih =>
    intro s h
    rw [List.foldl_cons]
    refine ih _ ?_
    unfold feedStep
    split
    · exact h
    · exact h.takeF k f
theorem Lg.tame.feed {L : Lg} (k : Lk) (h : L.tame) (b : List Int) : (L.feed k b).1.tame := by
  unfold Lg.feed
  have h0 : (L.fed k b).tame := ⟨h.two, h.one⟩
  have hf := feedFold_tame k (scan (!k.masks) (most16 k) (L.part ++ b)).1 (L.fed k b, [], false) h0
  split
  · exact h
  split
  · exact hf
  split
  · exact Lg.tame.fail k hf _
  · exact hf
theorem Lg.tame.take {L : Lg} (k : Lk) (h : L.tame) (n : Int) : (L.take k n).tame :=
  ⟨Nat.le_trans (Ou.move_ctl _ _ _) h.two, fun hs => ⟨Nat.le_trans (Ou.move_ctl _ _ _) (h.one hs).1, fun f hf => (h.one hs).2 f (Ou.move_sub k.out k.masks { L.o with ring := L.o.ring.drop (pk n L.o.ring.length) } f hf)⟩⟩
theorem Lg.tame.send {L : Lg} (k : Lk) (h : L.tame) (op : Int) (s : ByteArray) : (L.send k op s).1.tame := by
  unfold Lg.send
  split
  · exact ⟨Nat.le_trans (Ou.move_ctl _ _ _) h.two, fun hs => ⟨Nat.le_trans (Ou.move_ctl _ _ _) (h.one hs).1, fun f hf => (h.one hs).2 f (Ou.move_sub k.out k.masks { L.o with rest := cuts k op s } f hf)⟩⟩
  · exact h
/-- What always holds of a side that asks for no pongs. -/
structure Lg.fine (k : Lk) (L : Lg) : Prop where
  ok : L.ok k
  part : (L.part.length : Int) ≤ most16 k + 13
  most : L.m.most = k.message
  tame : L.tame
theorem Lg.new_fine (k : Lk) (d : Int) : (Lg.new k.message d).fine k := ⟨(Lg.new_okb k d 0).ok, (Lg.new_okb k d 0).part, rfl, Lg.new_tame _ _⟩
theorem Lg.fine.feed {k : Lk} {L : Lg} (h : L.fine k) (b : List Int) (hb : bytesIn b) (hl : L.part.length + b.length ≤ 1000000) : (L.feed k b).1.fine k := by
  have := Lg.feed_okb k 2 L ⟨h.ok, h.part, h.most, h.tame.two⟩ b hb hl
  exact ⟨this.ok, this.part, this.most, h.tame.feed k b⟩
theorem Lg.fine.take {k : Lk} {L : Lg} (h : L.fine k) (n : Int) : (L.take k n).fine k := ⟨⟨h.ok.bytes, h.ok.serr⟩, h.part, h.most, h.tame.take k n⟩
theorem Lg.fine.send {k : Lk} {L : Lg} (h : L.fine k) (op : Int) (s : ByteArray) : (L.send k op s).1.fine k := by
  have := (Lg.send_like k L op s).okb (n := 2) (m := 2) ⟨h.ok, h.part, h.most, h.tame.two⟩ (h.tame.send k op s).two
  exact ⟨this.ok, this.part, this.most, h.tame.send k op s⟩
theorem Lg.fine.close {k : Lk} {L : Lg} (h : L.fine k) (c : Int) (s : ByteArray) : (L.close k c s).1.fine k := by
  have := (Lg.close_like k L c s).okb (n := 2) (m := 2) ⟨h.ok, h.part, h.most, h.tame.two⟩ (h.tame.close k c s).two
  exact ⟨this.ok, this.part, this.most, h.tame.close k c s⟩
end Go.Proofs.YtlnabpoohnphiaaGreat
