/- leg: what is to go out goes out; plain Lean. -/
import Derived.Test.YtpadlcllcmodaaaY44
namespace Go.Proofs.Ytpadlcllcmodaaa
open Go.RowKit
set_option linter.unusedSimpArgs false
set_option linter.unusedVariables false

def Ou.wt (o : Ou) : Nat := o.ring.length + o.tail.length + (o.ctl.map (fun f => f.data.size + 15)).sum + (o.rest.map (fun f => f.data.size + 15)).sum
/-- As it is behind move. -/
structure Ou.still (M : Nat) (o : Ou) : Prop where
  full : o.tail ≠ [] → M ≤ o.ring.length
  done : o.tail = [] → o.ctl = [] ∧ o.rest = []
structure Ou.sized (D : Nat) (o : Ou) : Prop where
  frames : ∀ f ∈ o.ctl ++ o.rest, f.data.size ≤ D
  tail : o.tail.length ≤ D + 14
theorem Ou.push_wt (M : Nat) (o : Ou) : (o.push M).wt = o.wt := by
  unfold Ou.push Ou.wt
  simp only [List.length_append, List.length_take, List.length_drop]
  omega
theorem Ou.push_full (M : Nat) (o : Ou) (h : (o.push M).tail ≠ []) : M ≤ (o.push M).ring.length := by
  have : 0 < ((o.push M).tail).length := List.length_pos_iff.2 h
  unfold Ou.push at this ⊢
  simp only [List.length_append, List.length_take, List.length_drop] at this ⊢
  omega
theorem Ou.fr_size (mk : Bool) (o : Ou) (f : Fr) : (o.fr mk f).data.size = f.data.size := by
  unfold Ou.fr
  split <;> rfl
theorem fputz_len (f : Fr) : (fputz f).length ≤ f.data.size + 14 := by
  unfold fputz
  split
  · rw [fput_length]
    exact size9_le f
  · simp
theorem Ou.step_wt {mk : Bool} {o o2 : Ou} (h : o.step mk = some o2) (ht : o.tail = []) : o2.wt + 1 ≤ o.wt := by
  obtain ⟨r, t, c, s, d⟩ := o
  rcases c with _ | ⟨f, fs⟩
  · rcases s with _ | ⟨f, fs⟩
    · simp [Ou.step] at h
    · simp [Ou.step] at h
      subst h
      have h1 := fputz_len (Ou.fr mk ⟨r, t, [], f :: fs, d⟩ f)
      rw [Ou.fr_size] at h1
      simp only [Ou.wt, List.map_cons, List.sum_cons] at h1 ⊢
      omega
  · simp [Ou.step] at h
    subst h
    have h1 := fputz_len (Ou.fr mk ⟨r, t, f :: fs, s, d⟩ f)
    rw [Ou.fr_size] at h1
    simp only [Ou.wt, List.map_cons, List.sum_cons] at h1 ⊢
    omega
theorem Ou.moveN_wt (M : Nat) (mk : Bool) : ∀ (n : Nat) (o : Ou), (o.moveN M mk n).wt ≤ o.wt := by
  intro n
  induction n with
  | zero => intro o; exact Nat.le_of_eq (Ou.push_wt M o)
  | succ n ih =>
    intro o
    unfold Ou.moveN
    split
    · rename_i ht
      rcases h : (o.push M).step mk with _ | o2
      · exact Nat.le_of_eq (Ou.push_wt M o)
      · have := Ou.step_wt h ht
        rw [Ou.push_wt] at this
        have := ih o2
        show (o2.moveN M mk n).wt ≤ _
        omega
    · exact Nat.le_of_eq (Ou.push_wt M o)
theorem Ou.move_wt (M : Nat) (mk : Bool) (o : Ou) : (o.move M mk).wt ≤ o.wt := Ou.moveN_wt M mk _ o
theorem Ou.left_zero {o : Ou} (h : o.left = 0) : o.ctl = [] ∧ o.rest = [] := by
  unfold Ou.left at h
  exact ⟨List.eq_nil_of_length_eq_zero (by omega), List.eq_nil_of_length_eq_zero (by omega)⟩
theorem Ou.moveN_still (M : Nat) (mk : Bool) : ∀ (n : Nat) (o : Ou), o.left ≤ n → (o.moveN M mk n).still M := by
  intro n
  induction n with
  | zero =>
    intro o h
    exact ⟨Ou.push_full M o, fun _ => Ou.left_zero (o := o.push M) (by rw [Ou.push_left]; omega)⟩
  | succ n ih =>
    intro o h
    unfold Ou.moveN
    split
    · rename_i ht
      rcases hs : (o.push M).step mk with _ | o2
      · exact ⟨Ou.push_full M o, fun _ => Ou.left_zero (Ou.step_none.1 hs)⟩
      · have := Ou.step_left hs
        rw [Ou.push_left] at this
        exact ih o2 (by omega)
    · rename_i ht
      exact ⟨Ou.push_full M o, fun h => absurd h ht⟩
theorem Ou.move_still (M : Nat) (mk : Bool) (o : Ou) : (o.move M mk).still M := Ou.moveN_still M mk _ o (Nat.le_refl _)
theorem Ou.step_sized {D : Nat} {mk : Bool} {o o2 : Ou} (h : o.step mk = some o2) (hs : o.sized D) : o2.sized D := by
  obtain ⟨r, t, c, s, d⟩ := o
  rcases c with _ | ⟨f, fs⟩
  · rcases s with _ | ⟨f, fs⟩
    · simp [Ou.step] at h
    · simp [Ou.step] at h
      subst h
      have h1 := fputz_len (Ou.fr mk ⟨r, t, [], f :: fs, d⟩ f)
      rw [Ou.fr_size] at h1
      have h2 := hs.frames f (by simp)
      exact ⟨fun x hx => hs.frames x (by simp at hx ⊢; exact .inr hx), by show List.length (fputz _) ≤ _; omega⟩
  · simp [Ou.step] at h
    subst h
    have h1 := fputz_len (Ou.fr mk ⟨r, t, f :: fs, s, d⟩ f)
    rw [Ou.fr_size] at h1
    have h2 := hs.frames f (by simp)
    exact ⟨fun x hx => hs.frames x (by simp at hx ⊢; exact .inr hx), by show List.length (fputz _) ≤ _; omega⟩
theorem Ou.push_sized {D : Nat} (M : Nat) {o : Ou} (hs : o.sized D) : (o.push M).sized D :=
  ⟨hs.frames, by have := hs.tail; show (o.tail.drop _).length ≤ _; rw [List.length_drop]; omega⟩
theorem Ou.moveN_sized {D : Nat} (M : Nat) (mk : Bool) : ∀ (n : Nat) (o : Ou), o.sized D → (o.moveN M mk n).sized D := by
  intro n
  induction n with
  | zero => intro o h; exact Ou.push_sized M h
  | succ n ih =>
    intro o h
    unfold Ou.moveN
    split
    · rcases hs : (o.push M).step mk with _ | o2
      · exact Ou.push_sized M h
      · exact ih o2 (Ou.step_sized hs (Ou.push_sized M h))
    · exact Ou.push_sized M h
theorem Ou.move_sized {D : Nat} (M : Nat) (mk : Bool) {o : Ou} (h : o.sized D) : (o.move M mk).sized D := Ou.moveN_sized M mk _ o h
/-- A side that isn't quiet has something in its ring; Take takes of it. -/
theorem Lg.take_down (k : Lk) (L : Lg) (hst : L.o.still k.out) (hk : 1 ≤ k.out) (hq : L.quiet = false) (n : Int) (hn : 1 ≤ n) : (L.take k n).o.wt + 1 ≤ L.o.wt := by
  have hr : 1 ≤ L.o.ring.length := by
    by_cases ht : L.o.tail = []
    · obtain ⟨h1, h2⟩ := hst.done ht
      unfold Lg.quiet at hq
      rw [ht, h1, h2] at hq
      simp at hq
      have : 0 < L.o.ring.length := List.length_pos_iff.2 hq
      omega
    · have := hst.full ht
      omega
  have hp : 1 ≤ pk n L.o.ring.length := by unfold pk; omega
  have hp2 := pk_le n L.o.ring.length
  have := Ou.move_wt k.out k.masks { L.o with ring := L.o.ring.drop (pk n L.o.ring.length) }
  refine Nat.le_trans (Nat.add_le_add_right this 1) ?_
  unfold Ou.wt
  simp only [List.length_drop]
  omega
theorem Lg.take_still (k : Lk) (L : Lg) (n : Int) : (L.take k n).o.still k.out := Ou.move_still _ _ _
theorem Lg.quiet_zero {L : Lg} (h : L.o.wt = 0) : L.quiet = true := by
  unfold Ou.wt at h
  have h1 : L.o.ctl = [] := by
    rcases hc : L.o.ctl with _ | ⟨f, fs⟩
    · rfl
    · rw [hc] at h
      simp at h
  have h2 : L.o.rest = [] := by
    rcases hc : L.o.rest with _ | ⟨f, fs⟩
    · rfl
    · rw [hc] at h
      simp at h
  unfold Lg.quiet
  rw [h1, h2]
  simp
  constructor
  · exact List.eq_nil_of_length_eq_zero (by omega)
  · exact List.eq_nil_of_length_eq_zero (by omega)
theorem Lg.new_still (k : Lk) (m : Nat) (d : Int) : (Lg.new m d).o.still k.out := ⟨fun h => absurd rfl h, fun _ => ⟨rfl, rfl⟩⟩
theorem Lg.new_sized (D m : Nat) (d : Int) : (Lg.new m d).o.sized D := ⟨fun f hf => (by cases hf), Nat.zero_le _⟩
theorem Lg.send_still (k : Lk) (L : Lg) (op : Int) (s : ByteArray) (h : L.o.still k.out) : (L.send k op s).1.o.still k.out := by
  unfold Lg.send
  split
  · exact Ou.move_still _ _ _
  · exact h
theorem Lg.close_still (k : Lk) (L : Lg) (c : Int) (s : ByteArray) (h : L.o.still k.out) : (L.close k c s).1.o.still k.out := by
  unfold Lg.close
  split
  · exact h
  · exact Ou.move_still _ _ _
theorem cutFs_size (op : Int) (s : ByteArray) (most n : Nat) : ∀ f ∈ cutFs op s most n, f.data.size ≤ most := by
  intro f hf
  unfold cutFs at hf
  obtain ⟨i, _, rfl⟩ := List.mem_map.1 hf
  show (s.extract _ _).size ≤ most
  rw [ByteArray.size_extract]
  omega
theorem Lg.send_sized {D : Nat} (k : Lk) (L : Lg) (op : Int) (s : ByteArray) (hk : k.frame ≤ D) (h : L.o.sized D) : (L.send k op s).1.o.sized D := by
  unfold Lg.send
  split
  · refine Ou.move_sized _ _ ⟨fun f hf => ?_, h.tail⟩
    rcases List.mem_append.1 hf with hf | hf
    · exact h.frames f (List.mem_append.2 (.inl hf))
    · have := cutFs_size op s k.frame _ f hf
      omega
  · exact h
theorem Lg.take_sized {D : Nat} (k : Lk) (L : Lg) (n : Int) (h : L.o.sized D) : (L.take k n).o.sized D := Ou.move_sized _ _ ⟨h.frames, h.tail⟩
end Go.Proofs.Ytpadlcllcmodaaa
