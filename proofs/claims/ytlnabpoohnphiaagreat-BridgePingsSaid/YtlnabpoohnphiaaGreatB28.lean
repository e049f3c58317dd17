/- leg: the frames that went out, as they were put; plain Lean. -/
import Derived.Test.YtlnabpoohnphiaaGreatB27
/- leg: the frames that went out, as they were put; plain Lean. -/
namespace Go.Proofs.YtlnabpoohnphiaaGreat
open Go.RowKit
set_option linter.unusedSimpArgs false
set_option linter.unusedVariables false

theorem mdr_append (mk : Bool) : ∀ (a b : List Fr) (d : Int), mdr mk (a ++ b) d = mdr mk b (mdr mk a d) := by
  intro a
  induction a with
  | nil => intro b d; rfl
  | cons f fs ih => intro b d; simp only [List.cons_append, mdr, ih]
theorem mfr_snoc (mk : Bool) (a : List Fr) (f : Fr) (d : Int) : mfr mk (a ++ [f]) d = mfr mk a d ++ [if mk then mask1 f (nd (mdr mk a d)) else f] := by
  rw [mfr_append]
  rfl
/-- The bytes that went out, and those on their way, are those of these frames. -/
structure Hist (mk : Bool) (d0 : Int) (S : List Int) (o : Ou) (H : List Fr) : Prop where
  bytes : S ++ o.ring ++ o.tail = (mfr mk H d0).flatMap fputz
  draw : o.draw = mdr mk H d0
theorem Hist.push {mk : Bool} {d0 : Int} {S : List Int} {o : Ou} {H : List Fr} (M : Nat) (h : Hist mk d0 S o H) : Hist mk d0 S (o.push M) H := by
  refine ⟨?_, h.draw⟩
  rw [← h.bytes]
  unfold Ou.push
  simp only [List.append_assoc]
  rw [List.take_append_drop]
theorem Hist.step {mk : Bool} {d0 : Int} {S : List Int} {r : List Int} {c s : List Fr} {d : Int} {H : List Fr} (h : Hist mk d0 S ⟨r, [], c, s, d⟩ H) (f : Fr) (c2 s2 : List Fr) :
    Hist mk d0 S ⟨r, fputz (Ou.fr mk ⟨r, [], c, s, d⟩ f), c2, s2, Ou.dr mk ⟨r, [], c, s, d⟩⟩ (H ++ [f]) := by
  have hd : d = mdr mk H d0 := h.draw
  have hb : S ++ r ++ [] = (mfr mk H d0).flatMap fputz := h.bytes
  refine ⟨?_, ?_⟩
  · show S ++ r ++ fputz (Ou.fr mk ⟨r, [], c, s, d⟩ f) = _
    rw [mfr_snoc, List.flatMap_append, ← hb]
    simp only [List.flatMap_cons, List.flatMap_nil, List.append_nil, Ou.fr, ← hd]
  · show Ou.dr mk ⟨r, [], c, s, d⟩ = _
    rw [mdr_append]
    simp only [mdr, Ou.dr, ← hd]
theorem Hist.moveN {mk : Bool} {d0 : Int} {S : List Int} (M : Nat) : ∀ (n : Nat) (o : Ou) (H : List Fr), Hist mk d0 S o H → ∃ a b, Hist mk d0 S (o.moveN M mk n) (H ++ (a ++ b)) ∧ a ++ (o.moveN M mk n).ctl = o.ctl ∧ b ++ (o.moveN M mk n).rest = o.rest := by
  intro n
  induction n with
  | zero => intro o H h; exact ⟨[], [], (by show Hist mk d0 S (o.push M) (H ++ ([] ++ [])); rw [List.append_nil, List.append_nil]; exact h.push M), rfl, rfl⟩
  | succ n ih =>
    intro o H h
    have hp := h.push M
    unfold Ou.moveN
    split
    · rename_i ht
      rcases hs : (o.push M).step mk with _ | o2
      · exact ⟨[], [], by simpa using hp, rfl, rfl⟩
      · have hc : (o.push M).ctl = o.ctl := rfl
        have hr : (o.push M).rest = o.rest := rfl
        rw [← hc, ← hr]
        generalize o.push M = p at hp hs ht
        obtain ⟨r, t, c, s, d⟩ := p
        simp only at ht
        subst ht
        rcases c with _ | ⟨f, fs⟩
        · rcases s with _ | ⟨f, fs⟩
          · simp [Ou.step] at hs
          · simp only [Ou.step, Option.some.injEq] at hs
            subst hs
            obtain ⟨a, b, h1, h2, h3⟩ := ih _ _ (hp.step f [] fs)
            simp only [List.append_eq_nil_iff] at h2
            obtain ⟨ha, h2⟩ := h2
            subst ha
            refine ⟨[], f :: b, ?_, by simpa using h2, by rw [List.cons_append]; exact congrArg (f :: ·) h3⟩
            simpa using h1
        · simp only [Ou.step, Option.some.injEq] at hs
          subst hs
          obtain ⟨a, b, h1, h2, h3⟩ := ih _ _ (hp.step f fs s)
          refine ⟨f :: a, b, ?_, by rw [List.cons_append]; exact congrArg (f :: ·) h2, h3⟩
          simpa using h1
    · exact ⟨[], [], by simpa using hp, rfl, rfl⟩
theorem Hist.move {mk : Bool} {d0 : Int} {S : List Int} (M : Nat) {o : Ou} {H : List Fr} (h : Hist mk d0 S o H) : ∃ a b, Hist mk d0 S (o.move M mk) (H ++ (a ++ b)) ∧ a ++ (o.move M mk).ctl = o.ctl ∧ b ++ (o.move M mk).rest = o.rest := h.moveN M _ _ _
/-- A control frame that may wait. -/
structure okC (f : Fr) : Prop where
  op : f.op = 8 ∨ f.op = 9 ∨ f.op = 10
  eq : f = ctlF f.op f.data
  size : f.data.size ≤ 125
/-- A frame of a message. -/
structure okD (f : Fr) : Prop where
  op : f.op = 0 ∨ f.op = 1 ∨ f.op = 2
  good : f.good
  plain : f.masked = false ∧ f.key = [0, 0, 0, 0]
  size : f.data.size ≤ 256
def isD (f : Fr) : Bool := decide (f.op ≤ 2)
theorem okC.isD {f : Fr} (h : okC f) : isD f = false := decide_eq_false (by have := h.op; omega)
theorem okD.isD {f : Fr} (h : okD f) : isD f = true := decide_eq_true (by have := h.op; omega)
theorem okC.ctl {op : Int} (ho : op = 8 ∨ op = 9 ∨ op = 10) {d : ByteArray} (hd : d.size ≤ 125) : okC (ctlF op d) := ⟨ho, rfl, hd⟩
theorem filter_C {l : List Fr} (h : ∀ f ∈ l, okC f) : l.filter isD = [] := List.filter_eq_nil_iff.2 fun f hf => by rw [(h f hf).isD]; simp
theorem filter_D {l : List Fr} (h : ∀ f ∈ l, okD f) : l.filter isD = l := List.filter_eq_self.2 fun f hf => (h f hf).isD
/-- What went out and what waits: all: the frames of the messages that were sent; low: how many of these are out at least; n: how many pings wait at most; P: of the end's data. -/
structure Led (mk : Bool) (d0 : Int) (S : List Int) (o : Ou) (sent : Bool) (H all : List Fr) (low n : Nat) (P : ByteArray → Prop) : Prop where
  hist : Hist mk d0 S o H
  alld : ∀ f ∈ all, okD f
  ok : ∀ f ∈ H, okC f ∨ f ∈ all
  ctl : ∀ f ∈ o.ctl, okC f
  data : ∃ R, H.filter isD ++ o.rest ++ R = all ∧ (sent = false → R = [])
  low : low ≤ (H.filter isD).length
  none8 : sent = false → ∀ f ∈ H ++ o.ctl, f.op ≠ 8
  one8 : sent = true → o.rest = [] ∧ ∃ Z d, H ++ o.ctl = Z ++ [ctlF 8 d] ∧ (∀ f ∈ Z, f.op ≠ 8) ∧ P d
  n9 : o.ctl.countP (fun f => decide (f.op = 9)) ≤ n
  n10 : o.ctl.countP (fun f => decide (f.op = 10)) ≤ 1
  len : o.rest.length ≤ 257
section
variable {mk : Bool} {d0 : Int} {S : List Int} {o : Ou} {sent : Bool} {H all : List Fr} {low n : Nat} {P Q : ByteArray → Prop}
theorem Led.move (M : Nat) (h : Led mk d0 S o sent H all low n P) : ∃ H', Led mk d0 S (o.move M mk) sent H' all low n P := by
  obtain ⟨a, b, h1, h2, h3⟩ := h.hist.move M
  have ha : ∀ f ∈ a, okC f := fun f hf => h.ctl f (by rw [← h2]; exact List.mem_append_left _ hf)
  obtain ⟨R, hR, hR0⟩ := h.data
  have hb : ∀ f ∈ b, f ∈ all := fun f hf => by
    rw [← hR, ← h3]
    simp [hf]
  have hfil : (H ++ (a ++ b)).filter isD = H.filter isD ++ b := by
    rw [List.filter_append, List.filter_append, filter_C ha, filter_D (fun f hf => h.alld f (hb f hf)), List.nil_append]
  refine ⟨H ++ (a ++ b), h1, h.alld, ?_, ?_, ⟨R, ?_, hR0⟩, ?_, ?_, ?_, ?_, ?_, ?_⟩
  · intro f hf
    rcases List.mem_append.1 hf with hf | hf
    · exact h.ok f hf
    · rcases List.mem_append.1 hf with hf | hf
      · exact .inl (ha f hf)
      · exact .inr (hb f hf)
  · intro f hf
    exact h.ctl f (by rw [← h2]; exact List.mem_append_right _ hf)
  · rw [hfil, ← hR, ← h3]
    simp only [List.append_assoc]
  · rw [hfil, List.length_append]
    have := h.low
    omega
  · intro hs f hf
    rw [List.mem_append] at hf
    rcases hf with hf | hf
    · rcases List.mem_append.1 hf with hf | hf
      · exact h.none8 hs f (List.mem_append_left _ hf)
      · rcases List.mem_append.1 hf with hf | hf
        · exact h.none8 hs f (List.mem_append_right _ (by rw [← h2]; exact List.mem_append_left _ hf))
        · have := (h.alld f (hb f hf)).op
          omega
    · exact h.none8 hs f (List.mem_append_right _ (by rw [← h2]; exact List.mem_append_right _ hf))
  · intro hs
    obtain ⟨hr, Z, d, hz, hz8, hp⟩ := h.one8 hs
    rw [hr, List.append_eq_nil_iff] at h3
    refine ⟨h3.2, Z, d, ?_, hz8, hp⟩
    rw [h3.1, List.append_nil, List.append_assoc, h2]
    exact hz
  · refine Nat.le_trans ?_ h.n9
    conv => rhs; rw [← h2]
    rw [List.countP_append]
    omega
  · refine Nat.le_trans ?_ h.n10
    conv => rhs; rw [← h2]
    rw [List.countP_append]
    omega
  · have := h.len
    rw [← h3, List.length_append] at this
    omega
theorem Led.new (mk : Bool) (d0 : Int) (n : Nat) (P : ByteArray → Prop) : Led mk d0 [] ⟨[], [], [], [], d0⟩ false [] [] 0 n P :=
  ⟨⟨rfl, rfl⟩, fun f hf => (by cases hf), fun f hf => (by cases hf), fun f hf => (by cases hf), ⟨[], rfl, fun _ => rfl⟩, Nat.le_refl _, fun _ f hf => (by cases hf), fun h => (by cases h), Nat.zero_le _, Nat.zero_le _, Nat.zero_le _⟩
theorem Led.weak (h : Led mk d0 S o sent H all low n P) {m : Nat} (hm : n ≤ m) (hP : ∀ d, sent = true → P d → Q d) : Led mk d0 S o sent H all low m Q :=
  ⟨h.hist, h.alld, h.ok, h.ctl, h.data, h.low, h.none8, fun hs => by
    obtain ⟨h1, Z, d, h2, h3, h4⟩ := h.one8 hs
    exact ⟨h1, Z, d, h2, h3, hP d hs h4⟩, Nat.le_trans h.n9 hm, h.n10, h.len⟩
/-- Bytes are taken off the ring. -/
theorem Led.cut (h : Led mk d0 S o sent H all low n P) (p : Nat) : Led mk d0 (S ++ o.ring.take p) { o with ring := o.ring.drop p } sent H all low n P :=
  ⟨⟨by have := h.hist.bytes; rw [← this]; simp only [List.append_assoc]; congr 1; rw [← List.append_assoc, List.take_append_drop], h.hist.draw⟩, h.alld, h.ok, h.ctl, h.data, h.low, h.none8, h.one8, h.n9, h.n10, h.len⟩
/-- A message is put: the one ahead is on its way. -/
theorem Led.put (h : Led mk d0 S o sent H all low n P) (hs : sent = false) (hr : o.rest = []) (new : List Fr) (hn : ∀ f ∈ new, okD f) (hl : new.length ≤ 257) : Led mk d0 S { o with rest := new } sent H (all ++ new) all.length n P := by
  obtain ⟨R, hR, hR0⟩ := h.data
  rw [hR0 hs, hr, List.append_nil, List.append_nil] at hR
  refine ⟨⟨h.hist.bytes, h.hist.draw⟩, ?_, ?_, h.ctl, ⟨[], ?_, fun _ => rfl⟩, ?_, h.none8, fun h2 => ?_, h.n9, h.n10, hl⟩
  · intro f hf
    rcases List.mem_append.1 hf with hf | hf
    · exact h.alld f hf
    · exact hn f hf
  · intro f hf
    rcases h.ok f hf with h | h
    · exact .inl h
    · exact .inr (List.mem_append_left _ h)
  · rw [hR, List.append_nil]
  · rw [hR]
    exact Nat.le_refl _
  · rw [hs] at h2
    cases h2
/-- A control frame, no end, waits behind the others. -/
theorem Led.add (h : Led mk d0 S o sent H all low n P) (hs : sent = false) (cs : List Fr) (hc : ∀ f ∈ cs, okC f) (h8 : ∀ f ∈ cs, f.op ≠ 8) {m : Nat} (h9 : cs.countP (fun f => decide (f.op = 9)) ≤ m) (h10 : cs.countP (fun f => decide (f.op = 10)) ≤ 1) :
    Led mk d0 S { o with ctl := cs } sent H all low m P := by
  refine ⟨⟨h.hist.bytes, h.hist.draw⟩, h.alld, h.ok, hc, h.data, h.low, ?_, fun h2 => ?_, h9, h10, h.len⟩
  · intro _ f hf
    rcases List.mem_append.1 hf with hf | hf
    · exact h.none8 hs f (List.mem_append_left _ hf)
    · exact h8 f hf
  · rw [hs] at h2
    cases h2
/-- An end. -/
theorem Led.shut (h : Led mk d0 S o sent H all low n P) (hs : sent = false) (d : ByteArray) (hd : d.size ≤ 125) (hQ : Q d) : Led mk d0 S { o with rest := [], ctl := o.ctl ++ [ctlF 8 d] } true H all low n Q := by
  obtain ⟨R, hR, hR0⟩ := h.data
  refine ⟨⟨h.hist.bytes, h.hist.draw⟩, h.alld, h.ok, ?_, ⟨o.rest ++ R, ?_, fun h => (by cases h)⟩, h.low, fun h => (by cases h), fun _ => ⟨rfl, H ++ o.ctl, d, by simp only [List.append_assoc], h.none8 hs, hQ⟩, ?_, ?_, Nat.zero_le _⟩
  · intro f hf
    rcases List.mem_append.1 hf with hf | hf
    · exact h.ctl f hf
    · simp at hf
      rw [hf]
      exact okC.ctl (.inl rfl) hd
  · rw [← hR]
    simp only [List.append_assoc, List.append_nil, List.nil_append]
  · have := h.n9
    rw [List.countP_append]
    have h0 : [ctlF 8 d].countP (fun f => decide (f.op = 9)) = 0 := rfl
    omega
  · have := h.n10
    rw [List.countP_append]
    have h0 : [ctlF 8 d].countP (fun f => decide (f.op = 10)) = 0 := rfl
    omega
end
theorem countP_setD (p : Fr → Bool) (hp : ∀ f d, p { f with data := d } = p f) (l : List Fr) (i : Nat) (d : ByteArray) : (setD l i d).countP p = l.countP p := by
  unfold setD
  induction l generalizing i with
  | nil => cases i <;> rfl
  | cons f fs ih =>
    rcases i with _ | i
    · rw [List.modify_zero_cons, List.countP_cons, List.countP_cons, hp]
    · rw [List.modify_succ_cons, List.countP_cons, List.countP_cons, ih]
theorem setD_mem {l : List Fr} {i : Nat} {d : ByteArray} {f : Fr} (h : f ∈ setD l i d) : f ∈ l ∨ ∃ g ∈ l, f = { g with data := d } := by
  unfold setD at h
  obtain ⟨j, hj, rfl⟩ := List.mem_iff_getElem.1 h
  rw [List.getElem_modify]
  split
  · exact .inr ⟨_, List.getElem_mem _, rfl⟩
  · exact .inl (List.getElem_mem _)
theorem pidx_end {l : List Fr} (h : ¬ pidx l < l.length) : l.countP (fun f => decide (f.op = 10)) = 0 := by
  induction l with
  | nil => rfl
  | cons f fs ih =>
    by_cases hf : f.op = 10
    · exact absurd (by simp [pidx, hf]) h
    · have h2 : ¬ pidx fs < fs.length := fun h3 => h (by
        have : pidx (f :: fs) = pidx fs + 1 := by simp [pidx, hf]
        rw [this, List.length_cons]
        omega)
      rw [List.countP_cons, ih h2]
      simp [hf]
theorem ponged_led {l : List Fr} {d : ByteArray} (hd : d.size ≤ 125) (h : ∀ f ∈ l, okC f) : ∀ f ∈ ponged l d, okC f := by
  intro f hf
  unfold ponged at hf
  split at hf
  · rcases setD_mem hf with hf | ⟨g, hg, rfl⟩
    · exact h f hf
    · have hk := h g hg
      exact ⟨hk.op, by have := hk.eq; rw [this]; rfl, hd⟩
  · rcases List.mem_append.1 hf with hf | hf
    · exact h f hf
    · simp at hf
      rw [hf]
      exact okC.ctl (.inr (.inr rfl)) hd
theorem ponged_op {l : List Fr} {d : ByteArray} (h : ∀ f ∈ l, f.op ≠ 8) : ∀ f ∈ ponged l d, f.op ≠ 8 := by
  intro f hf
  unfold ponged at hf
  split at hf
  · rcases setD_mem hf with hf | ⟨g, hg, rfl⟩
    · exact h f hf
    · exact h g hg
  · rcases List.mem_append.1 hf with hf | hf
    · exact h f hf
    · simp at hf
      rw [hf]
      show (10 : Int) ≠ 8
      decide
theorem ponged_n (l : List Fr) (d : ByteArray) : (ponged l d).countP (fun f => decide (f.op = 9)) = l.countP (fun f => decide (f.op = 9)) ∧ (l.countP (fun f => decide (f.op = 10)) ≤ 1 → (ponged l d).countP (fun f => decide (f.op = 10)) ≤ 1) := by
  unfold ponged
  split
  · rw [countP_setD _ (fun _ _ => rfl), countP_setD _ (fun _ _ => rfl)]
    exact ⟨rfl, fun h => h⟩
  · rename_i hp
    have h0 := pidx_end hp
    rw [List.countP_append, List.countP_append, h0]
    exact ⟨rfl, fun _ => Nat.le_refl _⟩
theorem Led.frames {mk : Bool} {d0 : Int} {S : List Int} {o : Ou} {sent : Bool} {H all : List Fr} {low n : Nat} {P : ByteArray → Prop} (h : Led mk d0 S o sent H all low n P) : ∀ f ∈ o.ctl ++ o.rest, f.data.size ≤ 256 := by
  intro f hf
  rcases List.mem_append.1 hf with hf | hf
  · have := (h.ctl f hf).size
    omega
  · obtain ⟨R, hR, -⟩ := h.data
    exact (h.alld f (by rw [← hR]; simp [hf])).size
theorem Led.moved {mk : Bool} {d0 : Int} {S : List Int} {o : Ou} {sent : Bool} {H all : List Fr} {low n : Nat} {P : ByteArray → Prop} (M : Nat) (ht : o.tail.length ≤ 256 + 14) (h : Led mk d0 S o sent H all low n P) : ∃ H', Led mk d0 S (o.move M mk) sent H' all low n P ∧ (o.move M mk).sized 256 ∧ (o.move M mk).still M := by
  obtain ⟨H', h'⟩ := h.move M
  exact ⟨H', h', Ou.move_sized M mk ⟨h.frames, ht⟩, Ou.move_still _ _ _⟩
/-- A side, as it stands. -/
def LedL (k : Lk) (d0 : Int) (S : List Int) (L : Lg) (all : List Fr) (low n : Nat) (P : ByteArray → Prop) : Prop := ∃ H, Led k.masks d0 S L.o L.sent H all low n P ∧ L.o.sized 256 ∧ L.o.still k.out
section
variable {k : Lk} {d0 : Int} {S : List Int} {L : Lg} {all : List Fr} {low n : Nat} {P Q : ByteArray → Prop}
theorem LedL.new (k : Lk) (M : Nat) (d0 : Int) (n : Nat) (P : ByteArray → Prop) : LedL k d0 [] (Lg.new M d0) [] 0 n P := ⟨[], Led.new _ _ _ _, Lg.new_sized _ _ _, Lg.new_still k _ _⟩
theorem LedL.weak (h : LedL k d0 S L all low n P) {m : Nat} (hm : n ≤ m) (hP : ∀ d, L.sent = true → P d → Q d) : LedL k d0 S L all low m Q := by
  obtain ⟨H, h, hz, hst⟩ := h
  exact ⟨H, h.weak hm hP, hz, hst⟩
theorem LedL.take (h : LedL k d0 S L all low n P) (x : Int) : LedL k d0 (S ++ L.o.ring.take (pk x L.o.ring.length)) (L.take k x) all low n P := by
  obtain ⟨H, h, hz, hst⟩ := h
  exact (h.cut _).moved k.out hz.tail
theorem LedL.pong (h : LedL k d0 S L all low n P) {d : ByteArray} (hd : d.size ≤ 125) : LedL k d0 S (L.pong k d) all low n P := by
  unfold Lg.pong
  split
  · exact h
  · rename_i hs
    have hs' : L.sent = false := by simpa using hs
    obtain ⟨H, h, hz, hst⟩ := h
    obtain ⟨h9, h10⟩ := ponged_n L.o.ctl d
    exact (h.add hs' (ponged L.o.ctl d) (ponged_led hd h.ctl) (ponged_op fun f hf => h.none8 hs' f (List.mem_append_right _ hf)) (by rw [h9]; exact h.n9) (h10 h.n10)).moved k.out hz.tail
theorem LedL.ping (h : LedL k d0 S L all low n P) (d : ByteArray) : LedL k d0 S (L.ping k d).1 all low (n + 1) P := by
  unfold Lg.ping
  split
  · exact h.weak (Nat.le_succ _) (fun _ _ h => h)
  · rename_i hs
    have hs' : L.sent = false := by cases hb : L.sent with | false => rfl | true => exact absurd (.inl hb) hs
    have hd : d.size ≤ 125 := by
      rcases Nat.lt_or_ge 125 d.size with h | h
      · exact absurd (.inr (.inr (.inr h))) hs
      · exact h
    obtain ⟨H, h, hz, hst⟩ := h
    refine (h.add hs' (L.o.ctl ++ [ctlF 9 d]) ?_ ?_ ?_ ?_).moved k.out hz.tail
    · intro f hf
      rcases List.mem_append.1 hf with hf | hf
      · exact h.ctl f hf
      · simp at hf
        rw [hf]
        exact okC.ctl (.inr (.inl rfl)) hd
    · intro f hf
      rcases List.mem_append.1 hf with hf | hf
      · exact h.none8 hs' f (List.mem_append_right _ hf)
      · simp at hf
        rw [hf]
        show (9 : Int) ≠ 8
        decide
    · have := h.n9
      rw [List.countP_append]
      have h0 : [ctlF 9 d].countP (fun f => decide (f.op = 9)) = 1 := rfl
      omega
    · have := h.n10
      rw [List.countP_append]
      have h0 : [ctlF 9 d].countP (fun f => decide (f.op = 10)) = 0 := rfl
      omega
theorem cput_le (c : Int) (s : ByteArray) : (cput c s).1.size ≤ 125 := by
  by_cases h : (cput c s).2 = 0
  · rcases cput_size h with ⟨_, h⟩ | ⟨_, _, h, _⟩
    · rw [h]
      decide
    · exact h
  · rw [cput_no h]
    decide
theorem LedL.close (h : LedL k d0 S L all low n P) (c : Int) (s : ByteArray) (hQ : L.sent = false → (cput c s).2 = 0 → Q (cput c s).1) (hPQ : ∀ d, L.sent = true → P d → Q d) : LedL k d0 S (L.close k c s).1 all low n Q := by
  unfold Lg.close
  split
  · exact h.weak (Nat.le_refl _) hPQ
  · rename_i hs
    have hs' : L.sent = false := by cases hb : L.sent with | false => rfl | true => exact absurd (.inl hb) hs
    have he : (cput c s).2 = 0 := Decidable.byContradiction fun h => hs (.inr h)
    obtain ⟨H, h, hz, hst⟩ := h
    exact (h.shut hs' _ (cput_le c s) (hQ hs' he)).moved k.out hz.tail
theorem cutD {op : Int} (hop : op = 1 ∨ op = 2) (k : Lk) (hf : k.frame ≤ 256) (s : ByteArray) (hs : s.size ≤ maxLen) : ∀ f ∈ cuts k op s, okD f := by
  intro f hf2
  have hg := cutFs_good hop s hs k.frame _ f hf2
  have hz := cutFs_size op s k.frame _ f hf2
  unfold cuts cutFs at hf2
  obtain ⟨i, _, rfl⟩ := List.mem_map.1 hf2
  refine ⟨?_, hg, ⟨rfl, rfl⟩, by omega⟩
  by_cases h0 : i = 0
  · subst h0
    exact .inr hop
  · exact .inl (if_neg h0)
theorem LedL.send (h : LedL k d0 S L all low n P) (op : Int) (s : ByteArray) (hf1 : 1 ≤ k.frame) (hf2 : k.frame ≤ 256) (hm : k.message ≤ 256) :
    ((L.send k op s).2 = true → (op = 1 ∨ op = 2) ∧ s.size ≤ k.message ∧ LedL k d0 S (L.send k op s).1 (all ++ cuts k op s) all.length n P) ∧ ((L.send k op s).2 = false → (L.send k op s).1 = L) := by
  unfold Lg.send
  split
  · rename_i hc
    refine ⟨fun _ => ⟨hc.2.1, hc.2.2, ?_⟩, fun h => (by cases h)⟩
    have hfr := hc.1
    unfold Lg.free at hfr
    simp only [Bool.and_eq_true, Bool.not_eq_true', decide_eq_true_eq] at hfr
    obtain ⟨H, h, hz, hst⟩ := h
    obtain ⟨m, -, -, -, hm2, -, -, hl⟩ := cuts_len k hf1 (by omega) s (by omega)
    have hll : (cuts k op s).length ≤ 257 := by
      have : (cuts k op s).length = (cuts k 2 s).length := by simp [cuts, cutFs]
      omega
    exact (h.put hfr.1.1.1 (List.eq_nil_of_length_eq_zero hfr.2) _ (cutD hc.2.1 k hf2 s (by unfold maxLen; omega)) hll).moved k.out hz.tail
  · exact ⟨fun h => (by cases h), fun _ => rfl⟩
end
end Go.Proofs.YtlnabpoohnphiaaGreat
