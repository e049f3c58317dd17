/- leg: whatever comes, what goes out is as it must be; plain Lean. -/
import Derived.Test.YtlnabpoohnphiaaGreatB28
/- leg: whatever comes, what goes out is as it must be; plain Lean. -/
namespace Go.Proofs.YtlnabpoohnphiaaGreat
open Go.RowKit
set_option linter.unusedSimpArgs false
set_option linter.unusedVariables false

/-- What may be wrong. -/
def okE (e : Int) : Prop := e = 91 ∨ e = 92 ∨ e = 100 ∨ e = 110 ∨ e = 111 ∨ e = 120 ∨ e = 121 ∨ e = 122
theorem okE_120 : okE 120 := by unfold okE; omega
theorem okE_121 : okE 121 := by unfold okE; omega
theorem okE_122 : okE 122 := by unfold okE; omega
theorem okE.ne {e : Int} (h : okE e) : e ≠ 0 := by unfold okE at h; omega
theorem scan_errs (mk : Bool) (most : Int) : ∀ l, (scan mk most l).2.2 = 0 ∨ okE (scan mk most l).2.2 := by
  have key : ∀ (n : Nat) (l : List Int), (scanF mk most n l).2.2 = 0 ∨ okE (scanF mk most n l).2.2 := by
    intro n
    induction n with
    | zero => intro l; exact .inl rfl
    | succ n ih =>
      intro l
      unfold scanF
      split
      · exact ih _
      split
      · exact .inl rfl
      · rename_i h0 h1
        right
        show okE (slook mk most l).2.2
        unfold okE
        have := slook_errs mk most l
        omega
  exact fun l => key _ l
theorem cget_errs (d : ByteArray) : (cget d).2.2 = 0 ∨ (cget d).2.2 = 110 ∨ (cget d).2.2 = 111 := by
  unfold cget
  split
  · exact .inl rfl
  split
  · exact .inr (.inl rfl)
  split
  · exact .inr (.inl rfl)
  split
  · exact .inr (.inr rfl)
  · exact .inl rfl
/-- What always holds of a side's machine. -/
structure Mc.fair (c : Mc) : Prop where
  good : c.good
  err : c.err = 0 ∨ okE c.err
theorem Mc.new_fair (most : Int) (h1 : 1 ≤ most) (h2 : most ≤ 1048576) : (Mc.new most).fair := ⟨Mc.new_good most h1 h2, .inl rfl⟩
theorem mgo_errs {c : Mc} (h : c.err = 0 ∨ okE c.err) (f : Fr) : ((mgo c f).1.err = 0 ∨ okE (mgo c f).1.err) ∧ ((mgo c f).2.2.2 = 0 ∨ okE (mgo c f).2.2.2) := by
  unfold mgo
  repeat' split
  all_goals first | exact ⟨h, .inl rfl⟩ | exact ⟨.inl rfl, .inl rfl⟩ | exact ⟨.inr okE_121, .inr okE_121⟩ | exact ⟨.inr okE_122, .inr okE_122⟩
theorem mtake_errs {c : Mc} (h : c.err = 0 ∨ okE c.err) (f : Fr) : ((mtake c f).1.err = 0 ∨ okE (mtake c f).1.err) ∧ ((mtake c f).2.2.2 = 0 ∨ okE (mtake c f).2.2.2) := by
  unfold mtake
  split
  · exact ⟨h, h⟩
  split
  · exact ⟨h, .inl rfl⟩
  split
  · exact ⟨.inr okE_120, .inr okE_120⟩
  split
  · unfold mend
    split
    · exact ⟨.inl rfl, .inl rfl⟩
    · have := cget_errs f.data
      have h2 : okE (cget f.data).2.2 := by unfold okE; omega
      exact ⟨.inr h2, .inr h2⟩
  split
  · exact ⟨h, .inl rfl⟩
  · unfold mdata
    split
    · split
      · exact ⟨.inr okE_120, .inr okE_120⟩
      · exact mgo_errs h f
    · split
      · exact mgo_errs (c := { c with op := f.op, u := Uc.new }) h f
      · exact ⟨.inr okE_120, .inr okE_120⟩
theorem mgo_op (c : Mc) (f : Fr) : (mgo c f).2.1.op = 0 ∨ (mgo c f).2.1.op = c.op := by
  unfold mgo
  repeat' split
  all_goals first | exact .inl rfl | exact .inr rfl
/-- What a ping bears is short. -/
theorem mtake_ping {c : Mc} (hg : c.good) (f : Fr) (h9 : (mtake c f).2.1.op = 9) : (mtake c f).2.1.data.size ≤ 125 := by
  unfold mtake at h9 ⊢
  split at h9
  · cases h9
  split at h9
  · cases h9
  split at h9
  · cases h9
  split at h9
  · unfold mend at h9
    split at h9 <;> cases h9
  split at h9
  · rename_i e1 e2 h91 h8 hc
    rw [if_neg e1, if_neg e2, if_neg h91, if_neg h8, if_pos hc]
    have hf : form9 f = true := by
      by_cases hf : form9 f = true
      · exact hf
      · exact absurd (by unfold check9; rw [if_neg hf]) h91
    unfold form9 at hf
    have h9' : f.op = 9 := h9
    simp only [Bool.and_eq_true, hc, Bool.true_and, Bool.not_eq_true', Bool.or_eq_false_iff, decide_eq_false_iff_not] at hf
    show f.data.size ≤ 125
    omega
  · rename_i hc
    exfalso
    have hop := hg.op
    have hc' : ¬ (8 ≤ f.op ∧ f.op ≤ 10) := by simpa [control9] using hc
    unfold mdata at h9
    split at h9
    · split at h9
      · cases h9
      · have := mgo_op c f
        omega
    · split at h9
      · have := mgo_op { c with op := f.op, u := Uc.new } f
        have h2 : ({ c with op := f.op, u := Uc.new } : Mc).op = f.op := rfl
        omega
      · cases h9
theorem feedFold_inv (k : Lk) (I : Lg → Prop) (htake : ∀ L f, I L → L.down = false → I (L.takeF k f).1) : ∀ (fs : List Fr) (s : Lg × List Ev × Bool), I s.1 → s.2.2 = s.1.down →
    I (fs.foldl (feedStep k) s).1 ∧ (fs.foldl (feedStep k) s).2.2 = (fs.foldl (feedStep k) s).1.down := by
  intro fs
  induction fs with
  | nil => intro s h1 h2; exact ⟨h1, h2⟩
  | cons f fs ih =>
    intro s h1 h2
    rw [List.foldl_cons]
    unfold feedStep
    by_cases hs : s.2.2 = true
    · rw [if_pos hs]
      exact ih s h1 h2
    · rw [if_neg hs]
      refine ih _ (htake s.1 f h1 ?_) rfl
      rw [← h2]
      simpa using hs
/-- Whatever holds of a side, and is kept by each frame, and by what is wrong, is kept by bytes. -/
theorem feed_inv (k : Lk) (I : Lg → Prop) (hset : ∀ (L : Lg) p e, I L → I { L with part := p, serr := e }) (htake : ∀ L f, I L → L.down = false → I (L.takeF k f).1)
    (hfail : ∀ L e, I L → L.down = false → okE e → I (L.fail k e)) (L : Lg) (h : I L) (b : List Int) : I (L.feed k b).1 := by
  unfold Lg.feed
  by_cases hd : L.down = true
  · rw [if_pos hd]
    exact h
  rw [if_neg hd]
  have hd' : L.down = false := by simpa using hd
  obtain ⟨h1, h2⟩ := feedFold_inv k I htake (scan (!k.masks) (most16 k) (L.part ++ b)).1 (L.fed k b, [], false) (hset L _ _ h) hd'.symm
  change I (feedFs k (L.fed k b) (scan (!k.masks) (most16 k) (L.part ++ b)).1).1 at h1
  change (feedFs k (L.fed k b) (scan (!k.masks) (most16 k) (L.part ++ b)).1).2.2 = (feedFs k (L.fed k b) (scan (!k.masks) (most16 k) (L.part ++ b)).1).1.down at h2
  split
  · exact h1
  · rename_i hr
    split
    · rename_i he
      refine hfail _ _ h1 (by rw [← h2]; simpa using hr) ?_
      rcases scan_errs (!k.masks) (most16 k) (L.part ++ b) with h | h
      · exact absurd h he
      · exact h
    · exact h1
section
variable {k : Lk} {d0 : Int} {S : List Int} {all : List Fr} {low n : Nat}
/-- For what is said: nothing is asked of an end. -/
structure SaysI (k : Lk) (d0 : Int) (S : List Int) (all : List Fr) (low n : Nat) (L : Lg) : Prop where
  fair : L.m.fair
  led : LedL k d0 S L all low n (fun _ => True)
theorem SaysI.feed {L : Lg} (h : SaysI k d0 S all low n L) (b : List Int) : SaysI k d0 S all low n (L.feed k b).1 := by
  refine feed_inv k (SaysI k d0 S all low n) (fun L p e h => ⟨h.fair, h.led⟩) (fun L f h hd => ?_) (fun L e h hd he => ?_) L h b
  · have hk := (Lg.takeF_keeps k L f).2.2
    refine ⟨by rw [hk]; exact ⟨mtake_good h.fair.good f, (mtake_errs h.fair.err f).1⟩, ?_⟩
    unfold Lg.takeF
    split
    · exact LedL.close (L := { L with m := (mtake L.m f).1, wrong := (mtake L.m f).2.2.2 }) (P := fun _ => True) h.led _ _ (fun _ _ => trivial) (fun _ _ _ => trivial)
    split
    · rename_i hp
      exact LedL.pong (L := { L with m := (mtake L.m f).1 }) h.led (mtake_ping h.fair.good f hp.2)
    split
    · exact LedL.close (L := { L with m := (mtake L.m f).1, got := true }) (P := fun _ => True) h.led _ _ (fun _ _ => trivial) (fun _ _ _ => trivial)
    · exact h.led
  · have hk := Lg.fail_keeps k L e
    exact ⟨by rw [hk.2.2]; exact h.fair, LedL.close (L := { L with wrong := e }) (P := fun _ => True) h.led _ _ (fun _ _ => trivial) (fun _ _ _ => trivial)⟩
theorem Lg.send_m (k : Lk) (L : Lg) (op : Int) (s : ByteArray) : (L.send k op s).1.m = L.m := (Lg.send_like k L op s).m
/-- The code of an end. -/
def codeAt (d : ByteArray) : Int := if d.size < 2 then 0 else codeOf d
/-- What an end must say. -/
structure EndC (wrong : Int) (got : Bool) (d : ByteArray) : Prop where
  fine : wrong = 0 → got = true ∧ codeAt d ≠ 1005 ∧ codeAt d ≠ 1006 ∧ codeAt d ≠ 1015
  bad : wrong ≠ 0 → codeAt d = code11 wrong
theorem codeAt_valid {c : Int} (h : valid11 c = true) : codeAt (cput c ⟨#[]⟩).1 = c := by
  rw [valid11_put h]
  have hv : 0 ≤ c ∧ c ≤ 65535 := by
    unfold valid11 at h
    have := of_decide_eq_true h
    omega
  unfold codeAt
  rw [size_two, if_neg (by omega), code_two _ _ (by omega) (by omega)]
  omega
theorem codeAt_across (n : Int) : codeAt (cput (across11 n) ⟨#[]⟩).1 ≠ 1005 ∧ codeAt (cput (across11 n) ⟨#[]⟩).1 ≠ 1006 ∧ codeAt (cput (across11 n) ⟨#[]⟩).1 ≠ 1015 := by
  have hv : ∀ c, valid11 c = true → c ≠ 1005 ∧ c ≠ 1006 ∧ c ≠ 1015 := fun c h => by
    unfold valid11 at h
    have := of_decide_eq_true h
    omega
  unfold across11
  split
  · have : (cput 0 ⟨#[]⟩).1 = ⟨#[]⟩ := rfl
    rw [this]
    decide
  split
  · rename_i h
    rw [codeAt_valid h]
    exact hv n h
  · rw [codeAt_valid (by decide)]
    decide
/-- For ends: none is sent but by what came. -/
structure EndsI (k : Lk) (d0 : Int) (S : List Int) (all : List Fr) (low n : Nat) (L : Lg) : Prop where
  fair : L.m.fair
  led : LedL k d0 S L all low n (EndC L.wrong L.got)
  sent : L.sent = L.down
  err : L.wrong = 0 ∨ okE L.wrong
theorem Lg.close_sent (k : Lk) (L : Lg) (c : Int) (s : ByteArray) (h : (cput c s).2 = 0) : (L.close k c s).1.sent = true := by
  unfold Lg.close
  split
  · rename_i hs
    rcases hs with hs | hs
    · exact hs
    · exact absurd h hs
  · rfl
theorem EndsI.fail {L : Lg} (h : EndsI k d0 S all low n L) (hd : L.down = false) {e : Int} (he : okE e) : EndsI k d0 S all low n (L.fail k e) := by
  have hk := Lg.fail_keeps k L e
  have hsame := Lg.close_same k ({ L with wrong := e } : Lg) (code11 e) ⟨#[]⟩
  have hw : (L.fail k e).wrong = e := hsame.2
  have hgt : (L.fail k e).got = L.got := hsame.1
  have hs : L.sent = false := by rw [h.sent]; exact hd
  refine ⟨by rw [hk.2.2]; exact h.fair, ?_, ?_, by rw [hw]; exact .inr he⟩
  · rw [hw, hgt]
    refine LedL.close (L := { L with wrong := e }) h.led _ _ (fun _ _ => ⟨fun h0 => absurd h0 he.ne, fun _ => codeAt_valid (code11_valid e)⟩) (fun d hs2 _ => ?_)
    have : L.sent = true := hs2
    rw [hs] at this
    cases this
  · rw [Lg.fail_down k L e he.ne]
    exact Lg.close_sent k _ _ _ (by rw [valid11_put (code11_valid e)])
theorem EndsI.setm {L : Lg} (h : EndsI k d0 S all low n L) {m : Mc} (hm : m.fair) : EndsI k d0 S all low n { L with m := m } := ⟨hm, h.led, h.sent, h.err⟩
theorem EndsI.feed {L : Lg} (h : EndsI k d0 S all low n L) (b : List Int) : EndsI k d0 S all low n (L.feed k b).1 := by
  refine feed_inv k (EndsI k d0 S all low n) (fun L p e h => ⟨h.fair, h.led, h.sent, h.err⟩) (fun L f h hd => ?_) (fun L e h hd he => h.fail hd he) L h b
  have hm : (mtake L.m f).1.fair := ⟨mtake_good h.fair.good f, (mtake_errs h.fair.err f).1⟩
  have h' := h.setm hm
  have hs : L.sent = false := by rw [h.sent]; exact hd
  have hw : L.wrong = 0 := by
    unfold Lg.down at hd
    simp at hd
    exact hd.2
  unfold Lg.takeF
  split
  · rename_i he
    refine h'.fail hd ?_
    rcases (mtake_errs h.fair.err f).2 with h0 | h0
    · exact absurd h0 he
    · exact h0
  split
  · rename_i hp
    have hlk := Lg.pong_like k ({ L with m := (mtake L.m f).1 } : Lg) (mtake L.m f).2.1.data
    have hps : (({ L with m := (mtake L.m f).1 } : Lg).pong k (mtake L.m f).2.1.data).sent = L.sent ∧ (({ L with m := (mtake L.m f).1 } : Lg).pong k (mtake L.m f).2.1.data).wrong = L.wrong ∧ (({ L with m := (mtake L.m f).1 } : Lg).pong k (mtake L.m f).2.1.data).got = L.got := by
      unfold Lg.pong
      split <;> exact ⟨rfl, rfl, rfl⟩
    refine ⟨by rw [hlk.m]; exact hm, ?_, by rw [hps.1, hlk.down]; exact h.sent, by rw [hps.2.1]; exact h.err⟩
    rw [hps.2.1, hps.2.2]
    exact LedL.pong (L := { L with m := (mtake L.m f).1 }) h.led (mtake_ping h.fair.good f hp.2)
  split
  · have hlk := Lg.close_like k ({ L with m := (mtake L.m f).1, got := true } : Lg) (across11 (mtake L.m f).2.1.code) ⟨#[]⟩
    have hsame := Lg.close_same k ({ L with m := (mtake L.m f).1, got := true } : Lg) (across11 (mtake L.m f).2.1.code) ⟨#[]⟩
    obtain ⟨d, hac⟩ := across_ok (mtake L.m f).2.1.code
    refine ⟨by rw [hlk.m]; exact hm, ?_, ?_, by rw [hsame.2]; exact h.err⟩
    · rw [hsame.1, hsame.2]
      refine LedL.close (L := { L with m := (mtake L.m f).1, got := true }) h.led _ _ (fun _ _ => ⟨fun _ => ⟨rfl, codeAt_across _⟩, fun h0 => absurd hw h0⟩) (fun d hs2 _ => ?_)
      have : L.sent = true := hs2
      rw [hs] at this
      cases this
    · rw [Lg.close_sent k _ _ _ (by rw [hac]), hlk.down]
      rfl
  · exact h'
end
theorem SaysI.new (k : Lk) (M : Nat) (h1 : 1 ≤ M) (h2 : M ≤ 1048576) (d0 : Int) : SaysI k d0 [] [] 0 0 (Lg.new M d0) := ⟨Mc.new_fair _ (by omega) (by omega), LedL.new _ _ _ _ _⟩
theorem SaysI.take {k : Lk} {d0 : Int} {S : List Int} {all : List Fr} {low n : Nat} {L : Lg} (h : SaysI k d0 S all low n L) (x : Int) : SaysI k d0 (S ++ L.o.ring.take (pk x L.o.ring.length)) all low n (L.take k x) := ⟨h.fair, h.led.take x⟩
theorem SaysI.mono {k : Lk} {d0 : Int} {S : List Int} {all : List Fr} {low n m : Nat} {L : Lg} (h : SaysI k d0 S all low n L) (hm : n ≤ m) : SaysI k d0 S all low m L := ⟨h.fair, h.led.weak hm (fun _ _ h => h)⟩
theorem SaysI.ping {k : Lk} {d0 : Int} {S : List Int} {all : List Fr} {low n : Nat} {L : Lg} (h : SaysI k d0 S all low n L) (d : ByteArray) : SaysI k d0 S all low (n + 1) (L.ping k d).1 := ⟨by rw [(Lg.ping_like k L d).m]; exact h.fair, h.led.ping d⟩
theorem SaysI.close {k : Lk} {d0 : Int} {S : List Int} {all : List Fr} {low n : Nat} {L : Lg} (h : SaysI k d0 S all low n L) (c : Int) (s : ByteArray) : SaysI k d0 S all low n (L.close k c s).1 := ⟨by rw [(Lg.close_like k L c s).m]; exact h.fair, h.led.close c s (fun _ _ => trivial) (fun _ _ _ => trivial)⟩
theorem SaysI.send {k : Lk} {d0 : Int} {S : List Int} {all : List Fr} {low n : Nat} {L : Lg} (h : SaysI k d0 S all low n L) (op : Int) (s : ByteArray) (hf1 : 1 ≤ k.frame) (hf2 : k.frame ≤ 256) (hm : k.message ≤ 256) :
    ((L.send k op s).2 = true → (op = 1 ∨ op = 2) ∧ s.size ≤ k.message ∧ SaysI k d0 S (all ++ cuts k op s) all.length n (L.send k op s).1) ∧ ((L.send k op s).2 = false → (L.send k op s).1 = L) := by
  obtain ⟨h1, h2⟩ := h.led.send op s hf1 hf2 hm
  exact ⟨fun ht => ⟨(h1 ht).1, (h1 ht).2.1, by rw [Lg.send_m]; exact h.fair, (h1 ht).2.2⟩, h2⟩
theorem EndsI.new (k : Lk) (M : Nat) (h1 : 1 ≤ M) (h2 : M ≤ 1048576) (d0 : Int) : EndsI k d0 [] [] 0 0 (Lg.new M d0) := ⟨Mc.new_fair _ (by omega) (by omega), LedL.new _ _ _ _ _, rfl, .inl rfl⟩
theorem EndsI.take {k : Lk} {d0 : Int} {S : List Int} {all : List Fr} {low n : Nat} {L : Lg} (h : EndsI k d0 S all low n L) (x : Int) : EndsI k d0 (S ++ L.o.ring.take (pk x L.o.ring.length)) all low n (L.take k x) := ⟨h.fair, h.led.take x, h.sent, h.err⟩
theorem EndsI.mono {k : Lk} {d0 : Int} {S : List Int} {all : List Fr} {low n m : Nat} {L : Lg} (h : EndsI k d0 S all low n L) (hm : n ≤ m) : EndsI k d0 S all low m L := ⟨h.fair, h.led.weak hm (fun _ _ h => h), h.sent, h.err⟩
theorem Lg.ping_same (k : Lk) (L : Lg) (d : ByteArray) : (L.ping k d).1.sent = L.sent ∧ (L.ping k d).1.got = L.got ∧ (L.ping k d).1.wrong = L.wrong := by
  unfold Lg.ping
  split <;> exact ⟨rfl, rfl, rfl⟩
theorem Lg.send_same (k : Lk) (L : Lg) (op : Int) (s : ByteArray) : (L.send k op s).1.sent = L.sent ∧ (L.send k op s).1.got = L.got ∧ (L.send k op s).1.wrong = L.wrong := by
  unfold Lg.send
  split <;> exact ⟨rfl, rfl, rfl⟩
theorem EndsI.ping {k : Lk} {d0 : Int} {S : List Int} {all : List Fr} {low n : Nat} {L : Lg} (h : EndsI k d0 S all low n L) (d : ByteArray) : EndsI k d0 S all low (n + 1) (L.ping k d).1 := by
  have hl := Lg.ping_like k L d
  obtain ⟨h1, h2, h3⟩ := Lg.ping_same k L d
  exact ⟨by rw [hl.m]; exact h.fair, by rw [h2, h3]; exact h.led.ping d, by rw [h1, hl.down]; exact h.sent, by rw [h3]; exact h.err⟩
theorem EndsI.send {k : Lk} {d0 : Int} {S : List Int} {all : List Fr} {low n : Nat} {L : Lg} (h : EndsI k d0 S all low n L) (op : Int) (s : ByteArray) (hf1 : 1 ≤ k.frame) (hf2 : k.frame ≤ 256) (hm : k.message ≤ 256) : ∃ all' low', EndsI k d0 S all' low' n (L.send k op s).1 := by
  obtain ⟨h1, h2⟩ := h.led.send op s hf1 hf2 hm
  have hl := Lg.send_like k L op s
  obtain ⟨q1, q2, q3⟩ := Lg.send_same k L op s
  cases hb : (L.send k op s).2 with
  | true => exact ⟨_, _, by rw [hl.m]; exact h.fair, by rw [q2, q3]; exact (h1 hb).2.2, by rw [q1, hl.down]; exact h.sent, by rw [q3]; exact h.err⟩
  | false => rw [h2 hb]; exact ⟨_, _, h⟩
/-- At the end: all that went out is these frames. -/
theorem fits_C {f : Fr} (h : okC f) : f.good ∧ form9 f = true ∧ f.masked = false ∧ f.data.size ≤ 65536 := by
  have ho := h.op
  have hz := h.size
  rw [h.eq]
  exact ⟨ctlF_good _ (by omega) _ (by unfold maxLen; omega), ctl_form ho hz, rfl, by show f.data.size ≤ 65536; omega⟩
theorem fits_D {f : Fr} (h : okD f) : f.good ∧ form9 f = true ∧ f.masked = false ∧ f.data.size ≤ 65536 := by
  have hz := h.size
  refine ⟨h.good, ?_, h.plain.1, by omega⟩
  unfold form9 known9 control9
  have h1 : ((8 ≤ f.op ∧ f.op ≤ 10) ∨ (0 ≤ f.op ∧ f.op ≤ 2)) := by have := h.op; omega
  have h2 : ¬ (8 ≤ f.op ∧ f.op ≤ 10) := by have := h.op; omega
  rw [decide_eq_true h1, decide_eq_false h2, h.plain.1, h.plain.2]
  rfl
theorem mfr_false : ∀ (l : List Fr) (d : Int), mfr false l d = l := by
  intro l
  induction l with
  | nil => intro d; rfl
  | cons f fs ih =>
    intro d
    show f :: mfr false fs d = _
    rw [ih]
theorem mfr_fits {mk : Bool} {H : List Fr} (h : ∀ f ∈ H, f.good ∧ form9 f = true ∧ f.masked = false ∧ f.data.size ≤ 65536) (d0 : Int) : ∀ f ∈ mfr mk H d0, fits mk 65536 f ∧ fputz f = fput f := by
  intro f hf
  cases mk with
  | false =>
    rw [mfr_false] at hf
    obtain ⟨h1, h2, h3, h4⟩ := h f hf
    exact ⟨⟨h1, h2, h3, by omega⟩, by unfold fputz; rw [if_pos (form_check h2 h4)]⟩
  | true =>
    obtain ⟨g, hg, e, rfl, h0, h1⟩ := mfr_mem _ d0 f hf
    obtain ⟨k1, k2, k3, k4⟩ := h g hg
    refine ⟨⟨mask1_good k1 e h0 h1, mask_form k2 e, rfl, ?_⟩, ?_⟩
    · show (g.data.size : Int) ≤ 65536
      omega
    · unfold fputz
      rw [if_pos (form_check (mask_form k2 e) k4)]
theorem Led.final {mk : Bool} {d0 : Int} {S : List Int} {o : Ou} {sent : Bool} {H all : List Fr} {low n : Nat} {P : ByteArray → Prop} (h : Led mk d0 S o sent H all low n P) (h1 : o.ring = []) (h2 : o.tail = []) (hl : S.length ≤ maxLen) : scan mk 65536 S = (mfr mk H d0, [], 0) := by
  have hfit := mfr_fits (mk := mk) (H := H) (fun f hf => by
    rcases h.ok f hf with h2 | h2
    · exact fits_C h2
    · exact fits_D (h.alld f h2)) d0
  have hb := h.hist.bytes
  rw [h1, h2, List.append_nil, List.append_nil, flat_fputz (fun f hf => (hfit f hf).2)] at hb
  rw [hb]
  exact scan_puts _ (fun f hf => (hfit f hf).1) (by rw [← hb]; exact hl)
/-- A frame as it went out differs from itself in its key alone. -/
theorem mfr_get (mk : Bool) : ∀ (l : List Fr) (d : Int) (i : Nat) (hi : i < (mfr mk l d).length) (hj : i < l.length), (mfr mk l d)[i].op = l[i].op ∧ (mfr mk l d)[i].fin = l[i].fin ∧ (mfr mk l d)[i].data = l[i].data := by
  intro l
  induction l with
  | nil => intro d i _ hj; exact absurd hj (by simp)
  | cons f fs ih =>
    intro d i hi hj
    rcases i with _ | i
    · cases mk <;> exact ⟨rfl, rfl, rfl⟩
    · exact ih _ i (by simpa [mfr] using hi) (by simpa using hj)
/-- How much is to go out at most. -/
theorem Led.wt {mk : Bool} {d0 : Int} {S : List Int} {o : Ou} {sent : Bool} {H all : List Fr} {low n : Nat} {P : ByteArray → Prop} (h : Led mk d0 S o sent H all low n P) (hs : o.sized 256) (hr : o.ring.length ≤ 256) (hn : n ≤ 60) : o.wt ≤ 100000 := by
  have ht := hs.tail
  have hc : o.ctl.length ≤ n + 2 := by
    have hall : ∀ l : List Fr, (∀ f ∈ l, okC f) → l.length = l.countP (fun f => decide (f.op = 8)) + l.countP (fun f => decide (f.op = 9)) + l.countP (fun f => decide (f.op = 10)) := by
      intro l
      induction l with
      | nil => intro _; rfl
      | cons f fs ih =>
        intro hl
        have h1 := ih (fun g hg => hl g (List.mem_cons_of_mem _ hg))
        rw [List.length_cons, List.countP_cons, List.countP_cons, List.countP_cons, h1]
        rcases (hl f List.mem_cons_self).op with h | h | h
        all_goals rw [h]; simp; omega
    have h8 : o.ctl.countP (fun f => decide (f.op = 8)) ≤ 1 := by
      cases hb : sent with
      | false =>
        have : o.ctl.countP (fun f => decide (f.op = 8)) = 0 := List.countP_eq_zero.2 fun f hf => by simp [h.none8 hb f (List.mem_append_right _ hf)]
        omega
      | true =>
        obtain ⟨-, Z, d, hz, hz8, -⟩ := h.one8 hb
        have h1 : (H ++ o.ctl).countP (fun f => decide (f.op = 8)) = 1 := by
          rw [hz, List.countP_append, List.countP_eq_zero.2 (fun f hf => by simp [hz8 f hf])]
          rfl
        rw [List.countP_append] at h1
        omega
    have := hall o.ctl h.ctl
    have h9 := h.n9
    have h10 := h.n10
    omega
  have s1 := sum_le (l := o.ctl) (D := 125) (fun f hf => (h.ctl f hf).size)
  have hrest : ∀ f ∈ o.rest, f.data.size ≤ 256 := fun f hf => hs.frames f (List.mem_append_right _ hf)
  have s2 := sum_le (l := o.rest) (D := 256) hrest
  have hl := h.len
  have h1 : o.ctl.length * (125 + 15) ≤ 62 * 140 := Nat.mul_le_mul (by omega) (by omega)
  have h2 : o.rest.length * (256 + 15) ≤ 257 * 271 := Nat.mul_le_mul hl (by omega)
  unfold Ou.wt
  omega
/-- All is out: the last frame is the end. -/
theorem EndsI.over {k : Lk} {d0 : Int} {S : List Int} {all : List Fr} {low n : Nat} {L : Lg} (h : EndsI k d0 S all low n L) (hq : L.quiet = true) (hl : S.length ≤ maxLen) :
    ∃ fs, scan k.masks 65536 S = (fs, [], 0) ∧ (L.sent = true → ∃ h0 : fs.length - 1 < fs.length, fs[fs.length - 1].op = 8 ∧ EndC L.wrong L.got fs[fs.length - 1].data ∧ fs[fs.length - 1].data.size ≤ 125) := by
  obtain ⟨H, hd, hz, hst⟩ := h.led
  obtain ⟨q1, q2, q3, q4⟩ := Lg.quiet_nil hq
  refine ⟨_, hd.final q1 q2 hl, fun hs => ?_⟩
  obtain ⟨-, Z, d, hZ, -, hP⟩ := hd.one8 hs
  rw [q3, List.append_nil] at hZ
  have hok := hd.ok (ctlF 8 d) (by rw [hZ]; simp)
  have hdz : d.size ≤ 125 := by
    rcases hok with h | h
    · exact h.size
    · have := (hd.alld _ h).op
      have h8 : (ctlF 8 d).op = 8 := rfl
      omega
  subst hZ
  have hlen : (mfr k.masks (Z ++ [ctlF 8 d]) d0).length = Z.length + 1 := by rw [mfr_length]; simp
  have hx : (Z ++ [ctlF 8 d])[Z.length]'(by simp) = ctlF 8 d := by simp
  obtain ⟨g1, -, g3⟩ := mfr_get k.masks (Z ++ [ctlF 8 d]) d0 Z.length (by omega) (by simp)
  rw [hx] at g1 g3
  have e : (mfr k.masks (Z ++ [ctlF 8 d]) d0).length - 1 = Z.length := by omega
  refine ⟨by omega, ?_⟩
  simp only [e]
  exact ⟨g1, by rw [g3]; exact hP, by rw [g3]; exact hdz⟩
theorem EndsI.wt {k : Lk} {d0 : Int} {S : List Int} {all : List Fr} {low n : Nat} {L : Lg} (h : EndsI k d0 S all low n L) (hr : L.o.ring.length ≤ 256) (hn : n ≤ 60) : L.o.wt ≤ 100000 ∧ L.o.still k.out := by
  obtain ⟨H, hd, hz, hst⟩ := h.led
  exact ⟨hd.wt hz hr hn, hst⟩
theorem SaysI.wt {k : Lk} {d0 : Int} {S : List Int} {all : List Fr} {low n : Nat} {L : Lg} (h : SaysI k d0 S all low n L) (hr : L.o.ring.length ≤ 256) (hn : n ≤ 60) : L.o.wt ≤ 100000 ∧ L.o.still k.out := by
  obtain ⟨H, hd, hz, hst⟩ := h.led
  exact ⟨hd.wt hz hr hn, hst⟩
end Go.Proofs.YtlnabpoohnphiaaGreat
