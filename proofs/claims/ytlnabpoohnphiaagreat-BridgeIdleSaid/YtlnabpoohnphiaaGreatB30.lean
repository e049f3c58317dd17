/- bridge: what always holds of a session; plain Lean. | law17: what acts do to a session. -/
import Derived.Test.YtlnabpoohnphiaaGreatB26
import Derived.Test.YtlnabpoohnphiaaGreatB29
import Derived.Test.YtlnabpoohnphiaaGreatB03
/- bridge: what always holds of a session; plain Lean. -/
namespace Go.Proofs.YtlnabpoohnphiaaGreat
open Go.RowKit
set_option linter.unusedSimpArgs false
set_option linter.unusedVariables false

/-- What always holds of a side's leg; n: how many pings wait at most. -/
structure LgI (k : Lk) (n : Nat) (L : Lg) : Prop where
  ok : L.ok k
  part : (L.part.length : Int) ≤ most16 k + 13
  most : L.m.most = k.message
  says : ∃ d0 S all low, SaysI k d0 S all low n L
structure Kfit (k : Lk) : Prop where
  lo : 1 ≤ k.frame
  hi : k.frame ≤ 256
  msg1 : 1 ≤ k.message
  msg : k.message ≤ 256
  out1 : 1 ≤ k.out
  out : k.out ≤ 256
theorem ctl_len {l : List Fr} (h : ∀ f ∈ l, okC f) : l.length = l.countP (fun f => decide (f.op = 8)) + l.countP (fun f => decide (f.op = 9)) + l.countP (fun f => decide (f.op = 10)) := by
  induction l with
  | nil => rfl
  | cons f fs ih =>
    have h1 := ih (fun g hg => h g (List.mem_cons_of_mem _ hg))
    rw [List.length_cons, List.countP_cons, List.countP_cons, List.countP_cons, h1]
    rcases (h f List.mem_cons_self).op with h | h | h
    all_goals rw [h]; simp; omega
theorem LgI.ctl {k : Lk} {n : Nat} {L : Lg} (h : LgI k n L) : L.o.ctl.length ≤ n + 2 := by
  obtain ⟨d0, S, all, low, hs⟩ := h.says
  obtain ⟨H, hd, -, -⟩ := hs.led
  have h8 : L.o.ctl.countP (fun f => decide (f.op = 8)) ≤ 1 := by
    cases hb : L.sent with
    | false =>
      have : L.o.ctl.countP (fun f => decide (f.op = 8)) = 0 := List.countP_eq_zero.2 fun f hf => by simp [hd.none8 hb f (List.mem_append_right _ hf)]
      omega
    | true =>
      obtain ⟨-, Z, d, hz, hz8, -⟩ := hd.one8 hb
      have h1 : (H ++ L.o.ctl).countP (fun f => decide (f.op = 8)) = 1 := by
        rw [hz, List.countP_append, List.countP_eq_zero.2 (fun f hf => by simp [hz8 f hf])]
        rfl
      rw [List.countP_append] at h1
      omega
  have := ctl_len hd.ctl
  have h9 := hd.n9
  have h10 := hd.n10
  omega
theorem LgI.new {k : Lk} (hk : Kfit k) (d : Int) (n : Nat) : LgI k n (Lg.new k.message d) :=
  have h := Lg.new_okb k d 0
  ⟨h.ok, h.part, h.most, d, [], [], 0, (SaysI.new k k.message hk.msg1 (by have := hk.msg; omega) d).mono (Nat.zero_le _)⟩
theorem LgI.mono {k : Lk} {n m : Nat} {L : Lg} (h : LgI k n L) (hm : n ≤ m) : LgI k m L := by
  obtain ⟨d0, S, all, low, hs⟩ := h.says
  exact ⟨h.ok, h.part, h.most, d0, S, all, low, hs.mono hm⟩
theorem LgI.by_like {k : Lk} {n m : Nat} {L L' : Lg} (h : LgI k n L) (hl : L.like L') (hs : ∃ d0 S all low, SaysI k d0 S all low m L') : LgI k m L' :=
  ⟨⟨by rw [hl.part]; exact h.ok.bytes, by rw [hl.serr, hl.down]; exact h.ok.serr⟩, by rw [hl.part]; exact h.part, by rw [hl.m]; exact h.most, hs⟩
theorem LgI.feed {k : Lk} {n : Nat} {L : Lg} (h : LgI k n L) (hk : Kfit k) (b : List Int) (hb : bytesIn b) (hl : b.length ≤ 100000) : LgI k n (L.feed k b).1 := by
  have hp := h.part
  have hpl : L.part.length ≤ 300 := by
    have := hk.msg
    unfold most16 at hp
    omega
  have h2 := Lg.feed_okb k L.o.ctl.length L ⟨h.ok, h.part, h.most, Nat.le_refl _⟩ b hb (by omega)
  obtain ⟨d0, S, all, low, hs⟩ := h.says
  exact ⟨h2.ok, h2.part, h2.most, d0, S, all, low, hs.feed b⟩
theorem LgI.take {k : Lk} {n : Nat} {L : Lg} (h : LgI k n L) (x : Int) : LgI k n (L.take k x) := by
  obtain ⟨d0, S, all, low, hs⟩ := h.says
  exact h.by_like (Lg.take_like k L x) ⟨d0, _, all, low, hs.take x⟩
theorem LgI.ping {k : Lk} {n : Nat} {L : Lg} (h : LgI k n L) (d : ByteArray) : LgI k (n + 1) (L.ping k d).1 := by
  obtain ⟨d0, S, all, low, hs⟩ := h.says
  exact h.by_like (Lg.ping_like k L d) ⟨d0, S, all, low, hs.ping d⟩
theorem LgI.close {k : Lk} {n : Nat} {L : Lg} (h : LgI k n L) (c : Int) (s : ByteArray) : LgI k n (L.close k c s).1 := by
  obtain ⟨d0, S, all, low, hs⟩ := h.says
  exact h.by_like (Lg.close_like k L c s) ⟨d0, S, all, low, hs.close c s⟩
theorem LgI.send {k : Lk} {n : Nat} {L : Lg} (h : LgI k n L) (hk : Kfit k) (op : Int) (s : ByteArray) : LgI k n (L.send k op s).1 := by
  obtain ⟨d0, S, all, low, hs⟩ := h.says
  obtain ⟨h1, h2⟩ := hs.send op s hk.lo hk.hi hk.msg
  refine h.by_like (Lg.send_like k L op s) ?_
  cases hb : (L.send k op s).2 with
  | true => exact ⟨d0, S, _, _, (h1 hb).2.2⟩
  | false => rw [h2 hb]; exact ⟨d0, S, all, low, hs⟩
theorem LgI.sendAll {k : Lk} {n : Nat} (hk : Kfit k) : ∀ (q : List Ev) (L : Lg), LgI k n L → LgI k n (sendAll k q L).1 := by
  intro q
  induction q with
  | nil => intro L h; exact h
  | cons e q ih =>
    intro L h
    unfold Go.Proofs.YtlnabpoohnphiaaGreat.sendAll
    split
    · exact ih _ (h.send hk e.op e.data)
    · exact h
theorem LgI.settle1 {k : Lk} {n : Nat} (hk : Kfit k) {lost : Bool} {last : Int} {L : Lg} {q : List Ev} (h : LgI k n L) : LgI k n (settle1 k lost last L q).1 := by
  unfold Go.Proofs.YtlnabpoohnphiaaGreat.settle1
  split
  · exact h
  split
  · exact (LgI.sendAll hk q L h).close _ _
  · exact LgI.sendAll hk q L h
/-- What a side sends is a beginning of what waits. -/
theorem sendAll_pre (k : Lk) : ∀ (q : List Ev) (L : Lg), ∃ p, q = p ++ (sendAll k q L).2 := by
  intro q
  induction q with
  | nil => intro L; exact ⟨[], rfl⟩
  | cons e q ih =>
    intro L
    unfold sendAll
    split
    · obtain ⟨p, hp⟩ := ih (L.send k e.op e.data).1
      exact ⟨e :: p, by rw [List.cons_append, ← hp]⟩
    · exact ⟨[], rfl⟩
theorem settle1_pre (k : Lk) (lost : Bool) (last : Int) (L : Lg) (q : List Ev) : ∃ p, q = p ++ (settle1 k lost last L q).2 := by
  unfold settle1
  split
  · exact ⟨q, by simp⟩
  split
  · exact ⟨q, by simp⟩
  · exact sendAll_pre k q L
theorem evSize_app (a b : List Ev) : evSize (a ++ b) = evSize a + evSize b := by simp [evSize]
/-- The bounds of what waits. -/
structure Qfit (K : Bk) (q : List Ev) : Prop where
  count : (q.length : Int) ≤ K.count
  bytes : (evSize q : Int) ≤ K.bytes
theorem Qfit.post {K : Bk} {p q : List Ev} (h : Qfit K (p ++ q)) : Qfit K q := by
  have h1 := h.count
  have h2 := h.bytes
  rw [List.length_append] at h1
  rw [evSize_app] at h2
  exact ⟨by omega, by omega⟩
theorem Qfit.settle1 {K : Bk} {k : Lk} {lost : Bool} {last : Int} {L : Lg} {q : List Ev} (h : Qfit K q) : Qfit K (settle1 k lost last L q).2 := by
  obtain ⟨p, hp⟩ := settle1_pre k lost last L q
  rw [hp] at h
  exact h.post
theorem Qfit.put {K : Bk} {q : List Ev} (h : Qfit K q) (e : Ev) : Qfit K (putL K q e) := by
  unfold putL
  split
  · rename_i hr
    unfold roomL at hr
    simp only [Bool.and_eq_true, decide_eq_true_eq] at hr
    refine ⟨?_, ?_⟩
    · rw [List.length_append]
      simp
      omega
    · rw [evSize_app]
      have : evSize [e] = e.data.size := by simp [evSize]
      omega
  · exact h
/-- What always holds of a session; t: how much time went by at most. -/
structure BrI (K : Bk) (n : Nat) (t : Int) (B : Br) : Prop where
  leg : ∀ i, LgI (K.k i) n (B i).leg
  q : ∀ i, Qfit K (B i).q
  heard : ∀ i, 0 ≤ (B i).heard ∧ (B i).heard ≤ t
  ending : ∀ i, 0 ≤ (B i).ending ∧ (B i).ending ≤ t
  last : ∀ i, -1 ≤ (B i).last ∧ (B i).last ≤ 65535
structure Kfits (K : Bk) : Prop where
  k : ∀ i, Kfit (K.k i)
  count : 0 ≤ K.count ∧ K.count ≤ 1024
  bytes : 0 ≤ K.bytes ∧ K.bytes ≤ 4194304
structure SdI (K : Bk) (i : Bool) (n : Nat) (t : Int) (s : Sd) : Prop where
  leg : LgI (K.k i) n s.leg
  q : Qfit K s.q
  heard : 0 ≤ s.heard ∧ s.heard ≤ t
  ending : 0 ≤ s.ending ∧ s.ending ≤ t
  last : -1 ≤ s.last ∧ s.last ≤ 65535
section
variable {K : Bk} {n : Nat} {t : Int} {B : Br} {i : Bool} {s : Sd}
theorem BrI.side (h : BrI K n t B) (i : Bool) : SdI K i n t (B i) := ⟨h.leg i, h.q i, h.heard i, h.ending i, h.last i⟩
theorem BrI.of (h : ∀ i, SdI K i n t (B i)) : BrI K n t B := ⟨fun i => (h i).leg, fun i => (h i).q, fun i => (h i).heard, fun i => (h i).ending, fun i => (h i).last⟩
theorem BrI.set (h : BrI K n t B) (i : Bool) (hs : SdI K i n t s) : BrI K n t (B.set i s) := BrI.of fun j => by
  unfold Br.set
  split
  · rename_i hj
    subst hj
    exact hs
  · exact h.side j
theorem SdI.end_ (h : SdI K i n t s) {c : Int} (hc : -1 ≤ c ∧ c ≤ 65535) : SdI K i n t (s.end_ c) := by
  unfold Sd.end_
  split
  · exact ⟨h.leg, h.q, h.heard, h.ending, hc⟩
  · exact h
theorem BrI.mono (h : BrI K n t B) {m : Nat} {u : Int} (hm : n ≤ m) (hu : t ≤ u) : BrI K m u B := BrI.of fun i => ⟨(h.leg i).mono hm, h.q i, ⟨(h.heard i).1, Int.le_trans (h.heard i).2 hu⟩, ⟨(h.ending i).1, Int.le_trans (h.ending i).2 hu⟩, h.last i⟩
theorem BrI.settle (h : BrI K n t B) (hK : Kfits K) : BrI K n t (B.settle K) := BrI.of fun i => ⟨LgI.settle1 (hK.k i) (h.leg i), (h.q i).settle1, h.heard i, h.ending i, h.last i⟩
theorem across_le (n : Int) : -1 ≤ across11 n ∧ across11 n ≤ 65535 := by
  unfold across11
  split
  · omega
  split
  · rename_i h
    unfold valid11 at h
    have := of_decide_eq_true h
    omega
  · omega
theorem BrI.told (h : BrI K n t B) (i : Bool) (e : Ev) : BrI K n t (B.told K i e) := by
  unfold Br.told
  split
  · have := h.side i
    exact h.set i ⟨this.leg, this.q.put e, this.heard, this.ending, this.last⟩
  split
  · exact h.set (!i) ((h.side (!i)).end_ (across_le _))
  · exact h
theorem BrI.tolds (i : Bool) : ∀ (es : List Ev) (B : Br), BrI K n t B → BrI K n t (es.foldl (Br.told K i) B) := by
  intro es
  induction es with
  | nil => intro B h; exact h
  | cons e es ih => intro B h; exact ih _ (h.told i e)
theorem BrI.hear (h : BrI K n t B) (hK : Kfits K) (i : Bool) (ht : 0 ≤ t) (c : Int) (hc : 0 ≤ c ∧ c ≤ 255) : BrI K n t (B.hear K i c) := by
  unfold Br.hear Br.hearL
  simp only
  have hs := h.side i
  have h1 : BrI K n t (B.set i { B i with heard := 0, asked := false, leg := ((B i).leg.feed (K.k i) [c]).1 }) :=
    h.set i ⟨hs.leg.feed (hK.k i) [c] (fun x hx => by simp at hx; rw [hx]; exact hc) (by simp), hs.q, ⟨Int.le_refl _, ht⟩, hs.ending, hs.last⟩
  have h2 := BrI.tolds i ((B i).leg.feed (K.k i) [c]).2 _ h1
  refine BrI.settle ?_ hK
  split
  · exact h2.set (!i) ((h2.side (!i)).end_ (by omega))
  · exact h2
theorem BrI.feedN (hK : Kfits K) (i : Bool) (ht : 0 ≤ t) : ∀ (l : List Int) (B : Br), bytesIn l → BrI K n t B → BrI K n t (Br.feedN K i l B).1 := by
  intro l
  induction l with
  | nil => intro B _ h; exact h
  | cons c l ih =>
    intro B hl h
    unfold Br.feedN
    split
    · exact ih _ (fun x hx => hl x (List.mem_cons_of_mem _ hx)) (h.hear hK i ht c (hl c List.mem_cons_self))
    · exact h
theorem BrI.take (h : BrI K n t B) (hK : Kfits K) (i : Bool) (x : Int) : BrI K n t (B.take K i x) := by
  unfold Br.take
  split
  · exact h
  · have := h.side i
    exact (h.set (s := { B i with leg := (B i).leg.take (K.k i) x }) i ⟨this.leg.take x, this.q, this.heard, this.ending, this.last⟩).settle hK
theorem BrI.lose1 (h : BrI K n t B) (i : Bool) : BrI K n t (B.lose1 i) := by
  have := h.side i
  exact (h.set (s := { B i with lost := true }) i ⟨this.leg, this.q, this.heard, this.ending, this.last⟩).set (!i) ((h.side (!i)).end_ (across_le 1006))
theorem BrI.tick1 (h : BrI K n t B) (i : Bool) {x : Int} (hx : 0 ≤ x) : BrI K (n + 1) (t + x) (B.tick1 K i x) := by
  have h' := h.mono (Nat.le_succ n) (show t ≤ t + x by omega)
  have hs := h.side i
  have hs' := h'.side i
  have hh := hs.heard
  have he := hs.ending
  have hb : BrI K (n + 1) (t + x) (B.set i { B i with heard := (B i).heard + x }) := h'.set i ⟨hs'.leg, hs'.q, by show 0 ≤ (B i).heard + x ∧ (B i).heard + x ≤ t + x; omega, hs'.ending, hs'.last⟩
  unfold Br.tick1
  split
  · exact h'.set i ⟨hs'.leg, hs'.q, hs'.heard, by show 0 ≤ (B i).ending + x ∧ (B i).ending + x ≤ t + x; omega, hs'.last⟩
  split
  · split
    · exact hb.lose1 i
    · exact hb
  split
  · exact h'.set i ⟨hs.leg.ping _, hs'.q, by show (0 : Int) ≤ 0 ∧ 0 ≤ t + x; omega, hs'.ending, hs'.last⟩
  · exact hb
theorem BrI.tickS (h : BrI K n t B) (i : Bool) (x : Int) : BrI K (n + 1) (t + 1073741824) (B.tickS K i x) := by
  unfold Br.tickS
  split
  · exact h.mono (Nat.le_succ n) (by omega)
  · exact (h.tick1 i (x := clampT x) (by unfold clampT; omega)).mono (Nat.le_refl _) (by unfold clampT; omega)
theorem BrI.tick (h : BrI K n t B) (hK : Kfits K) (x : Int) : BrI K (n + 2) (t + 2147483648) (B.tick K x) := by
  unfold Br.tick
  exact (((h.tickS false x).tickS true x).mono (Nat.le_refl _) (by omega)).settle hK
theorem BrI.lose (h : BrI K n t B) (hK : Kfits K) (i : Bool) : BrI K n t (B.lose K i) := (h.lose1 i).settle hK
theorem BrI.new (hK : Kfits K) (M : Nat) (hM : ∀ i, (K.k i).message = M) (d : Int) : BrI K 0 0 (Br.new M d) := BrI.of fun i =>
  ⟨by show LgI (K.k i) 0 (Lg.new M d); rw [← hM i]; exact LgI.new (hK.k i) d 0, ⟨hK.count.1, hK.bytes.1⟩, ⟨Int.le_refl _, Int.le_refl _⟩, ⟨Int.le_refl _, Int.le_refl _⟩, by show -1 ≤ (-1 : Int) ∧ (-1 : Int) ≤ 65535; omega⟩
/-- How many turns of time a side lasts at most, where nothing comes. -/
def Sd.rank (s : Sd) : Nat := if s.lost = true then 0 else if s.leg.sent = true then 1 else if s.asked = true then 1 else 2
theorem sendAll_sent (k : Lk) : ∀ (q : List Ev) (L : Lg), (sendAll k q L).1.sent = L.sent := by
  intro q
  induction q with
  | nil => intro L; rfl
  | cons e q ih =>
    intro L
    unfold sendAll
    split
    · rw [ih]
      exact (Lg.send_same k L e.op e.data).1
    · rfl
theorem close_sent_ (k : Lk) (L : Lg) (c : Int) (s : ByteArray) (h : L.sent = true) : (L.close k c s).1.sent = true := by
  unfold Lg.close
  rw [if_pos (.inl h)]
  exact h
theorem settle1_sent (k : Lk) (lost : Bool) (last : Int) (L : Lg) (q : List Ev) (h : L.sent = true) : (settle1 k lost last L q).1.sent = true := by
  unfold settle1
  rw [if_pos (.inr h)]
  exact h
theorem rank_leg (s : Sd) (L : Lg) (h : s.leg.sent = true → L.sent = true) : ({ s with leg := L } : Sd).rank ≤ s.rank := by
  unfold Sd.rank
  simp only
  cases h1 : s.leg.sent with
  | true => rw [h h1]; simp
  | false => cases L.sent <;> cases s.asked <;> cases s.lost <;> simp
theorem rank_settle (K : Bk) (B : Br) (i : Bool) : (B.settle K i).rank ≤ (B i).rank :=
  rank_leg { B i with q := (B.settle K i).q } _ (settle1_sent _ _ _ _ _)
theorem rank_take (K : Bk) (B : Br) (i : Bool) (n : Int) (j : Bool) : (B.take K i n j).rank ≤ (B j).rank := by
  unfold Br.take
  split
  · exact Nat.le_refl _
  · refine Nat.le_trans (rank_settle K _ j) ?_
    unfold Br.set
    split
    · rename_i h
      subst h
      exact rank_leg (B j) ((B j).leg.take (K.k j) n) (fun h => h)
    · exact Nat.le_refl _
theorem rank_end (s : Sd) (c : Int) : (s.end_ c).rank = s.rank := by
  unfold Sd.end_
  split <;> rfl
theorem rank_le2 (s : Sd) : s.rank ≤ 2 := by
  unfold Sd.rank
  repeat' split
  all_goals omega
theorem rank_zero {s : Sd} (h : s.rank = 0) : s.over = true := by
  unfold Sd.rank at h
  unfold Sd.over
  cases hl : s.lost with
  | true => rfl
  | false =>
    rw [hl] at h
    simp only [Bool.false_eq_true, if_false] at h
    repeat' split at h
    all_goals omega
theorem Br.set_at (B : Br) (i j : Bool) (s : Sd) : B.set i s j = if j = i then s else B j := rfl
theorem rank_lose1 (B : Br) (i j : Bool) : (B.lose1 i j).rank ≤ (B j).rank ∧ (B.lose1 i i).rank = 0 := by
  have h1 : (B.lose1 i i).rank = 0 := by
    unfold Br.lose1
    rw [Br.set_at, if_neg (by cases i <;> decide), Br.set_at, if_pos rfl]
    rfl
  refine ⟨?_, h1⟩
  by_cases hj : j = i
  · subst hj
    omega
  · unfold Br.lose1
    rw [Br.set_at, if_pos (by cases i <;> cases j <;> simp_all)]
    rw [rank_end]
    have : j = !i := by cases i <;> cases j <;> simp_all
    rw [this]
    exact Nat.le_refl _
theorem rank_tick1 (K : Bk) (B : Br) (i j : Bool) (x : Int) (h1 : 0 ≤ (B i).heard) (h2 : 0 ≤ (B i).ending) (x1 : K.idle < x) (x2 : K.pong < x) (x3 : K.close < x) (hl : (B i).lost = false) :
    (B.tick1 K i x i).rank + 1 ≤ (B i).rank ∧ (B.tick1 K i x j).rank ≤ (B j).rank := by
  have key : ∀ s : Sd, s.rank + 1 ≤ (B i).rank → ((B.set i s i).rank + 1 ≤ (B i).rank ∧ (B.set i s j).rank ≤ (B j).rank) := fun s hs => by
    rw [Br.set_same, Br.set_at]
    refine ⟨hs, ?_⟩
    split
    · rename_i h
      subst h
      omega
    · exact Nat.le_refl _
  unfold Br.tick1
  cases hs : (B i).leg.sent with
  | true =>
    rw [if_pos rfl]
    refine key _ ?_
    have : (B i).rank = 1 := by unfold Sd.rank; rw [hl, hs]; rfl
    rw [this]
    unfold Sd.rank
    rw [if_pos (decide_eq_true (by omega))]
    exact Nat.le_refl _
  | false =>
    rw [if_neg (by simp)]
    cases ha : (B i).asked with
    | true =>
      rw [if_pos rfl, if_pos (by omega)]
      have hr : (B i).rank = 1 := by unfold Sd.rank; rw [hl, hs, ha]; rfl
      have hl1 := rank_lose1 (B.set i { B i with heard := (B i).heard + x }) i j
      refine ⟨by rw [hl1.2, hr]; exact Nat.le_refl _, Nat.le_trans hl1.1 ?_⟩
      rw [Br.set_at]
      split
      · rename_i h
        subst h
        exact Nat.le_refl _
      · exact Nat.le_refl _
    | false =>
      rw [if_neg (by simp), if_pos (by omega)]
      refine key _ ?_
      have hr : (B i).rank = 2 := by unfold Sd.rank; rw [hl, hs, ha]; rfl
      rw [hr]
      unfold Sd.rank
      simp only [hl]
      split
      · omega
      · split <;> simp
theorem rank_tickS (K : Bk) (B : Br) (i j : Bool) (x : Int) (h1 : 0 ≤ (B i).heard) (h2 : 0 ≤ (B i).ending) (x0 : 0 ≤ x) (x9 : x ≤ 1073741824) (x1 : K.idle < x) (x2 : K.pong < x) (x3 : K.close < x) :
    (B.tickS K i x i).rank ≤ (B i).rank - 1 ∧ (B.tickS K i x j).rank ≤ (B j).rank := by
  have hc : clampT x = x := by unfold clampT; omega
  unfold Br.tickS
  rw [hc]
  cases hl : (B i).lost with
  | true =>
    rw [if_pos rfl]
    have : (B i).rank = 0 := by unfold Sd.rank; rw [hl]; rfl
    exact ⟨by omega, Nat.le_refl _⟩
  | false =>
    rw [if_neg (by simp)]
    have := rank_tick1 K B i j x h1 h2 x1 x2 x3 hl
    exact ⟨by omega, this.2⟩
theorem rank_tick {K : Bk} {n : Nat} {t : Int} {B : Br} (h : BrI K n t B) (x : Int) (x0 : 0 ≤ x) (x9 : x ≤ 1073741824) (x1 : K.idle < x) (x2 : K.pong < x) (x3 : K.close < x) (j : Bool) : (B.tick K x j).rank ≤ (B j).rank - 1 := by
  unfold Br.tick
  refine Nat.le_trans (rank_settle K _ j) ?_
  have hi := h.tickS false x
  have a1 := rank_tickS K B false j x (h.heard false).1 (h.ending false).1 x0 x9 x1 x2 x3
  have a2 := rank_tickS K (B.tickS K false x) true j x (hi.heard true).1 (hi.ending true).1 x0 x9 x1 x2 x3
  cases j with
  | false => omega
  | true => omega
end
end Go.Proofs.YtlnabpoohnphiaaGreat
/- law17: what acts do to a session. -/
namespace Go.Proofs.YtlnabpoohnphiaaGreat
open Go.RowKit
set_option linter.unusedSimpArgs false
set_option linter.unusedVariables false

theorem act2_cells {w : World} {A : Option Addr} {l : List Act2} (h : Rd w A (l.flatMap Act2.cl)) (k : Nat) (hk : k < l.length) : ∃ g off, A = some ⟨g, off, none⟩ ∧ g < w.heap.size ∧
    w.cell? ⟨g, off + k * 4, none⟩ = some (.int .i64 l[k].kind) ∧ w.cell? ⟨g, off + k * 4 + 1, none⟩ = some (.int .i64 l[k].side) ∧ w.cell? ⟨g, off + k * 4 + 2, none⟩ = some (.int .i64 l[k].n) ∧ w.cell? ⟨g, off + k * 4 + 3, none⟩ = some (.string l[k].s) := by
  have hf := flat_at Act2.cl 4 (fun _ => rfl) l k hk
  obtain ⟨g, off, hA, hg, hc⟩ := h (by intro he; have := hf 0 (by omega); rw [he] at this; simp [Act2.cl] at this)
  have hc' : ∀ j (hj : j < 4) u, (Act2.cl l[k])[j]? = some u → w.cell? ⟨g, off + k * 4 + j, none⟩ = some u := fun j hj u hu => by
    rw [Nat.add_assoc]; exact hc _ u ((hf j hj).trans hu)
  exact ⟨g, off, hA, hg, hc' 0 (by omega) _ rfl, hc' 1 (by omega) _ rfl, hc' 2 (by omega) _ rfl, hc' 3 (by omega) _ rfl⟩
/-- Which side a number means. -/
def sideB (x : Int) : Option Bool := if x = 0 then some false else if x = 1 then some true else none
theorem sideB_cases (x : Int) : (∃ i : Bool, x = i.toNat ∧ sideB x = some i) ∨ (x ≠ 0 ∧ x ≠ 1 ∧ sideB x = none) := by
  unfold sideB
  by_cases h0 : x = 0
  · exact .inl ⟨false, h0, if_pos h0⟩
  · by_cases h1 : x = 1
    · exact .inl ⟨true, h1, by rw [if_neg h0, if_pos h1]⟩
    · exact .inr ⟨h0, h1, by rw [if_neg h0, if_neg h1]⟩
/-- What an act does. -/
def Br.play (K : Bk) (B : Br) (x : Act2) : Br :=
  if x.kind = 0 then (match sideB x.side with | some i => (B.feed K i (sb x.s)).1 | none => B)
  else if x.kind = 1 then (match sideB x.side with | some i => B.take K i x.n | none => B)
  else if x.kind = 2 then B.tick K x.n
  else if x.kind = 3 then (match sideB x.side with | some i => B.lose K i | none => B)
  else B
theorem BrI.play {K : Bk} {n : Nat} {t : Int} {B : Br} (h : BrI K n t B) (hK : Kfits K) (h0 : 0 ≤ t) (x : Act2) : BrI K (n + 2) (t + 2147483648) (B.play K x) := by
  have hm : ∀ C, BrI K n t C → BrI K (n + 2) (t + 2147483648) C := fun C hC => hC.mono (by omega) (by omega)
  unfold Br.play
  split
  · rcases sideB x.side with _ | i
    · exact hm _ h
    · exact hm _ (BrI.feedN hK i h0 _ _ (sb_in _) h)
  split
  · rcases sideB x.side with _ | i
    · exact hm _ h
    · exact hm _ (h.take hK i _)
  split
  · exact h.tick hK _
  split
  · rcases sideB x.side with _ | i
    · exact hm _ h
    · exact hm _ (h.lose hK i)
  · exact hm _ h
end Go.Proofs.YtlnabpoohnphiaaGreat
