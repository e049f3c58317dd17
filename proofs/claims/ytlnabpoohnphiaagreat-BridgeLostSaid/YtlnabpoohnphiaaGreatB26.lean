/- bridge: a session, in plain Lean. | leg: two sides apart; bytes in pieces. | msg: plain laws. | leg: one side's message, read by another one; plain Lean. -/
import Derived.Test.YtlnabpoohnphiaaGreatB25
import Derived.Test.YtlnabpoohnphiaaGreatB17
/- bridge: a session, in plain Lean. -/
namespace Go.Proofs.YtlnabpoohnphiaaGreat
open Go.RowKit
set_option linter.unusedSimpArgs false
set_option linter.unusedVariables false

/-- One of both sides. -/
structure Sd where
  leg : Lg
  q : List Ev
  lost : Bool
  last : Int
  heard : Int
  asked : Bool
  ending : Int
/-- What a session is made with. -/
structure Bk where
  k : Bool → Lk
  message : Nat
  count : Int
  bytes : Int
  idle : Int
  pong : Int
  close : Int
/-- Both sides: false is side 0. -/
abbrev Br := Bool → Sd
def Br.set (B : Br) (i : Bool) (s : Sd) : Br := fun j => if j = i then s else B j
theorem Br.set_same (B : Br) (i : Bool) (s : Sd) : B.set i s i = s := if_pos rfl
theorem Br.set_other (B : Br) (i : Bool) (s : Sd) : B.set i s (!i) = B (!i) := if_neg (by cases i <;> decide)
def Sd.deaf (s : Sd) : Bool := s.lost || s.leg.down
def Sd.over (s : Sd) : Bool := s.lost || (s.leg.sent && s.leg.down && s.leg.quiet)
def Sd.end_ (s : Sd) (code : Int) : Sd := if s.last < 0 then { s with last := code } else s
/-- What waits is sent, as far as may be. -/
def sendAll (k : Lk) : List Ev → Lg → Lg × List Ev
  | [], L => (L, [])
  | e :: l, L => if (L.send k e.op e.data).2 = true then sendAll k l (L.send k e.op e.data).1 else (L, e :: l)
def settle1 (k : Lk) (lost : Bool) (last : Int) (L : Lg) (q : List Ev) : Lg × List Ev :=
  if lost = true ∨ L.sent = true then (L, [])
  else if 0 ≤ last ∧ (sendAll k q L).1.free = true ∧ (sendAll k q L).2 = [] then (((sendAll k q L).1.close k last ⟨#[]⟩).1, []) else sendAll k q L
def Br.settle (K : Bk) (B : Br) : Br := fun i =>
  { B i with leg := (settle1 (K.k i) (B i).lost (B i).last (B i).leg (B (!i)).q).1, q := (settle1 (K.k (!i)) (B (!i)).lost (B (!i)).last (B (!i)).leg (B i).q).2 }
def roomL (K : Bk) (q : List Ev) (x : Int) : Bool := decide ((q.length : Int) < K.count) && (decide (0 ≤ x) && decide (x ≤ K.bytes - evSize q))
def putL (K : Bk) (q : List Ev) (e : Ev) : List Ev := if roomL K q e.data.size = true then q ++ [e] else q
/-- One event that a side was told. -/
def Br.told (K : Bk) (i : Bool) (B : Br) (e : Ev) : Br :=
  if e.op = 1 ∨ e.op = 2 then B.set i { B i with q := putL K (B i).q e }
  else if e.op = 8 then B.set (!i) ((B (!i)).end_ (across11 e.code)) else B
/-- Bytes that a side's leg takes at once. -/
def Br.hearL (K : Bk) (i : Bool) (B : Br) (b : List Int) : Br :=
  let r := (B i).leg.feed (K.k i) b
  let B1 := B.set i { B i with heard := 0, asked := false, leg := r.1 }
  let B2 := r.2.foldl (Br.told K i) B1
  let B3 := if r.1.wrong ≠ 0 then B2.set (!i) ((B2 (!i)).end_ 1001) else B2
  B3.settle K
def Br.hear (K : Bk) (i : Bool) (B : Br) (c : Int) : Br := B.hearL K i [c]
def Br.feedN (K : Bk) (i : Bool) : List Int → Br → Br × Nat
  | [], B => (B, 0)
  | c :: l, B => if (B i).deaf = false ∧ roomL K (B i).q K.message = true then ((Br.feedN K i l (B.hear K i c)).1, (Br.feedN K i l (B.hear K i c)).2 + 1) else (B, 0)
def Br.feed (K : Bk) (i : Bool) (B : Br) (l : List Int) : Br × Nat :=
  ((Br.feedN K i l B).1, if ((Br.feedN K i l B).1 i).deaf = true then l.length else (Br.feedN K i l B).2)
def Br.take (K : Bk) (i : Bool) (B : Br) (n : Int) : Br :=
  if (B i).lost = true then B else (B.set i { B i with leg := (B i).leg.take (K.k i) n }).settle K
def Br.lose1 (i : Bool) (B : Br) : Br := (B.set i { B i with lost := true }).set (!i) ((B (!i)).end_ (across11 1006))
def Br.lose (K : Bk) (i : Bool) (B : Br) : Br := (B.lose1 i).settle K
/-- Time on one side. -/
def Br.tick1 (K : Bk) (i : Bool) (B : Br) (n : Int) : Br :=
  if (B i).leg.sent = true then B.set i { B i with ending := (B i).ending + n, lost := decide (K.close < (B i).ending + n) }
  else if (B i).asked = true then (if K.pong < (B i).heard + n then (B.set i { B i with heard := (B i).heard + n }).lose1 i else B.set i { B i with heard := (B i).heard + n })
  else if K.idle < (B i).heard + n then B.set i { B i with heard := 0, asked := true, leg := ((B i).leg.ping (K.k i) ⟨#[]⟩).1 }
  else B.set i { B i with heard := (B i).heard + n }
def clampT (n : Int) : Int := min (max n 0) 1073741824
def Br.tickS (K : Bk) (i : Bool) (B : Br) (n : Int) : Br := if (B i).lost = true then B else B.tick1 K i (clampT n)
def Br.tick (K : Bk) (B : Br) (n : Int) : Br := ((B.tickS K false n).tickS K true n).settle K
def Br.over (B : Br) : Bool := (B false).over && (B true).over
def Sd.new (M : Nat) (draw : Int) : Sd := ⟨Lg.new M draw, [], false, -1, 0, false, 0⟩
def Br.new (M : Nat) (draw : Int) : Br := fun _ => Sd.new M draw
end Go.Proofs.YtlnabpoohnphiaaGreat
/- leg: two sides apart; bytes in pieces. -/
namespace Go.Proofs.YtlnabpoohnphiaaGreat
open Go.RowKit
set_option linter.unusedSimpArgs false
set_option linter.unusedVariables false

def LgTwo (w0 w : World) (g1 : Nat) (k1 : Lk) (L1 : Lg) (g2 : Nat) (k2 : Lk) (L2 : Lg) : Prop :=
  ∃ V1 V2, IsL w g1 k1 L1 V1 ∧ IsL w g2 k2 L2 V2 ∧ (∀ b, LF g1 k1 V1 b → ¬ LF g2 k2 V2 b) ∧ (∀ b, LF g1 k1 V1 b → w0.heap.size ≤ b) ∧ (∀ b, LF g2 k2 V2 b → w0.heap.size ≤ b) ∧ Touch NoS w0 w
section
variable {w0 w w' : World} {g1 g2 : Nat} {k1 k2 : Lk} {L1 L2 : Lg}
theorem LgTwo.mk_ {w1 : World} (h1 : LgAt w0 w1 g1 k1 L1) (h2 : LgAt w1 w g2 k2 L2) : LgTwo w0 w g1 k1 L1 g2 k2 L2 := by
  obtain ⟨V1, i1, f1, t1⟩ := h1
  obtain ⟨V2, i2, f2, t2⟩ := h2
  refine ⟨V1, V2, i1.no t2, i2, fun b hb hb2 => ?_, f1, fun b hb => Nat.le_trans t1.size (f2 b hb), t1.trans t2⟩
  have := i1.lt hb
  have := f2 b hb2
  omega
theorem LgTwo.fst (h : LgTwo w0 w g1 k1 L1 g2 k2 L2) : LgAt w0 w g1 k1 L1 := by
  obtain ⟨V1, V2, i1, i2, hd, f1, f2, t⟩ := h
  exact ⟨V1, i1, f1, t⟩
theorem LgTwo.snd (h : LgTwo w0 w g1 k1 L1 g2 k2 L2) : LgAt w0 w g2 k2 L2 := by
  obtain ⟨V1, V2, i1, i2, hd, f1, f2, t⟩ := h
  exact ⟨V2, i2, f2, t⟩
theorem LgTwo.symm (h : LgTwo w0 w g1 k1 L1 g2 k2 L2) : LgTwo w0 w g2 k2 L2 g1 k1 L1 := by
  obtain ⟨V1, V2, i1, i2, hd, f1, f2, t⟩ := h
  exact ⟨V2, V1, i2, i1, fun b h2 h1 => hd b h1 h2, f2, f1, t⟩
theorem LgTwo.no (h : LgTwo w0 w g1 k1 L1 g2 k2 L2) (k : Touch NoS w w') : LgTwo w0 w' g1 k1 L1 g2 k2 L2 := by
  obtain ⟨V1, V2, i1, i2, hd, f1, f2, t⟩ := h
  exact ⟨V1, V2, i1.no k, i2.no k, hd, f1, f2, t.trans k⟩
theorem LgTwo.old (h : LgTwo w0 w g1 k1 L1 g2 k2 L2) : Touch NoS w0 w := h.fst.old
/-- What is apart from both may change. -/
theorem LgTwo.touch {S : Nat → Prop} (h : LgTwo w0 w g1 k1 L1 g2 k2 L2) (k : Touch S w w') (hS : ∀ b, S b → ∃ t cs, Blk w b t cs ∧ Outer t) (h0 : ∀ b, S b → w0.heap.size ≤ b) : LgTwo w0 w' g1 k1 L1 g2 k2 L2 := by
  obtain ⟨V1, V2, i1, i2, hd, f1, f2, t⟩ := h
  refine ⟨V1, V2, i1.touch k fun b hb hs => ?_, i2.touch k fun b hb hs => ?_, hd, f1, f2, t.then_new k fun i hi => .inl (h0 i hi)⟩
  · obtain ⟨t, cs, hc, ho⟩ := hS b hs
    exact i1.outer hc ho hb
  · obtain ⟨t, cs, hc, ho⟩ := hS b hs
    exact i2.outer hc ho hb
theorem LgTwo.act {V1 V2 : LV} {L1' : Lg} (i1 : IsL w g1 k1 L1 V1) (i2 : IsL w g2 k2 L2 V2) (hd : ∀ b, LF g1 k1 V1 b → ¬ LF g2 k2 V2 b) (f1 : ∀ b, LF g1 k1 V1 b → w0.heap.size ≤ b) (f2 : ∀ b, LF g2 k2 V2 b → w0.heap.size ≤ b) (t : Touch NoS w0 w) (a : LAct w w' g1 k1 V1 L1') : LgTwo w0 w' g1 k1 L1' g2 k2 L2 := by
  obtain ⟨V1', j1, l1, t1⟩ := a
  refine ⟨V1', V2, j1, i2.touch t1 fun b hb hs => hd b hs hb, fun b hb hb2 => ?_, fun b hb => ?_, f2, t.then_new t1 fun i hi => .inl (f1 i hi)⟩
  · rcases LF_loc l1 hb with h | h
    · exact hd b h hb2
    · have := i2.lt hb2
      omega
  · rcases LF_loc l1 hb with h | h
    · exact f1 b h
    · have := t.size
      omega
theorem lt_feed (h : LgTwo w0 w g1 k1 L1 g2 k2 L2) (hk : k1.message ≤ 65536) (hok : L1.ok k1) (b : List Int) (A2 : Option Addr) (n cap : Nat) (hn : b.length = n) (hr : Rd w A2 (u8s b)) (hin : bytesIn b) (hc : L1.o.ctl.length + L1.part.length + n ≤ 900000) :
    Calls Tryz.prog 59 #[.pointer (some ⟨g1, 0, none⟩), .slice A2 n cap] w fun e w' => ∃ A c, e = .returned (.slice A (L1.feed k1 b).2.length c) ∧ w'.ownsRow w.heap.size 37 3 (.slice A (L1.feed k1 b).2.length c) (L1.feed k1 b).2.length (evCells (L1.feed k1 b).2) ∧ LgTwo w0 w' g1 k1 (L1.feed k1 b).1 g2 k2 L2 ∧ Keep w w' := by
  obtain ⟨V1, V2, i1, i2, hd, f1, f2, t⟩ := h
  refine (l_feed i1 hk hok b A2 n cap hn hr hin hc).mono ?_
  rintro e w' ⟨A, c, rfl, ho, a⟩
  exact ⟨A, c, rfl, ho, LgTwo.act i1 i2 hd f1 f2 t a, a.keeps i1⟩
theorem lt_take (h : LgTwo w0 w g1 k1 L1 g2 k2 L2) (n : Int) : Calls Tryz.prog 41 #[.pointer (some ⟨g1, 0, none⟩), .int .i64 n] w fun e w' =>
    ∃ g, e = .returned (.slice (some ⟨g, 0, none⟩) (pk n L1.o.ring.length) (pk n L1.o.ring.length)) ∧ w.heap.size ≤ g ∧ Blk w' g 5 (u8s (L1.o.ring.take (pk n L1.o.ring.length))).toArray ∧ LgTwo w0 w' g1 k1 (L1.take k1 n) g2 k2 L2 ∧ Keep w w' := by
  obtain ⟨V1, V2, i1, i2, hd, f1, f2, t⟩ := h
  refine (l_take i1 n).mono ?_
  rintro e w' ⟨g, rfl, q1, q2, ⟨V', q3, q4⟩, q5⟩
  exact ⟨g, rfl, q1, q2, LgTwo.act i1 i2 hd f1 f2 t ⟨V', q3, q4, q5⟩, LAct.keeps ⟨V', q3, q4, q5⟩ i1⟩
theorem lt_send (h : LgTwo w0 w g1 k1 L1 g2 k2 L2) (op code : Int) (s : ByteArray) (hs : s.size ≤ maxLen) (hk : k1.message ≤ 65536) (hf1 : 1 ≤ k1.frame) (hf2 : k1.frame ≤ 65536) :
    Calls Tryz.prog 68 #[.pointer (some ⟨g1, 0, none⟩), .agg #[.int .i64 op, .int .i64 code, .string s]] w fun e w' => e = .returned (.bool (L1.send k1 op s).2) ∧ LgTwo w0 w' g1 k1 (L1.send k1 op s).1 g2 k2 L2 ∧ Keep w w' := by
  obtain ⟨V1, V2, i1, i2, hd, f1, f2, t⟩ := h
  refine (l_send i1 op code s hs hk hf1 hf2).mono ?_
  rintro e w' ⟨rfl, a⟩
  exact ⟨rfl, LgTwo.act i1 i2 hd f1 f2 t a, a.keeps i1⟩
theorem lt_close (h : LgTwo w0 w g1 k1 L1 g2 k2 L2) (code : Int) (s : ByteArray) (hd : s.size ≤ maxLen) (hn : L1.o.ctl.length ≤ 1000000) :
    Calls Tryz.prog 70 #[.pointer (some ⟨g1, 0, none⟩), .int .i64 code, .string s] w fun e w' => e = .returned (.bool (L1.close k1 code s).2) ∧ LgTwo w0 w' g1 k1 (L1.close k1 code s).1 g2 k2 L2 ∧ Keep w w' := by
  obtain ⟨V1, V2, i1, i2, hd', f1, f2, t⟩ := h
  refine (l_close i1 code s hd hn).mono ?_
  rintro e w' ⟨rfl, a⟩
  exact ⟨rfl, LgTwo.act i1 i2 hd' f1 f2 t a, a.keeps i1⟩
end
/-- Fed piece by piece. -/
def feedAll (k : Lk) (L : Lg) (ss : List (List Int)) : Lg × List Ev := ss.foldl (fun s b => ((s.1.feed k b).1, s.2 ++ (s.1.feed k b).2)) (L, [])
theorem feedAll_take (k : Lk) (L : Lg) (ss : List (List Int)) (j : Nat) (hj : j < ss.length) : feedAll k L (ss.take (j + 1)) = (((feedAll k L (ss.take j)).1.feed k ss[j]).1, (feedAll k L (ss.take j)).2 ++ ((feedAll k L (ss.take j)).1.feed k ss[j]).2) := by
  have e : ss.take (j + 1) = ss.take j ++ [ss[j]] := by simp
  unfold feedAll
  rw [e, List.foldl_append]
  rfl
theorem feedAll_out (k : Lk) : ∀ (ss : List (List Int)) (L : Lg) (out : List Ev), ss.foldl (fun s b => ((s.1.feed k b).1, s.2 ++ (s.1.feed k b).2)) (L, out) = ((feedAll k L ss).1, out ++ (feedAll k L ss).2) := by
  intro ss
  induction ss with
  | nil => intro L out; simp [feedAll]
  | cons b ss ih =>
    intro L out
    unfold feedAll
    rw [List.foldl_cons, List.foldl_cons, ih, ih (L.feed k b).1 ([] ++ (L.feed k b).2)]
    simp
theorem Lg.alike.trans {a b c : Lg} (h : a.alike b) (h2 : b.alike c) : a.alike c := by
  obtain ⟨p, e, rfl⟩ := h
  obtain ⟨q, f, rfl⟩ := h2
  exact ⟨q, f, rfl⟩
theorem scan_idem_ {mk : Bool} {most : Int} {a part : List Int} {fs : List Fr} (hb : bytesIn a) (hl : a.length ≤ maxLen) (h : scan mk most a = (fs, part, 0)) : scan mk most part = ([], part, 0) := by
  have hs := (scan_append mk most a.length a [] (Nat.le_refl _) (by rw [List.append_nil]; exact hb) (by rw [List.append_nil]; exact hl)).1 (by rw [h])
  rw [List.append_nil, h] at hs
  simp only [List.append_nil] at hs
  obtain ⟨g, p, e, h2⟩ : ∃ g p e, scan mk most part = (g, p, e) := ⟨_, _, _, rfl⟩
  rw [h2] at hs ⊢
  injection hs with h3 h4
  injection h4 with h5 h6
  have hg : g = [] := by
    have := congrArg List.length h3
    simp at this
    exact this
  rw [hg, ← h5, ← h6]
/-- Nothing of what is kept is a frame. -/
def Lg.read (k : Lk) (L : Lg) : Prop := L.down = false → L.serr = 0 ∧ scan (!k.masks) (most16 k) L.part = ([], L.part, 0)
theorem Lg.feed_read (k : Lk) (L : Lg) (hok : L.ok k) (b : List Int) (hb : bytesIn b) (hl : L.part.length + b.length ≤ 1000000) (h : L.read k) : (L.feed k b).1.read k := by
  cases hd : L.down with
  | true => rw [Lg.feed_down hd]; exact h
  | false =>
    have hin : bytesIn (L.part ++ b) := fun x hx => by
      rcases List.mem_append.1 hx with hx | hx
      · exact hok.bytes x hx
      · exact hb x hx
    have hml : (L.part ++ b).length ≤ maxLen := by simp only [List.length_append]; unfold maxLen; omega
    obtain ⟨fs, p, e, hs⟩ : ∃ x y z, scan (!k.masks) (most16 k) (L.part ++ b) = (x, y, z) := ⟨_, _, _, rfl⟩
    have hA := Lg.feed_by hd hs
    have hfl := feedFs_flag k L hd fs
    rw [feedFs_setp] at hA
    simp only at hA
    rw [hA]
    intro hdn
    by_cases hst : (feedFs k L fs).2.2 = true
    · rw [if_pos hst] at hdn
      have : (feedFs k L fs).1.down = false := hdn
      rw [← hfl, hst] at this
      cases this
    · rw [if_neg hst] at hdn ⊢
      by_cases he : e = 0
      · subst he
        rw [if_neg (by simp)]
        exact ⟨rfl, scan_idem_ hin hml hs⟩
      · rw [if_pos he] at hdn
        have := Lg.fail_down k ((feedFs k L fs).1.setp p e) e he
        rw [show ((feedFs k L fs).1.setp p e).fail k e = (((feedFs k L fs).1.setp p e).fail k e, (feedFs k L fs).2.1).1 from rfl, hdn] at this
        cases this
theorem Lg.feed_nil (k : Lk) (L : Lg) (h : L.read k) : L.feed k [] = (L, []) := by
  cases hd : L.down with
  | true => exact Lg.feed_down hd []
  | false =>
    obtain ⟨h0, h1⟩ := h hd
    have hA := Lg.feed_by hd (b := []) (fs := []) (p := L.part) (e := 0) (by rw [List.append_nil]; exact h1)
    rw [hA, show L.setp L.part 0 = L from by unfold Lg.setp; rw [← h0]]
    rfl
theorem feedAll_one (k : Lk) (hk : k.message ≤ 65536) : ∀ (ss : List (List Int)) (n : Nat) (L : Lg), L.okb k n → L.read k → (∀ s ∈ ss, bytesIn s) → ss.flatten.length ≤ 100000 →
    (feedAll k L ss).1.alike (L.feed k ss.flatten).1 ∧ (feedAll k L ss).2 = (L.feed k ss.flatten).2 := by
  intro ss
  induction ss with
  | nil =>
    intro n L hok hrd _ _
    rw [show ([] : List (List Int)).flatten = [] from rfl, Lg.feed_nil k L hrd]
    exact ⟨⟨L.part, L.serr, rfl⟩, rfl⟩
  | cons b ss ih =>
    intro n L hok hrd hb hl
    rw [List.flatten_cons] at hl ⊢
    rw [List.length_append] at hl
    have hp := hok.part
    unfold most16 at hp
    have hb1 := hb b List.mem_cons_self
    have h1 := Lg.feed_okb k n L hok b hb1 (by omega)
    obtain ⟨i1, i2⟩ := ih _ (L.feed k b).1 h1 (Lg.feed_read k L hok.ok b hb1 (by omega) hrd) (fun s hs => hb s (List.mem_cons_of_mem _ hs)) (by omega)
    have hfb : bytesIn ss.flatten := fun x hx => by
      obtain ⟨s, hs, hx⟩ := List.mem_flatten.1 hx
      exact hb s (List.mem_cons_of_mem _ hs) x hx
    obtain ⟨j1, j2⟩ := Lg.feed_two k L hok.ok b ss.flatten hb1 hfb (by omega)
    have e : feedAll k L (b :: ss) = ((feedAll k (L.feed k b).1 ss).1, (L.feed k b).2 ++ (feedAll k (L.feed k b).1 ss).2) := by
      have := feedAll_out k ss (L.feed k b).1 ([] ++ (L.feed k b).2)
      unfold feedAll
      rw [List.foldl_cons]
      rw [this]
      simp [feedAll]
    rw [e]
    exact ⟨i1.trans j1, by rw [← j2, ← i2]⟩
theorem feedFold_len (k : Lk) : ∀ (fs : List Fr) (s : Lg × List Ev × Bool), (fs.foldl (feedStep k) s).2.1.length ≤ s.2.1.length + fs.length := by
  intro fs
  induction fs with
  | nil => intro s; exact Nat.le_refl _
  | cons f fs ih =>
    intro s
    rw [List.foldl_cons]
    refine Nat.le_trans (ih _) ?_
    unfold feedStep
    rw [List.length_cons]
    split
    · omega
    · simp only
      split
      · simp; omega
      · omega
theorem Lg.feed_len (k : Lk) (L : Lg) (hok : L.ok k) (b : List Int) (hb : bytesIn b) (hl : L.part.length + b.length ≤ 1000000) : (L.feed k b).2.length ≤ L.part.length + b.length := by
  cases hd : L.down with
  | true => rw [Lg.feed_down hd]; exact Nat.zero_le _
  | false =>
    have hin : bytesIn (L.part ++ b) := fun x hx => by
      rcases List.mem_append.1 hx with hx | hx
      · exact hok.bytes x hx
      · exact hb x hx
    have hml : (L.part ++ b).length ≤ maxLen := by simp only [List.length_append]; unfold maxLen; omega
    obtain ⟨-, -, g3⟩ := scan_in (!k.masks) (most16 k) (L.part ++ b).length (L.part ++ b) (Nat.le_refl _) hin hml
    obtain ⟨fs, p, e, hs⟩ : ∃ x y z, scan (!k.masks) (most16 k) (L.part ++ b) = (x, y, z) := ⟨_, _, _, rfl⟩
    have hA := Lg.feed_by hd hs
    rw [hs, List.length_append] at g3
    simp only at g3
    have hf := feedFold_len k fs (L.setp p e, [], false)
    change (feedFs k (L.setp p e) fs).2.1.length ≤ 0 + fs.length at hf
    rw [hA]
    split
    · show (feedFs k (L.setp p e) fs).2.1.length ≤ _
      omega
    · split
      · show (feedFs k (L.setp p e) fs).2.1.length ≤ _
        omega
      · show (feedFs k (L.setp p e) fs).2.1.length ≤ _
        omega
/-- Feeding doesn't depend on where a side lies. -/
theorem Lg.close_congr {k k' : Lk} (h1 : k.out = k'.out) (h2 : k.masks = k'.masks) (L : Lg) (c : Int) (s : ByteArray) : L.close k c s = L.close k' c s := by
  unfold Lg.close Lg.ctl
  rw [h1, h2]
theorem Lg.takeF_congr {k k' : Lk} (h1 : k.out = k'.out) (h2 : k.masks = k'.masks) (L : Lg) (f : Fr) : L.takeF k f = L.takeF k' f := by
  unfold Lg.takeF Lg.fail Lg.pong
  simp only [Lg.close_congr h1 h2, h1, h2]
theorem Lg.feed_congr {k k' : Lk} (h0 : k.message = k'.message) (h1 : k.out = k'.out) (h2 : k.masks = k'.masks) (L : Lg) (b : List Int) : L.feed k b = L.feed k' b := by
  have hst : feedStep k = feedStep k' := by
    funext s f
    unfold feedStep
    rw [Lg.takeF_congr h1 h2]
  have hm : most16 k = most16 k' := by unfold most16; rw [h0]
  have hff : ∀ L fs, feedFs k L fs = feedFs k' L fs := fun L fs => by unfold feedFs; rw [hst]
  have hfl : ∀ L e, Lg.fail k L e = Lg.fail k' L e := fun L e => by unfold Lg.fail; rw [Lg.close_congr h1 h2]
  unfold Lg.feed Lg.fed
  simp only [hff, hfl, hm, h2]
theorem Lg.new_read (k : Lk) (m : Nat) (d : Int) : (Lg.new m d).read k := fun _ => ⟨rfl, rfl⟩
end Go.Proofs.YtlnabpoohnphiaaGreat
/- msg: plain laws. -/
namespace Go.Proofs.YtlnabpoohnphiaaGreat
set_option linter.unusedSimpArgs false
set_option linter.unusedVariables false

theorem form_data {f : Fr} (h : f.op = 0 ∨ f.op = 1 ∨ f.op = 2) (hk : f.masked = true ∨ f.key = [0, 0, 0, 0]) : check9 f ≠ 91 ∧ f.op ≠ 8 ∧ control9 f.op = false := by
  have hc : control9 f.op = false := decide_eq_false (by omega)
  refine ⟨?_, by omega, hc⟩
  have hf : form9 f = true := by
    have hk' : known9 f.op = true := decide_eq_true (by omega)
    unfold form9
    rw [hk', hc]
    rcases hk with h | h
    · rw [h]; simp
    · rw [h]; simp
  unfold check9
  rw [if_pos hf]
  split <;> omega
theorem form_ctl {f : Fr} (h : f.op = 9 ∨ f.op = 10) (hfin : f.fin = true) (hz : f.data.size ≤ 125) (hk : f.masked = true ∨ f.key = [0, 0, 0, 0]) : check9 f ≠ 91 ∧ f.op ≠ 8 ∧ control9 f.op = true := by
  have hc : control9 f.op = true := decide_eq_true (by omega)
  refine ⟨?_, by omega, hc⟩
  have hf : form9 f = true := by
    have hk' : known9 f.op = true := decide_eq_true (by omega)
    have hz' : decide (125 < f.data.size) = false := decide_eq_false (by omega)
    unfold form9
    rw [hk', hc, hfin, hz']
    rcases hk with h | h
    · rw [h]; simp
    · rw [h]; simp
  unfold check9
  rw [if_pos hf]
  split <;> omega
theorem mt_data {c : Mc} {f : Fr} (he : c.err = 0) (ho : c.over = false) (h : f.op = 0 ∨ f.op = 1 ∨ f.op = 2) (hk : f.masked = true ∨ f.key = [0, 0, 0, 0]) : mtake c f = mdata c f := by
  obtain ⟨h1, h2, h3⟩ := form_data h hk
  unfold mtake
  rw [if_neg (fun h => h he), if_neg (by rw [ho]; simp), if_neg h1, if_neg h2, if_neg (by rw [h3]; simp)]
theorem mt_ctl {c : Mc} {f : Fr} (he : c.err = 0) (ho : c.over = false) (h : f.op = 9 ∨ f.op = 10) (hfin : f.fin = true) (hz : f.data.size ≤ 125) (hk : f.masked = true ∨ f.key = [0, 0, 0, 0]) : mtake c f = (c, ⟨f.op, 0, f.data⟩, true, 0) := by
  obtain ⟨h1, h2, h3⟩ := form_ctl h hfin hz hk
  unfold mtake
  rw [if_neg (fun h => h he), if_neg (by rw [ho]; simp), if_neg h1, if_neg h2, if_pos h3]
theorem mt_still {c : Mc} (f : Fr) (h : c.err ≠ 0 ∨ c.over = true) : mtake c f = (c, Ev.zero, false, c.err) := by
  unfold mtake
  by_cases he : c.err = 0
  · rw [if_neg (fun h => h he), if_pos (by rcases h with h | h; exact absurd he h; exact h), he]
  · rw [if_pos he]
/-- Behind an error, or an end, nothing is kept. -/
def Mc.tidy (c : Mc) : Prop := (c.err = 0 ∧ c.over = false) ∨ c.part = ⟨#[]⟩
theorem mgo_tidy {c : Mc} (f : Fr) (he : c.err = 0) (ho : c.over = false) : (mgo c f).1.tidy := by
  unfold mgo
  split
  · exact .inr rfl
  split
  · split
    · exact .inr rfl
    split
    · exact .inl ⟨he, ho⟩
    · exact .inr rfl
  split
  · exact .inl ⟨he, ho⟩
  · exact .inr rfl
theorem mtake_tidy {c : Mc} (f : Fr) (h : c.tidy) : (mtake c f).1.tidy := by
  unfold mtake
  split
  · exact h
  rename_i h1
  have he : c.err = 0 := by
    by_cases h : c.err = 0
    · exact h
    · exact absurd h h1
  split
  · exact h
  rename_i h2
  have ho : c.over = false := by simpa using h2
  split
  · exact .inr rfl
  split
  · unfold mend
    split
    · exact .inr rfl
    · exact .inr rfl
  split
  · exact h
  · unfold mdata
    split
    · split
      · exact .inr rfl
      · exact mgo_tidy f he ho
    · split
      · exact mgo_tidy (c := { c with op := f.op, u := Uc.new }) f he ho
      · exact .inr rfl
theorem mtake_most (c : Mc) (f : Fr) : (mtake c f).1.most = c.most := by
  have hgo : ∀ (c : Mc) (f : Fr), (mgo c f).1.most = c.most := fun c f => by
    unfold mgo
    split
    · rfl
    split
    · split
      · rfl
      split <;> rfl
    split <;> rfl
  unfold mtake
  split
  · rfl
  split
  · rfl
  split
  · rfl
  split
  · unfold mend
    split <;> rfl
  split
  · rfl
  · unfold mdata
    split
    · split
      · rfl
      · exact hgo c f
    · split
      · exact hgo _ f
      · rfl
/-- Masks don't matter. -/
theorem mtake_mask (c : Mc) (fin : Bool) (op : Int) (k0 k1 k2 k3 : Int) (d : ByteArray) : mtake c ⟨fin, op, true, k0, k1, k2, k3, d⟩ = mtake c ⟨fin, op, false, 0, 0, 0, 0, d⟩ := by
  have hf : form9 ⟨fin, op, true, k0, k1, k2, k3, d⟩ = form9 ⟨fin, op, false, 0, 0, 0, 0, d⟩ := by
    unfold form9
    simp [Fr.key]
  have hc : check9 ⟨fin, op, true, k0, k1, k2, k3, d⟩ = check9 ⟨fin, op, false, 0, 0, 0, 0, d⟩ := by
    unfold check9
    rw [hf]
  unfold mtake
  rw [hc]
  rfl
/-- The begun message of another kind than letters: more of it, or its end. -/
theorem mgo_two (most : Int) (p : ByteArray) (u : Uc) (fin : Bool) (op : Int) (mk : Bool) (k0 k1 k2 k3 : Int) (d : ByteArray) : mgo ⟨most, 2, p, u, false, 0⟩ ⟨fin, op, mk, k0, k1, k2, k3, d⟩ =
    if most < p.size + d.size then (⟨most, 0, ⟨#[]⟩, u, false, 121⟩, Ev.zero, false, 121) else if fin = false then (⟨most, 2, p ++ d, u, false, 0⟩, Ev.zero, false, 0) else (⟨most, 0, ⟨#[]⟩, u, false, 0⟩, ⟨2, 0, p ++ d⟩, true, 0) := by
  unfold mgo
  simp only
  rw [if_neg (show ¬ ((2 : Int) = 1) by omega)]
  rfl
theorem empty_append (d : ByteArray) : (⟨#[]⟩ : ByteArray) ++ d = d := by
  apply ByteArray.ext
  simp
theorem mt_begin (most : Int) (u : Uc) (fin : Bool) (d : ByteArray) : mtake ⟨most, 0, ⟨#[]⟩, u, false, 0⟩ ⟨fin, 2, false, 0, 0, 0, 0, d⟩ =
    if most < d.size then (⟨most, 0, ⟨#[]⟩, Uc.new, false, 121⟩, Ev.zero, false, 121) else if fin = false then (⟨most, 2, d, Uc.new, false, 0⟩, Ev.zero, false, 0) else (⟨most, 0, ⟨#[]⟩, Uc.new, false, 0⟩, ⟨2, 0, d⟩, true, 0) := by
  rw [mt_data rfl rfl (.inr (.inr rfl)) (.inr rfl)]
  unfold mdata
  rw [if_neg (show ¬ ((2 : Int) = 0) by omega), if_pos rfl]
  rw [mgo_two, empty_append]
  have : ((⟨#[]⟩ : ByteArray).size : Int) + d.size = d.size := by
    show (0 : Int) + d.size = d.size
    omega
  rw [this]
theorem mt_more (most : Int) (p : ByteArray) (u : Uc) (fin : Bool) (d : ByteArray) : mtake ⟨most, 2, p, u, false, 0⟩ ⟨fin, 0, false, 0, 0, 0, 0, d⟩ =
    if most < p.size + d.size then (⟨most, 0, ⟨#[]⟩, u, false, 121⟩, Ev.zero, false, 121) else if fin = false then (⟨most, 2, p ++ d, u, false, 0⟩, Ev.zero, false, 0) else (⟨most, 0, ⟨#[]⟩, u, false, 0⟩, ⟨2, 0, p ++ d⟩, true, 0) := by
  rw [mt_data rfl rfl (.inl rfl) (.inr rfl)]
  unfold mdata
  rw [if_pos rfl, if_neg (show ¬ ((2 : Int) = 0) by omega), mgo_two]
end Go.Proofs.YtlnabpoohnphiaaGreat
/- leg: one side's message, read by another one; plain Lean. -/
namespace Go.Proofs.YtlnabpoohnphiaaGreat
open Go.RowKit
set_option linter.unusedSimpArgs false
set_option linter.unusedVariables false

/-- A machine between messages. -/
def Mc.idle (M : Int) (u : Uc) : Mc := ⟨M, 0, ⟨#[]⟩, u, false, 0⟩
theorem cut_in {s : ByteArray} {m n : Nat} {f : Fr} (h : f ∈ cutFs 2 s m n) : f.good ∨ maxLen < s.size := by
  by_cases hs : s.size ≤ maxLen
  · exact .inl (cutFs_good (.inr rfl) s hs m n f h)
  · exact .inr (by omega)
theorem cut_form2 {s : ByteArray} {m n : Nat} {f : Fr} (h : f ∈ cutFs 2 s m n) : form9 f = true ∧ f.masked = false ∧ f.data.size ≤ s.size ∧ f.data.size ≤ m := by
  have hz := cutFs_size 2 s m n f h
  unfold cutFs at h
  obtain ⟨i, _, rfl⟩ := List.mem_map.1 h
  refine ⟨?_, rfl, ?_, hz⟩
  · unfold cutF form9 known9 control9
    by_cases hi : i = 0
    · simp [hi, Fr.key]
    · simp [hi, Fr.key]
  · show (s.extract _ _).size ≤ _
    rw [ByteArray.size_extract]
    omega
theorem mask_form {f : Fr} (h : form9 f = true) (d : Int) : form9 (mask1 f d) = true := by
  unfold form9 at h ⊢
  simp only [Bool.and_eq_true] at h
  have e1 : (mask1 f d).op = f.op := rfl
  have e2 : (mask1 f d).fin = f.fin := rfl
  have e3 : (mask1 f d).data = f.data := rfl
  have e4 : (mask1 f d).masked = true := rfl
  rw [e1, e2, e3, e4]
  simp [h.1.1, h.1.2]
theorem form_check {f : Fr} (h : form9 f = true) (hz : f.data.size ≤ 65536) : check9 f = 0 := by
  unfold check9
  rw [if_pos h, if_neg (by omega)]
theorem mfr_mem (l : List Fr) : ∀ (d : Int) (f : Fr), f ∈ mfr true l d → ∃ g ∈ l, ∃ e, f = mask1 g e ∧ 0 ≤ e ∧ e ≤ 4294967295 := by
  induction l with
  | nil => intro d f h; cases h
  | cons g gs ih =>
    intro d f h
    simp only [mfr, if_true] at h
    rcases List.mem_cons.1 h with rfl | h
    · exact ⟨g, List.mem_cons_self, nd d, rfl, (nd_in d).1, (nd_in d).2⟩
    · obtain ⟨g', h1, h2⟩ := ih _ f h
      exact ⟨g', List.mem_cons_of_mem _ h1, h2⟩
theorem mtake_mask_ (c : Mc) (f : Fr) (d : Int) (h : f.masked = false) (hk : f.key = [0, 0, 0, 0]) : mtake c (mask1 f d) = mtake c f := by
  obtain ⟨fin, op, masked, k0, k1, k2, k3, data⟩ := f
  simp only [Fr.key, List.cons.injEq, and_true] at hk
  simp only at h
  obtain ⟨rfl, rfl, rfl, rfl⟩ := hk
  subst h
  exact mtake_mask c fin op _ _ _ _ data
theorem ext_grow (s : ByteArray) (a b : Nat) (h : a ≤ b) : s.extract 0 a ++ s.extract a b = s.extract 0 b := by
  apply sb_inj
  rw [sb_append, sb_extract, sb_extract, sb_extract]
  simp only [List.drop_zero]
  rw [show (sb s).take a = ((sb s).take b).take a from by rw [List.take_take, Nat.min_eq_left h], List.take_append_drop]
theorem ext_all (s : ByteArray) (b : Nat) (h : s.size ≤ b) : s.extract 0 b = s := by
  apply sb_inj
  rw [sb_extract, List.drop_zero, List.take_of_length_le (by rw [sb_length]; exact h)]
theorem takeF_mute {k : Lk} {L : Lg} {f : Fr} {c : Mc} {x : Ev} (h : mtake L.m f = (c, x, false, 0)) : L.takeF k f = ({ L with m := c }, x, false) := by
  unfold Lg.takeF
  rw [h]
  simp
theorem takeF_tell {k : Lk} {L : Lg} {f : Fr} {c : Mc} {x : Ev} (h : mtake L.m f = (c, x, true, 0)) (h9 : x.op ≠ 9) (h8 : x.op ≠ 8) : L.takeF k f = ({ L with m := c }, x, true) := by
  unfold Lg.takeF
  rw [h]
  simp [h9, h8]
/-- The machine ahead of frame i of a message. -/
def Mc.at2 (M : Int) (u : Uc) (s : ByteArray) (m i : Nat) : Mc := if i = 0 then Mc.idle M u else ⟨M, 2, s.extract 0 (i * m), Uc.new, false, 0⟩
theorem at2_step (M : Int) (u : Uc) (s : ByteArray) (m n i : Nat) (hM : (s.size : Int) ≤ M) (hi : i + 1 < n) (hm : (i + 1) * m ≤ s.size) :
    ∃ x, mtake (Mc.at2 M u s m i) (cutF 2 s m n i) = (Mc.at2 M u s m (i + 1), x, false, 0) := by
  have hmn : min (i * m + m) s.size = (i + 1) * m := by rw [Nat.succ_mul] at hm ⊢; omega
  have hfin : decide (i + 1 = n) = false := decide_eq_false (by omega)
  unfold cutF
  rw [hmn, hfin]
  have hA : Mc.at2 M u s m (i + 1) = ⟨M, 2, s.extract 0 ((i + 1) * m), Uc.new, false, 0⟩ := by unfold Mc.at2; rw [if_neg (by omega)]
  rw [hA]
  by_cases h0 : i = 0
  · subst h0
    have hB : Mc.at2 M u s m 0 = ⟨M, 0, ⟨#[]⟩, u, false, 0⟩ := by unfold Mc.at2; rw [if_pos rfl]; rfl
    rw [hB, if_pos rfl, mt_begin, if_neg (by rw [ByteArray.size_extract]; omega), if_pos rfl]
    refine ⟨Ev.zero, ?_⟩
    rw [Nat.zero_mul]
  · have hB : Mc.at2 M u s m i = ⟨M, 2, s.extract 0 (i * m), Uc.new, false, 0⟩ := by unfold Mc.at2; rw [if_neg h0]
    rw [hB, if_neg h0, mt_more, if_neg ?_, if_pos rfl, ext_grow s _ _ (Nat.mul_le_mul_right m (by omega))]
    · exact ⟨Ev.zero, rfl⟩
    · rw [ByteArray.size_extract, ByteArray.size_extract]
      have : i * m ≤ (i + 1) * m := Nat.mul_le_mul_right m (by omega)
      omega
theorem at2_last (M : Int) (u : Uc) (s : ByteArray) (m n : Nat) (hM : (s.size : Int) ≤ M) (hn : 1 ≤ n) (hnm : s.size ≤ n * m) (hm : (n - 1) * m ≤ s.size) :
    ∃ u', mtake (Mc.at2 M u s m (n - 1)) (cutF 2 s m n (n - 1)) = (Mc.idle M u', ⟨2, 0, s⟩, true, 0) := by
  have hmn : min ((n - 1) * m + m) s.size = s.size := by
    have : (n - 1) * m + m = n * m := by rw [← Nat.succ_mul]; congr 1; omega
    omega
  have hfin : decide (n - 1 + 1 = n) = true := decide_eq_true (by omega)
  unfold cutF
  rw [hmn, hfin]
  by_cases h0 : n - 1 = 0
  · have hB : Mc.at2 M u s m (n - 1) = ⟨M, 0, ⟨#[]⟩, u, false, 0⟩ := by unfold Mc.at2; rw [if_pos h0]; rfl
    rw [hB, if_pos h0, mt_begin, if_neg (by rw [ByteArray.size_extract]; omega), if_neg (by simp), h0, Nat.zero_mul, ext_all s _ (Nat.le_refl _)]
    exact ⟨Uc.new, rfl⟩
  · have hB : Mc.at2 M u s m (n - 1) = ⟨M, 2, s.extract 0 ((n - 1) * m), Uc.new, false, 0⟩ := by unfold Mc.at2; rw [if_neg h0]
    rw [hB, if_neg h0, mt_more, if_neg ?_, if_neg (by simp), ext_grow s _ _ hm, ext_all s _ (Nat.le_refl _)]
    · exact ⟨Uc.new, rfl⟩
    · rw [ByteArray.size_extract, ByteArray.size_extract]
      omega
theorem cut_drop (s : ByteArray) (m n i : Nat) (hi : i < n) : (cutFs 2 s m n).drop i = cutF 2 s m n i :: (cutFs 2 s m n).drop (i + 1) := by
  have hl : i < (cutFs 2 s m n).length := by simp [cutFs, hi]
  rw [List.drop_eq_getElem_cons hl]
  congr 1
  simp [cutFs]
theorem cutF_plain (s : ByteArray) (m n i : Nat) : (cutF 2 s m n i).masked = false ∧ (cutF 2 s m n i).key = [0, 0, 0, 0] := ⟨rfl, rfl⟩
/-- A message's frames, masked, told to a side: the message. -/
theorem msg_told (k : Lk) (M : Int) (u : Uc) (s : ByteArray) (m n : Nat) (hM : (s.size : Int) ≤ M) (hn : 1 ≤ n) (hnm : s.size ≤ n * m) (hm : (n - 1) * m ≤ s.size) :
    ∀ (r i : Nat) (L : Lg) (d : Int) (out : List Ev), i + (r + 1) = n → L.m = Mc.at2 M u s m i → L.down = false →
    ∃ u', (mfr true ((cutFs 2 s m n).drop i) d).foldl (feedStep k) (L, out, false) = ({ L with m := Mc.idle M u' }, out ++ [⟨2, 0, s⟩], false) := by
  intro r
  induction r with
  | zero =>
    intro i L d out hi hL hd
    obtain rfl : i = n - 1 := by omega
    rw [cut_drop s m n (n - 1) (by omega), List.drop_eq_nil_of_le (by simp [cutFs]; omega)]
    obtain ⟨u', hu⟩ := at2_last M u s m n hM hn hnm hm
    simp only [mfr, if_true, List.foldl_cons, List.foldl_nil]
    have ht := takeF_tell (k := k) (L := L) (f := mask1 (cutF 2 s m n (n - 1)) (nd d)) (c := Mc.idle M u') (x := ⟨2, 0, s⟩) (by rw [mtake_mask_ _ _ _ rfl rfl, hL]; exact hu) (by simp) (by simp)
    refine ⟨u', ?_⟩
    unfold feedStep
    rw [if_neg (by simp)]
    simp only [ht, if_true]
    exact Prod.ext rfl (Prod.ext rfl hd)
  | succ r ih =>
    intro i L d out hi hL hd
    rw [cut_drop s m n i (by omega)]
    have hlt : (i + 1) * m ≤ s.size := Nat.le_trans (Nat.mul_le_mul_right m (by omega)) hm
    obtain ⟨x, hx⟩ := at2_step M u s m n i hM (by omega) hlt
    simp only [mfr, if_true, List.foldl_cons]
    have ht := takeF_mute (k := k) (L := L) (f := mask1 (cutF 2 s m n i) (nd d)) (c := Mc.at2 M u s m (i + 1)) (x := x) (by rw [mtake_mask_ _ _ _ rfl rfl, hL]; exact hx)
    have hst : feedStep k (L, out, false) (mask1 (cutF 2 s m n i) (nd d)) = ({ L with m := Mc.at2 M u s m (i + 1) }, out, false) := by
      unfold feedStep
      rw [if_neg (by simp)]
      simp only [ht]
      exact Prod.ext rfl (Prod.ext (by simp) hd)
    rw [hst]
    obtain ⟨u', h⟩ := ih (i + 1) { L with m := Mc.at2 M u s m (i + 1) } (nd d) out (by omega) rfl hd
    exact ⟨u', h⟩
theorem msg_told0 (k : Lk) (M : Int) (u : Uc) (s : ByteArray) (m n : Nat) (hM : (s.size : Int) ≤ M) (hn : 1 ≤ n) (hnm : s.size ≤ n * m) (hm : (n - 1) * m ≤ s.size) (L : Lg) (d : Int) (out : List Ev) (hL : L.m = Mc.idle M u) (hd : L.down = false) :
    ∃ u', (mfr true (cutFs 2 s m n) d).foldl (feedStep k) (L, out, false) = ({ L with m := Mc.idle M u' }, out ++ [⟨2, 0, s⟩], false) := by
  have := msg_told k M u s m n hM hn hnm hm (n - 1) 0 L d out (by omega) (by rw [hL]; unfold Mc.at2; rw [if_pos rfl]) hd
  rw [List.drop_zero] at this
  exact this
end Go.Proofs.YtlnabpoohnphiaaGreat
