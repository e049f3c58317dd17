/- law17: two sessions apart. -/
import Derived.Test.YtlnabpoohnphiaaGreatB44
namespace Go.Proofs.YtlnabpoohnphiaaGreat
open Go.RowKit
set_option linter.unusedSimpArgs false
set_option linter.unusedVariables false

section
variable {E : Nat → Prop} {w wr w' : World} {g : Nat} {X : Bx} {K : Bk} {gl gq : Bool → Nat} {B B' : Br}
/-- Something that does not touch its own blocks goes by. -/
theorem IsB.far (h : IsB E wr g X K gl gq B) {T : Nat → Prop} (t : Touch T wr w') (hT : ∀ b, b < wr.heap.size → T b → E b) (hy : ByT BrT wr w') : IsB (fun b => E b ∨ (wr.heap.size ≤ b ∧ b < w'.heap.size)) w' g X K gl gq B := by
  obtain ⟨V, hi, hd, hE, hl⟩ := h.legs
  have hn : ∀ i b, LF (gl i) (K.k i) (V i) b → ¬ T b := fun i b hb hs => hE i b hb (hT b ((hi i).lt hb) hs)
  refine ⟨h.blk.touch t (fun hs => h.new (hT _ h.blk.lt hs)), ⟨V, fun i => (hi i).touch t (fun b hb => hn i b hb), hd, fun i b hb he => ?_, fun b hb => ?_⟩, fun i => ?_, h.ne, fun he => ?_, fun i he => ?_⟩
  · rcases he with he | he
    · exact hE i b hb he
    · have := (hi i).lt hb
      omega
  · rcases hb with hb | hb
    · exact Nat.lt_of_lt_of_le (hl b hb) t.size
    · exact hb.2
  · obtain ⟨A, c, hb, q1, q2, q3⟩ := h.q i
    exact ⟨A, c, hb.touch t (fun hs => h.newq i (hT _ hb.lt hs)), q1, hy.row q2 (by unfold BrT LegT; decide), q3⟩
  · rcases he with he | he
    · exact h.new he
    · have := h.blk.lt
      omega
  · rcases he with he | he
    · exact h.newq i he
    · have := (h.q i).lt
      omega
end
/-- Two sessions; the blocks of S are none of the second. -/
structure TwoS (S : Nat → Prop) (w wr : World) (ga gb : Nat) (X Y : Bx) (K J : Bk) (la qa lb qb : Bool → Nat) (A B : Br) : Prop where
  old : Touch NoS w wr
  own : ∀ b, S b → w.heap.size ≤ b ∧ b < wr.heap.size
  a : IsB (fun b => b < wr.heap.size ∧ ¬ S b) wr ga X K la qa A
  b : IsB (fun b => b < wr.heap.size ∧ (S b ∨ b < w.heap.size)) wr gb Y J lb qb B
section
variable {S : Nat → Prop} {w wr w' : World} {ga gb : Nat} {X Y : Bx} {K J : Bk} {la qa lb qb : Bool → Nat} {A B A' B' : Br}
theorem TwoS.no (h : TwoS S w wr ga gb X Y K J la qa lb qb A B) (t : Touch NoS wr w') : TwoS S w w' ga gb X Y K J la qa lb qb A B := by
  refine ⟨h.old.trans t, fun b hb => ⟨(h.own b hb).1, Nat.lt_of_lt_of_le (h.own b hb).2 t.size⟩, (h.a.grow t).less fun b hb => ?_, (h.b.no t).less fun b hb => ?_⟩
  · by_cases hl : b < wr.heap.size
    · exact .inl ⟨hl, hb.2⟩
    · exact .inr ⟨Nat.le_of_not_lt hl, hb.1⟩
  · refine ⟨?_, hb.2⟩
    rcases hb.2 with hs | hs
    · exact (h.own b hs).2
    · exact Nat.lt_of_lt_of_le hs h.old.size
/-- The first one does something. -/
theorem TwoS.actA (h : TwoS S w wr ga gb X Y K J la qa lb qb A B) (s : Sett (fun b => b < wr.heap.size ∧ ¬ S b) wr w' ga X K la qa A') : TwoS (fun b => S b ∨ (wr.heap.size ≤ b ∧ b < w'.heap.size)) w w' ga gb X Y K J la qa lb qb A' B := by
  have hsz := h.old.size
  have hsz2 := s.touch.size
  refine ⟨h.old.then_new s.touch (fun i hi => ?_), fun b hb => ?_, s.is.less fun b hb => ?_, (h.b.far s.touch (fun b hl hn => ?_) s.byT).less fun b hb => ?_⟩
  · refine .inl (Nat.le_of_not_lt fun hl => hi ⟨by omega, fun hs => ?_⟩)
    have := (h.own i hs).1
    omega
  · rcases hb with hb | hb
    · have := h.own b hb
      omega
    · omega
  · refine ⟨Decidable.byContradiction fun hl => hb.2 (.inr ⟨by omega, hb.1⟩), fun hs => hb.2 (.inl hs)⟩
  · by_cases hs : S b
    · exact ⟨hl, .inl hs⟩
    · exact absurd ⟨hl, hs⟩ hn
  · by_cases hl : b < wr.heap.size
    · refine .inl ⟨hl, ?_⟩
      rcases hb.2 with (hs | hs) | hs
      · exact .inl hs
      · omega
      · exact .inr hs
    · exact .inr ⟨by omega, hb.1⟩
/-- The second one does something. -/
theorem TwoS.actB (h : TwoS S w wr ga gb X Y K J la qa lb qb A B) (s : Sett (fun b => b < wr.heap.size ∧ (S b ∨ b < w.heap.size)) wr w' gb Y J lb qb B') : TwoS S w w' ga gb X Y K J la qa lb qb A B' := by
  have hsz := h.old.size
  have hsz2 := s.touch.size
  refine ⟨h.old.then_new s.touch (fun i hi => ?_), fun b hb => ?_, (h.a.far s.touch (fun b hl hn => ?_) s.byT).less fun b hb => ?_, s.is.less fun b hb => ?_⟩
  · exact .inl (Nat.le_of_not_lt fun hl => hi ⟨by omega, .inr hl⟩)
  · have := h.own b hb
    omega
  · exact ⟨hl, fun hs => hn ⟨hl, .inl hs⟩⟩
  · by_cases hl : b < wr.heap.size
    · exact .inl ⟨hl, hb.2⟩
    · exact .inr ⟨by omega, hb.1⟩
  · refine ⟨?_, hb.2⟩
    rcases hb.2 with hs | hs
    · exact (h.own b hs).2
    · omega
end
/-- Both, with what always holds. -/
def Two17 (w wr : World) (ga gb : Nat) (X Y : Bx) (K J : Bk) (la qa lb qb : Bool → Nat) (n : Nat) (A B : Br) : Prop :=
  (∃ S, TwoS S w wr ga gb X Y K J la qa lb qb A B) ∧ BrI K n (2147483648 * (n : Int)) A ∧ BrI J n (2147483648 * (n : Int)) B ∧ Kfits K ∧ Kfits J ∧ K.message ≤ 65536 ∧ J.message ≤ 65536
section
variable {w wr w' : World} {ga gb : Nat} {X Y : Bx} {K J : Bk} {la qa lb qb : Bool → Nat} {n m : Nat} {A B A' B' : Br}
theorem Two17.make {w1 : World} (h : At17 w w1 ga X K la qa n A) (h2 : At17 w1 wr gb Y J lb qb n B) : Two17 w wr ga gb X Y K J la qa lb qb n A B := by
  have hsz := h.old.size
  have hsz2 := h2.old.size
  refine ⟨⟨fun b => w.heap.size ≤ b ∧ b < w1.heap.size, h.old.trans h2.old, fun b hb => ⟨hb.1, by omega⟩, (h.is.grow h2.old).less fun b hb => ?_, h2.is.less fun b hb => ?_⟩, h.inv, h2.inv, h.fits, h2.fits, h.msg, h2.msg⟩
  · by_cases hl : b < w.heap.size
    · exact .inl hl
    · exact .inr ⟨Decidable.byContradiction fun hl2 => hb.2 ⟨by omega, by omega⟩, hb.1⟩
  · rcases hb.2 with hs | hs
    · exact hs.2
    · show b < w1.heap.size
      omega
theorem Two17.old (h : Two17 w wr ga gb X Y K J la qa lb qb n A B) : Touch NoS w wr := by
  obtain ⟨⟨S, h⟩, -⟩ := h
  exact h.old
theorem Two17.no (h : Two17 w wr ga gb X Y K J la qa lb qb n A B) (t : Touch NoS wr w') : Two17 w w' ga gb X Y K J la qa lb qb n A B := by
  obtain ⟨⟨S, h⟩, h2⟩ := h
  exact ⟨⟨S, h.no t⟩, h2⟩
theorem Two17.mono (h : Two17 w wr ga gb X Y K J la qa lb qb n A B) (hm : n ≤ m) : Two17 w wr ga gb X Y K J la qa lb qb m A B := by
  obtain ⟨h, a, b, r⟩ := h
  exact ⟨h, a.mono hm (by omega), b.mono hm (by omega), r⟩
theorem Two17.isA (h : Two17 w wr ga gb X Y K J la qa lb qb n A B) : ∃ E, IsB E wr ga X K la qa A := by
  obtain ⟨⟨S, h⟩, -⟩ := h
  exact ⟨_, h.a⟩
theorem Two17.isB (h : Two17 w wr ga gb X Y K J la qa lb qb n A B) : ∃ E, IsB E wr gb Y J lb qb B := by
  obtain ⟨⟨S, h⟩, -⟩ := h
  exact ⟨_, h.b⟩
theorem Two17.tickA (h : Two17 w wr ga gb X Y K J la qa lb qb n A B) (hn : n ≤ 90000) (x : Int) : Calls Tryz.prog 23 #[.pointer (some ⟨ga, 0, none⟩), .int .i64 x] wr fun e w' => e = .returned (.tuple #[]) ∧ Two17 w w' ga gb X Y K J la qa lb qb (n + 2) (A.tick K x) B := by
  obtain ⟨⟨S, h⟩, ha, hb, f1, f2, r⟩ := h
  refine (b_tick h.a ha f1 (by omega) hn x).mono ?_
  rintro e w' ⟨rfl, s⟩
  exact ⟨rfl, ⟨_, h.actA s⟩, (ha.tick f1 x).mono (Nat.le_refl _) (by omega), hb.mono (by omega) (by omega), f1, f2, r⟩
theorem Two17.tickB (h : Two17 w wr ga gb X Y K J la qa lb qb n A B) (hn : n ≤ 90000) (x : Int) : Calls Tryz.prog 23 #[.pointer (some ⟨gb, 0, none⟩), .int .i64 x] wr fun e w' => e = .returned (.tuple #[]) ∧ Two17 w w' ga gb X Y K J la qa lb qb (n + 2) A (B.tick J x) := by
  obtain ⟨⟨S, h⟩, ha, hb, f1, f2, r⟩ := h
  refine (b_tick h.b hb f2 (by omega) hn x).mono ?_
  rintro e w' ⟨rfl, s⟩
  exact ⟨rfl, ⟨_, h.actB s⟩, ha.mono (by omega) (by omega), (hb.tick f2 x).mono (Nat.le_refl _) (by omega), f1, f2, r⟩
theorem Two17.feedA (h : Two17 w wr ga gb X Y K J la qa lb qb n A B) (hn : n ≤ 90000) (i : Bool) (l : List Int) (hl : bytesIn l) (hm : l.length ≤ 1000000) (W : World) (ht : Touch NoS wr W) (b k c : Nat) (hb : wr.heap.size ≤ b) (hbl : b < W.heap.size) (hk : l.length = k) (hc : k ≤ c) (hr : Rd W (some ⟨b, 0, none⟩) (u8s l)) :
    Calls Tryz.prog 17 #[.pointer (some ⟨ga, 0, none⟩), .int .i64 i.toNat, .slice (some ⟨b, 0, none⟩) k c] W fun e w' => e = .returned (.int .i64 (A.feed K i l).2) ∧ Two17 w w' ga gb X Y K J la qa lb qb n (A.feed K i l).1 B := by
  obtain ⟨⟨S, h⟩, ha, hb', f1, f2, r1, r2⟩ := h
  have hW := h.no ht
  refine (b_feed hW.a ha f1 (by omega) (by omega) r1 i l hl (some ⟨b, 0, none⟩) k c hk (by omega) hc hr (fun a ha => by cases ha; exact ⟨hbl, fun hs => by have := (h.own b hs).2; omega⟩)).mono ?_
  rintro e w' ⟨rfl, s⟩
  exact ⟨rfl, ⟨_, hW.actA s⟩, BrI.feedN f1 i (by omega) l A hl ha, hb', f1, f2, r1, r2⟩
theorem Two17.feedB (h : Two17 w wr ga gb X Y K J la qa lb qb n A B) (hn : n ≤ 90000) (i : Bool) (l : List Int) (hl : bytesIn l) (hm : l.length ≤ 1000000) (W : World) (ht : Touch NoS wr W) (b k c : Nat) (hb : wr.heap.size ≤ b) (hbl : b < W.heap.size) (hk : l.length = k) (hc : k ≤ c) (hr : Rd W (some ⟨b, 0, none⟩) (u8s l)) :
    Calls Tryz.prog 17 #[.pointer (some ⟨gb, 0, none⟩), .int .i64 i.toNat, .slice (some ⟨b, 0, none⟩) k c] W fun e w' => e = .returned (.int .i64 (B.feed J i l).2) ∧ Two17 w w' ga gb X Y K J la qa lb qb n A (B.feed J i l).1 := by
  obtain ⟨⟨S, h⟩, ha, hb', f1, f2, r1, r2⟩ := h
  have hW := h.no ht
  have hlt : ∀ b, S b ∨ b < w.heap.size → b < wr.heap.size := fun b hs => by
    rcases hs with hs | hs
    · exact (h.own b hs).2
    · exact Nat.lt_of_lt_of_le hs h.old.size
  refine (b_feed (h.b.grow ht) hb' f2 (by omega) (by omega) r2 i l hl (some ⟨b, 0, none⟩) k c hk (by omega) hc hr (fun a ha => by cases ha; exact .inr ⟨hb, hbl⟩)).mono ?_
  rintro e w' ⟨rfl, s⟩
  have s2 : Sett (fun b => b < W.heap.size ∧ (S b ∨ b < w.heap.size)) W w' gb Y J lb qb (B.feed J i l).1 :=
    ⟨s.is.less fun b hb => .inl ⟨hlt b hb.2, hb.2⟩, s.touch.mono fun b hn he => hn (.inl ⟨hlt b he.2, he.2⟩), s.byT⟩
  exact ⟨rfl, ⟨_, hW.actB s2⟩, ha, BrI.feedN f2 i (by omega) l B hl hb', f1, f2, r1, r2⟩
end
end Go.Proofs.YtlnabpoohnphiaaGreat
