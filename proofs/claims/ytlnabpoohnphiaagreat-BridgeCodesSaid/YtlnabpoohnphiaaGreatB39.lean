/- law17: a session as the laws see it. | ref08: Apply, digits, Put. | ref09: Control, Form, Check. -/
import Derived.Test.YtlnabpoohnphiaaGreatB38
import Derived.Test.YtlnabpoohnphiaaGreatB11
import Derived.Lib.SlBytesConst
/- law17: a session as the laws see it. -/
namespace Go.Proofs.YtlnabpoohnphiaaGreat
open Go.RowKit
set_option linter.unusedSimpArgs false
set_option linter.unusedVariables false

/-- A session that was made behind the world w. -/
structure At17 (w wr : World) (g : Nat) (X : Bx) (K : Bk) (gl gq : Bool → Nat) (n : Nat) (B : Br) : Prop where
  old : Touch NoS w wr
  is : IsB (fun b => b < w.heap.size) wr g X K gl gq B
  inv : BrI K n (2147483648 * (n : Int)) B
  fits : Kfits K
  msg : K.message ≤ 65536
section
variable {w wr w' : World} {g : Nat} {X : Bx} {K : Bk} {gl gq : Bool → Nat} {n m : Nat} {B B' : Br}
theorem At17.no (h : At17 w wr g X K gl gq n B) (t : Touch NoS wr w') : At17 w w' g X K gl gq n B := ⟨h.old.trans t, h.is.no t, h.inv, h.fits, h.msg⟩
theorem At17.mono (h : At17 w wr g X K gl gq n B) (hm : n ≤ m) : At17 w wr g X K gl gq m B := ⟨h.old, h.is, h.inv.mono hm (by omega), h.fits, h.msg⟩
theorem At17.then (h : At17 w wr g X K gl gq n B) (s : Sett (fun b => b < w.heap.size) wr w' g X K gl gq B') (hi : BrI K m (2147483648 * (m : Int)) B') : At17 w w' g X K gl gq m B' :=
  ⟨h.old.then_new s.touch (fun i hi => .inl (Nat.le_of_not_lt hi)), s.is, hi, h.fits, h.msg⟩
theorem At17.play (h : At17 w wr g X K gl gq n B) (hn : n ≤ 90000) (x : Act2) (hx : x.s.size ≤ 300) :
    Calls Tryz.prog 29 #[.pointer (some ⟨g, 0, none⟩), .agg #[.int .i64 x.kind, .int .i64 x.side, .int .i64 x.n, .string x.s]] wr fun e w' => e = .returned (.tuple #[]) ∧ At17 w w' g X K gl gq (n + 2) (B.play K x) := by
  refine (b_play (Sett.start h.is) h.inv h.fits (by omega) (by omega) hn h.msg x hx).mono ?_
  rintro e w' ⟨rfl, s⟩
  exact ⟨rfl, h.then s ((h.inv.play h.fits (by omega) x).mono (Nat.le_refl _) (by omega))⟩
theorem At17.take (h : At17 w wr g X K gl gq n B) (hn : n ≤ 90000) (i : Bool) (x : Int) : Calls Tryz.prog 18 #[.pointer (some ⟨g, 0, none⟩), .int .i64 i.toNat, .int .i64 x] wr fun e w' => (∃ A c, e = .returned (.slice A (outB (B i) x).length c) ∧ Rd w' A (u8s (outB (B i) x))) ∧ At17 w w' g X K gl gq n (B.take K i x) := by
  refine (b_take h.is h.inv h.fits (by omega) i x).mono ?_
  rintro e w' ⟨h1, s⟩
  exact ⟨h1, h.then s (h.inv.take h.fits i x)⟩
theorem At17.peek (h : At17 w wr g X K gl gq n B) (i : Bool) (x : Int) : Calls Tryz.prog 16 #[.pointer (some ⟨g, 0, none⟩), .int .i64 i.toNat, .int .i64 x] wr fun e w' => ∃ A c, e = .returned (.slice A (outB (B i) x).length c) ∧ Rd w' A (u8s (outB (B i) x)) ∧ Touch NoS wr w' := b_peek h.is i x
theorem At17.tick (h : At17 w wr g X K gl gq n B) (hn : n ≤ 90000) (x : Int) : Calls Tryz.prog 23 #[.pointer (some ⟨g, 0, none⟩), .int .i64 x] wr fun e w' => e = .returned (.tuple #[]) ∧ At17 w w' g X K gl gq (n + 2) (B.tick K x) := by
  refine (b_tick h.is h.inv h.fits (by omega) hn x).mono ?_
  rintro e w' ⟨rfl, s⟩
  exact ⟨rfl, h.then s ((h.inv.tick h.fits x).mono (Nat.le_refl _) (by omega))⟩
theorem At17.lose (h : At17 w wr g X K gl gq n B) (hn : n ≤ 90000) (i : Bool) : Calls Tryz.prog 26 #[.pointer (some ⟨g, 0, none⟩), .int .i64 i.toNat] wr fun e w' => e = .returned (.tuple #[]) ∧ At17 w w' g X K gl gq n (B.lose K i) := by
  refine (b_lose h.is h.inv h.fits (by omega) i).mono ?_
  rintro e w' ⟨rfl, s⟩
  exact ⟨rfl, h.then s (h.inv.lose h.fits i)⟩
/-- Bytes that lie in a block of their own are fed. -/
theorem At17.feed (h : At17 w wr g X K gl gq n B) (hn : n ≤ 90000) (i : Bool) (l : List Int) (hl : bytesIn l) (hm : l.length ≤ 1000000) (W : World) (ht : Touch NoS wr W) (b k c : Nat) (hb : wr.heap.size ≤ b) (hbl : b < W.heap.size) (hk : l.length = k) (hc : k ≤ c) (hr : Rd W (some ⟨b, 0, none⟩) (u8s l)) :
    Calls Tryz.prog 17 #[.pointer (some ⟨g, 0, none⟩), .int .i64 i.toNat, .slice (some ⟨b, 0, none⟩) k c] W fun e w' => e = .returned (.int .i64 (B.feed K i l).2) ∧ At17 w w' g X K gl gq n (B.feed K i l).1 := by
  refine (b_feed (h.is.grow ht) h.inv h.fits (by omega) (by omega) h.msg i l hl (some ⟨b, 0, none⟩) k c hk (by omega) hc hr (fun a ha => by cases ha; exact .inr ⟨hb, hbl⟩)).mono ?_
  rintro e w' ⟨rfl, s⟩
  refine ⟨rfl, h.then (w' := w') ⟨s.is.less fun b hb => .inl hb, ht.of_no.trans (s.touch.mono fun b hb he => hb (.inl he)), (ByT.no ht).trans s.byT⟩ (BrI.feedN h.fits i (by omega) l B hl h.inv)⟩
theorem At17.ring (h : At17 w wr g X K gl gq n B) (i : Bool) : (B i).leg.o.ring.length ≤ (K.k i).out ∧ bytesIn (B i).leg.o.ring := by
  obtain ⟨w0, hs⟩ := h.is.side i
  refine ⟨hs.ring, ?_⟩
  obtain ⟨V, iv, -, -⟩ := hs
  exact iv.out.ring.bytes
end
theorem u8_nn {x : Int} (h : 0 ≤ x ∧ x ≤ 255) : ∃ m : Nat, x = m ∧ m ≤ 255 := ⟨x.toNat, by omega, by omega⟩
/-- A session of the laws' configuration. -/
theorem a_new (b M F C Q O : Nat) (h1 : 1 ≤ M) (h2 : M ≤ Q) (hq : Q ≤ 1000) (hm : M ≤ 256) (hc1 : 1 ≤ C) (hc2 : C ≤ 8) (h3 : 1 ≤ F) (h4 : F ≤ 256) (h5 : 1 ≤ O) (h6 : O ≤ 256) (draw : Int) (w : World) (hb : Blk w b 101 #[.string ⟨#[47]⟩, .string ⟨#[]⟩, .string ⟨#[120]⟩]) :
    Calls Tryz.prog 13 #[.agg (cfgW b M F C Q O), .int .u32 draw] w fun e w' =>
      ∃ (g : Nat) (gl gq : Bool → Nat) (X : Bx) (K : Bk), e = .returned (.tuple #[.pointer (some ⟨g, 0, none⟩), .int .i64 0]) ∧ K.message = M ∧ K.count = (C : Int) ∧ K.bytes = (Q : Int) ∧ K.idle = 9 ∧ K.pong = 3 ∧ K.close = 4 ∧ (∀ i, LkOf (K.k i) M F O i) ∧ At17 w w' g X K gl gq 0 (Br.new M draw) := by
  refine (b_new b M F C Q O h1 h2 (by omega) (by omega) hc1 (by omega) h3 (by omega) h5 (by omega) draw w hb).mono ?_
  rintro e w' ⟨g, gl, gq, X, K, rfl, k1, k2, k3, k4, k5, k6, k7, hB, ht⟩
  have hK : Kfits K := ⟨fun i => by
    obtain ⟨q1, q2, q3, -⟩ := k7 i
    exact ⟨by omega, by omega, by omega, by omega, by omega, by omega⟩, by omega, by omega⟩
  exact ⟨g, gl, gq, X, K, rfl, k1, k2, k3, k4, k5, k6, k7, ht, hB, (BrI.new hK M (fun i => (k7 i).1) draw).mono (Nat.le_refl _) (by omega), hK, by omega⟩
theorem conv_const (w : World) (C : Array Value) (n c : Nat) : (convert 43 43 (.slice (some ⟨w.heap.size, 0, none⟩) n c)).run Tryz.prog (w.alloc (.cells C 5)) = .ok (.slice (some ⟨w.heap.size, 0, none⟩) n c) (w.alloc (.cells C 5 (C.size, C.size + 1))) :=
  Lib.run_convert_bytes_const (P := Tryz.prog) w 43 5 C n c Tryz.underlying43 Tryz.underlying5
def aw17l : List Int := [129, 130, 1, 2, 3, 4, 73, 107]
def aw17o : List Int := [129, 130, 60, 110, 243, 95, 116, 7]
structure Aw17 (K : Bk) (R : Br × Nat) (B : Br) : Prop where
  n : R.2 = 8
  out : outB (R.1 true) 99 = aw17o
  q : (B false).q = []
  sent : (B false).leg.sent = false
  got : (B false).leg.got = false
  wrong : (B false).leg.wrong = 0
  lost : (B false).lost = false
  over : B.over = false
set_option maxRecDepth 100000 in
theorem aw17_k (k0 k1 : Lk) (h0 : LkOf k0 100 100 100 false) (h1 : LkOf k1 100 100 100 true) (a b c : Int) : let K : Bk := ⟨fun i => match i with | false => k0 | true => k1, 100, 3, 199, a, b, c⟩
    Aw17 K ((Br.new 100 0).feed K false aw17l) (((Br.new 100 0).feed K false aw17l).1.take K true 99) := by
  obtain ⟨_, _, _, _, _, _, _, _, _, _, _, _, _, _, _, _, _, _⟩ := k0
  obtain ⟨_, _, _, _, _, _, _, _, _, _, _, _, _, _, _, _, _, _⟩ := k1
  obtain ⟨h01, h02, h03, h04⟩ := h0
  obtain ⟨h11, h12, h13, h14⟩ := h1
  simp only at h01 h02 h03 h04 h11 h12 h13 h14
  subst h01 h02 h03 h04 h11 h12 h13 h14
  intro K
  exact ⟨by kernel_rfl, by kernel_rfl, by kernel_rfl, by kernel_rfl, by kernel_rfl, by kernel_rfl, by kernel_rfl, by kernel_rfl⟩
theorem aw17_facts (K : Bk) (hm : K.message = 100) (hc : K.count = 3) (hb : K.bytes = 199) (hk : ∀ i, LkOf (K.k i) 100 100 100 i) : Aw17 K ((Br.new 100 0).feed K false aw17l) (((Br.new 100 0).feed K false aw17l).1.take K true 99) := by
  obtain ⟨k, message, count, bytes, idle, pong, close⟩ := K
  simp only at hm hc hb hk
  subst hm hc hb
  have := aw17_k (k false) (k true) (hk false) (hk true) idle pong close
  have he : (fun i => match i with | false => k false | true => k true) = k := funext fun i => by cases i <;> rfl
  rw [he] at this
  exact this
theorem aw17_str : Go.strOfNums aw17o = ⟨#[129, 130, 60, 110, 243, 95, 116, 7]⟩ := by kernel_rfl
set_option maxHeartbeats 12800000 in
set_option maxRecDepth 100000 in
theorem aw17 (w : World) : Calls Tryz.prog 14 #[] w fun e w' => e = .returned (.bool true) ∧ Touch NoS w w' := by
  go_enter Tryz.func14, Tryz.ntmps14
  go_wp2_with fail
  refine (l_cfg17 99 99 99 2 99 (by omega) (by omega) (by omega) (by omega) (by omega) _).mono ?_
  rintro e w1 ⟨b, rfl, hbr, ht⟩
  have HT1 := Lib.hid ht
  have HNEW := Lib.hid (a_new b (1 + 99) (1 + 99) (1 + 2 % 8) (1 + 99 + 99) (1 + 99) (by omega) (by omega) (by omega) (by omega) (by omega) (by omega) (by omega) (by omega) (by omega) (by omega) 0 w1 hbr)
  clear ht hbr
  unfold cfgW
  unfold cfgW at HNEW
  go_wp2_with fail
  refine HNEW.out.mono ?_
  rintro e w2 ⟨g, gl, gq, X, K, rfl, k1, k2, k3, -, -, -, k7, hA⟩
  have HAW := Lib.hid (aw17_facts K k1 k2 k3 k7)
  have HA := Lib.hid hA
  clear hA k1 k2 k3 k7 HNEW
  have hcs := conv_const
  go_wp2_with fail
  refine (HA.out.feed (by omega) false aw17l (fun x hx => by unfold aw17l at hx; simp at hx; omega) (by unfold aw17l; simp) _ ((Touch.refl _ _).alloc _) w2.heap.size 8 8 (Nat.le_refl _) (by simp) rfl (Nat.le_refl _) (Rd.new w2 (u8s aw17l) 5 (8, 9))).mono ?_
  rintro e w3 ⟨rfl, hA⟩
  rw [HAW.out.n]
  have HA3 := Lib.hid hA
  clear hA HA
  go_wp2_with fail
  refine (HA3.out.peek true 99).mono ?_
  rintro e w4 ⟨A4, c4, rfl, hr4, ht4⟩
  rw [HAW.out.out] at hr4 ⊢
  have hcv4 := conv_str w4 A4 aw17o aw17o.length c4 rfl hr4
  rw [aw17_str] at hcv4
  have HA4 := Lib.hid (HA3.out.no ht4)
  clear ht4 hr4 HA3
  go_wp2_with fail
  refine (HA4.out.take (by omega) true 99).mono ?_
  rintro e w5 ⟨⟨A5, c5, rfl, hr5⟩, hA5⟩
  rw [HAW.out.out] at hr5 ⊢
  have hcv5 := conv_str w5 A5 aw17o aw17o.length c5 rfl hr5
  rw [aw17_str] at hcv5
  have HA5 := Lib.hid hA5
  clear hA5 hr5 HA4 hcv4
  go_wp2_with fail
  refine (b_waiting HA5.out.is false).mono ?_
  rintro e w6 ⟨rfl, ht6⟩
  rw [HAW.out.q, show evSize [] = 0 from rfl]
  have HA6 := Lib.hid (HA5.out.no ht6)
  clear ht6 HA5 hcv5
  go_wp2_with fail
  refine (b_leg HA6.out.is false).mono ?_
  rintro e w7 ⟨rfl, rfl⟩
  rw [HAW.out.sent, HAW.out.got, HAW.out.wrong]
  go_wp2_with fail
  refine (b_over HA6.out.is).mono ?_
  rintro e w7 ⟨rfl, rfl⟩
  rw [HAW.out.over]
  go_wp2_with fail
  refine (b_lost HA6.out.is false).mono ?_
  rintro e w7 ⟨rfl, rfl⟩
  rw [HAW.out.lost]
  have HTF := Lib.hid (HT1.out.trans HA6.out.old)
  go_wp2_with fail
  go_ret
  exact ⟨rfl, HTF.out⟩
end Go.Proofs.YtlnabpoohnphiaaGreat
/- ref08: Apply, digits, Put. -/
namespace Go.Proofs.YtlnabpoohnphiaaGreat
open Go.RowKit
set_option linter.unusedSimpArgs false
set_option linter.unusedVariables false

theorem nums_append (a b : List Int) : Go.strOfNums (a ++ b) = Go.strOfNums a ++ Go.strOfNums b := by
  apply ByteArray.ext
  apply Array.toList_inj.1
  simp [Go.strOfNums]
theorem take_next (L : List Int) (k : Nat) (hk : k < L.length) : L.take (k + 1) = L.take k ++ [L[k]] := by
  rw [List.take_add_one, List.getElem?_eq_getElem hk]; rfl
theorem conv_one_d (w : World) (b : Int) (t : TypeId) (cap : Nat) :
    (convert 43 9 (.slice (some ⟨w.heap.size, 0, none⟩) 1 cap)).run Tryz.prog (w.alloc (.cells #[.int .u8 b] t)).drew = .ok (.string (Go.strOfNums [b])) (w.alloc (.cells #[.int .u8 b] t)).drew :=
  conv_str _ _ [b] 1 cap rfl ((Rd.new w (u8s [b]) t (0, 0)).touch_no (Touch.refl _ _).drew)
theorem nums_len (l : List Int) (h : l.length ≤ maxLen) : (Go.strOfNums l).size ≤ maxLen := by rw [numsB_size]; exact h

set_option maxHeartbeats 3200000 in
set_option maxRecDepth 100000 in
theorem r8_apply (k0 k1 k2 k3 : Int) (hK : bytesIn [k0, k1, k2, k3]) (s : ByteArray) (hs : s.size ≤ 281474976710656) (w : World) :
    Calls Tryz.prog 35 #[.agg #[.int .u8 k0, .int .u8 k1, .int .u8 k2, .int .u8 k3], .int .i64 0, .string s] w fun e w' =>
      e = .returned (.string (Go.strOfNums (turn [k0, k1, k2, k3] 0 (sb s)))) ∧ Touch NoS w w' := by
  have HK := Lib.hid hK
  have hcv := conv_one_d
  clear hK
  obtain ⟨L, hL⟩ : ∃ L, L = turn [k0, k1, k2, k3] 0 (sb s) := ⟨_, rfl⟩
  have hLl : L.length = s.size := by rw [hL, turn_length, sb_length]
  have HL := Lib.hid hL
  have HLL := Lib.hid hLl
  rw [← hL]
  clear hL hLl
  go_enter Tryz.func35, Tryz.ntmps35
  go_wp2_with fail
  go_loopw [9, 8] (fun i o wr => ∃ k : Nat, k ≤ s.size ∧ i = .int .i64 k ∧ o = .string (Go.strOfNums (L.take k)) ∧ Blk wr w.heap.size 40 #[.int .u8 k0, .int .u8 k1, .int .u8 k2, .int .u8 k3] ∧ Touch NoS w wr) (fun i _ _ => s.size - (intOf i).toNat)
  case atStart => exact ⟨0, by omega, rfl, rfl, Blk.new _ _ _, (Touch.refl _ _).alloc _⟩
  case round =>
    obtain ⟨k, hk, rfl, rfl, hkb, ht⟩ := hrel
    by_cases hlt : k < s.size
    · obtain ⟨x, hx⟩ : ∃ x, x = (sb s).getD k 0 := ⟨_, rfl⟩
      have hx8 : 0 ≤ x ∧ x ≤ 255 := by rw [hx]; exact getD_in (sb_in s) 0 (by omega) k
      have hxs : ((s[k].toNat : Nat) : Int) = x := by rw [hx, sb_getD s k hlt]
      obtain ⟨j, hj⟩ : ∃ j, j = k % 4 := ⟨_, rfl⟩
      have hj4 : j < 4 := by omega
      obtain ⟨y, hy⟩ : ∃ y, y = ([k0, k1, k2, k3] : List Int).getD j 0 := ⟨_, rfl⟩
      have hy8 : 0 ≤ y ∧ y ≤ 255 := by rw [hy]; exact key_in HK.out j
      have hkc : wr.cell? ⟨w.heap.size, j, none⟩ = some (.int .u8 y) := by
        rw [hkb.cell j, hy]
        rcases j with _ | _ | _ | _ | j
        · rfl
        · rfl
        · rfl
        · rfl
        · omega
      have hxor : bits .xor .u8 x y = bxor x y := u8_xor x y hx8.1 (by omega) hy8.1 (by omega)
      have hLk : L[k]'(by rw [HLL.out]; exact hlt) = bxor x y := by
        have e := HL.out
        subst e
        rw [turn_get _ (sb s) 0 k (by rw [sb_length]; exact hlt), Nat.zero_add, ← hj, ← hy]
        congr 1
        rw [hx, List.getD_eq_getElem?_getD, List.getElem?_eq_getElem (by rw [sb_length]; exact hlt)]
        rfl
      have hnext : Go.strOfNums (L.take (k + 1)) = Go.strOfNums (L.take k) ++ Go.strOfNums [bxor x y] := by
        rw [take_next L k (by rw [HLL.out]; exact hlt), nums_append, hLk]
      have HN := Lib.hid hnext
      obtain ⟨p, hp⟩ : ∃ p, p = Go.strOfNums (L.take k) := ⟨_, rfl⟩
      have hpz : p.size ≤ k := by rw [hp, numsB_size, List.length_take]; omega
      rw [← hp] at HN ⊢
      obtain ⟨v, hv⟩ : ∃ v, v = bxor x y := ⟨_, rfl⟩
      rw [← hv] at hxor HN
      have hvz : (Go.strOfNums [v]).size = 1 := by rw [numsB_size]; rfl
      obtain ⟨u, hu⟩ : ∃ u, u = Go.strOfNums [v] := ⟨_, rfl⟩
      have hw0 : IntKind.i64.wrap (k : Int) = k := IntWalk.i64_in _ (by omega)
      have hmod : (k : Int).tmod 4 = (j : Int) := by rw [Int.tmod_eq_emod_of_nonneg (by omega)]; omega
      have hm0 : 0 ≤ (k : Int) % 4 := by omega
      have hm1 : (k : Int) % 4 < 4 := by omega
      have hm2 : ((k : Int) % 4).toNat = j := by omega
      have hlt' : (k : Int) < s.size := by omega
      have hj4' : (j : Int) < 4 := by omega
      have HKB := Lib.hid hkb
      have HT := Lib.hid ht
      clear hkb ht hx hy hv hLk hnext hp hx8 hy8 hj hu
      go_wp2_with fail
      go_region
      all_goals
        go_wp2_with fail
        go_roundw
        · exact ⟨k + 1, by omega, by go_num, by rw [HN.out], (HKB.out.alloc _).drew, (HT.out.alloc _).drew⟩
        · simp [intOf]; omega
    · have hkl : k = s.size := by omega
      subst hkl
      rw [List.take_of_length_le (by rw [HLL.out]; omega)]
      have HT := Lib.hid ht
      clear ht hkb
      go_wp2
      go_ret
      exact ⟨rfl, HT.out⟩

theorem be_drop (m n k : Nat) (hk : k < m) : (be m n).drop (m - (k + 1)) = ((n / 256 ^ k % 256 : Nat) : Int) :: (be m n).drop (m - k) := by
  rw [List.drop_eq_getElem_cons (by rw [be_length]; omega), show m - (k + 1) + 1 = m - k from by omega]
  congr 1
  simp only [be, List.getElem_map, List.getElem_range]
  rw [show m - 1 - (m - (k + 1)) = k from by omega]
set_option maxHeartbeats 3200000 in
set_option maxRecDepth 100000 in
theorem r8_digits (n : Nat) (hn : n < 18446744073709551616) (m : Nat) (mi : Int) (hmi : (m : Int) = mi) (hm : m ≤ 8) (w : World) :
    Calls Tryz.prog 57 #[.int .u64 n, .int .i64 mi] w fun e w' => e = .returned (.string (Go.strOfNums (be m n))) ∧ Touch NoS w w' := by
  have hcv := conv_one
  subst hmi
  obtain ⟨L, hL⟩ : ∃ L, L = be m n := ⟨_, rfl⟩
  have HL := Lib.hid hL
  have HN := Lib.hid hn
  rw [← hL]
  clear hL
  go_enter Tryz.func57, Tryz.ntmps57
  go_wp2_with fail
  go_loopw [0, 6, 5] (fun a i o wr => ∃ k : Nat, k ≤ m ∧ i = .int .i64 k ∧ a = .int .u64 ((n / 256 ^ k : Nat) : Int) ∧ o = .string (Go.strOfNums (L.drop (m - k))) ∧ Touch NoS w wr) (fun _ i _ _ => m - (intOf i).toNat)
  case atStart =>
    refine ⟨0, by omega, rfl, by rw [Nat.pow_zero, Nat.div_one], ?_, Touch.refl _ _⟩
    rw [HL.out, List.drop_of_length_le (by rw [be_length]; omega)]
    rfl
  case round =>
    obtain ⟨k, hk, rfl, rfl, rfl, ht⟩ := hrel
    have HT := Lib.hid ht
    clear ht
    by_cases hlt : k < m
    · obtain ⟨q, hq⟩ : ∃ q, q = n / 256 ^ k := ⟨_, rfl⟩
      have hq1 : n / 256 ^ (k + 1) = q / 256 := by rw [Nat.pow_succ, ← Nat.div_div_eq_div_mul, hq]
      have hqb : q ≤ n := by rw [hq]; exact Nat.div_le_self _ _
      have hnext : Go.strOfNums (L.drop (m - (k + 1))) = Go.strOfNums [((q % 256 : Nat) : Int)] ++ Go.strOfNums (L.drop (m - k)) := by
        rw [← nums_append, HL.out, be_drop m n k hlt, hq]; rfl
      have HQ := Lib.hid hq1
      obtain ⟨p, hp⟩ : ∃ p, p = Go.strOfNums (L.drop (m - k)) := ⟨_, rfl⟩
      rw [← hp] at hnext
      have HX := Lib.hid hnext
      have hpz : p.size ≤ 8 := by rw [hp, numsB_size, List.length_drop, HL.out, be_length]; omega
      rw [← hq, ← hp]
      have hqn : q < 18446744073709551616 := by have := HN.out; omega
      clear hq hp hq1 hnext hn hqb
      obtain ⟨qi, hqi⟩ : ∃ qi : Int, qi = q := ⟨_, rfl⟩
      have q0 : 0 ≤ qi := by omega
      have q1 : qi < 18446744073709551616 := by omega
      have hmod : ((q % 256 : Nat) : Int) = qi % 256 := by omega
      have hdiv : ((q / 256 : Nat) : Int) = qi / 256 := by omega
      rw [hmod] at HX
      have HD := Lib.hid hdiv
      rw [← hqi]
      have hxz : (Go.strOfNums [qi % 256]).size = 1 := by rw [numsB_size]; rfl
      clear hmod hdiv hqi hqn
      go_wp2_with fail
      go_roundw
      · exact ⟨k + 1, by omega, by go_num, by rw [HQ.out, HD.out], by rw [HX.out], HT.out.alloc _⟩
      · simp [intOf]; omega
    · have hkl : k = m := by omega
      subst hkl
      rw [Nat.sub_self, List.drop_zero]
      go_wp2
      go_ret
      exact ⟨rfl, HT.out⟩
set_option maxHeartbeats 3200000 in
set_option maxRecDepth 100000 in
theorem r8_put (n : Nat) (hn : n < 9223372036854775808) (w : World) :
    Calls Tryz.prog 34 #[.int .u64 n] w fun e w' => e = .returned (.tuple #[.string (Go.strOfNums (lenB n)), .bool true]) ∧ Touch NoS w w' := by
  have hcv := conv_one
  obtain ⟨x, hx⟩ : ∃ x : Int, x = (n : Int) := ⟨_, rfl⟩
  have x0 : 0 ≤ x := by omega
  have x1 : x ≤ 9223372036854775807 := by omega
  have HX := Lib.hid hx
  have HN := Lib.hid (show n < 18446744073709551616 by omega)
  rw [← hx]
  by_cases h1 : n < 126
  · have hl : Go.strOfNums (lenB n) = Go.strOfNums [x] := by unfold lenB; rw [if_pos h1, hx]
    have HL := Lib.hid hl
    have x2 : x < 126 := by omega
    rw [HL.out]
    clear hl h1 hx hn
    go_enter Tryz.func34, Tryz.ntmps34
    go_wp2
    go_ret2
    exact ⟨rfl, (Touch.refl _ _).alloc _⟩
  by_cases h2 : n < 65536
  · have hl : Go.strOfNums (lenB n) = Go.strOfNums [126] ++ Go.strOfNums (be 2 n) := by unfold lenB; rw [if_neg h1, if_pos h2, ← nums_append]; rfl
    have h126 : Go.strOfNums [126] = ⟨#[126]⟩ := by kernel_rfl
    rw [h126] at hl
    have HL := Lib.hid hl
    have x2 : 126 ≤ x := by omega
    have x3 : x ≤ 65535 := by omega
    obtain ⟨u, hu⟩ : ∃ u, u = Go.strOfNums (be 2 n) := ⟨_, rfl⟩
    have hD := fun W => r8_digits n HN.out 2 2 (by decide) (by omega) W
    have hD2 : ∀ W, Calls Tryz.prog 57 #[.int .u64 x, .int .i64 2] W fun e w' => e = .returned (.string u) ∧ Touch NoS W w' := by
      intro W
      rw [hu, hx]
      exact hD W
    have HD := Lib.hid hD2
    rw [HL.out, ← hu]
    have huz : u.size = 2 := by rw [hu, numsB_size, be_length]
    clear hl h1 h2 hx hn hu hD hD2 h126
    go_enter Tryz.func34, Tryz.ntmps34
    go_wp2_with fail
    refine (HD.out _).mono ?_
    rintro e w1 ⟨rfl, ht⟩
    have HT := Lib.hid ht
    clear ht
    go_wp2
    go_ret2
    exact ⟨rfl, HT.out⟩
  · have hl : Go.strOfNums (lenB n) = Go.strOfNums [127] ++ Go.strOfNums (be 8 n) := by unfold lenB; rw [if_neg h1, if_neg h2, ← nums_append]; rfl
    have h126 : Go.strOfNums [127] = ⟨#[127]⟩ := by kernel_rfl
    rw [h126] at hl
    have HL := Lib.hid hl
    have x2 : 65536 ≤ x := by omega
    obtain ⟨u, hu⟩ : ∃ u, u = Go.strOfNums (be 8 n) := ⟨_, rfl⟩
    have hD := fun W => r8_digits n HN.out 8 8 (by decide) (by omega) W
    have hD2 : ∀ W, Calls Tryz.prog 57 #[.int .u64 x, .int .i64 8] W fun e w' => e = .returned (.string u) ∧ Touch NoS W w' := by
      intro W
      rw [hu, hx]
      exact hD W
    have HD := Lib.hid hD2
    rw [HL.out, ← hu]
    have huz : u.size = 8 := by rw [hu, numsB_size, be_length]
    clear hl h1 h2 hx hn hu hD hD2 h126
    go_enter Tryz.func34, Tryz.ntmps34
    go_wp2_with fail
    refine (HD.out _).mono ?_
    rintro e w1 ⟨rfl, ht⟩
    have HT := Lib.hid ht
    clear ht
    go_wp2
    go_ret2
    exact ⟨rfl, HT.out⟩
end Go.Proofs.YtlnabpoohnphiaaGreat
/- ref09: Control, Form, Check. -/
namespace Go.Proofs.YtlnabpoohnphiaaGreat
open Go.RowKit
set_option linter.unusedSimpArgs false
set_option linter.unusedVariables false

theorem r9_control (op : Int) (w : World) : Calls Tryz.prog 92 #[.int .i64 op] w fun e w' => e = .returned (.bool (control9 op)) ∧ w = w' := by
  unfold control9
  by_cases h : 8 ≤ op
  · by_cases h2 : op ≤ 10
    · rw [decide_eq_true (by omega)]
      go_enter Tryz.func92, Tryz.ntmps92
      go_wp2
      go_ret
      exact ⟨rfl, rfl⟩
    · rw [decide_eq_false (by omega)]
      go_enter Tryz.func92, Tryz.ntmps92
      go_wp2
      go_ret
      exact ⟨rfl, rfl⟩
  · rw [decide_eq_false (by omega)]
    go_enter Tryz.func92, Tryz.ntmps92
    go_wp2
    go_ret
    exact ⟨rfl, rfl⟩

theorem form9_eq (f : Fr) : form9 f = ((decide (0 ≤ f.op ∧ f.op ≤ 2) || (control9 f.op && (f.fin && decide (f.data.size ≤ 125)))) && (f.masked || (f.key == [0, 0, 0, 0]))) := by
  have h1 : known9 f.op = (decide (0 ≤ f.op ∧ f.op ≤ 2) || control9 f.op) := by
    unfold known9 control9
    rw [Bool.eq_iff_iff]
    simp only [Bool.or_eq_true, decide_eq_true_eq]
    omega
  have h2 : (decide (0 ≤ f.op ∧ f.op ≤ 2) && control9 f.op) = false := by
    unfold control9
    rw [Bool.eq_false_iff]
    simp only [ne_eq, Bool.and_eq_true, decide_eq_true_eq]
    omega
  have h3 : decide (125 < f.data.size) = !decide (f.data.size ≤ 125) := by
    by_cases h : f.data.size ≤ 125
    · rw [decide_eq_true h, decide_eq_false (by omega)]; rfl
    · rw [decide_eq_false h, decide_eq_true (by omega)]; rfl
  have h4 : decide (f.key ≠ [0, 0, 0, 0]) = !(f.key == [0, 0, 0, 0]) := by
    by_cases h : f.key = [0, 0, 0, 0]
    · rw [h]; rfl
    · rw [decide_eq_true h, beq_eq_false_iff_ne.2 h]; rfl
  unfold form9
  rw [h1, h3, h4]
  revert h2
  generalize decide (0 ≤ f.op ∧ f.op ≤ 2) = a
  generalize control9 f.op = c
  generalize decide (f.data.size ≤ 125) = q
  generalize (f.key == [0, 0, 0, 0]) = z
  generalize f.fin = x
  generalize f.masked = m
  revert a c q z x m
  decide

set_option maxHeartbeats 3200000 in
set_option maxRecDepth 100000 in
theorem r9_form (f : Fr) (hz : f.data.size ≤ maxLen) (w : World) : Calls Tryz.prog 74 #[.agg f.cs] w fun e w' => e = .returned (.bool (form9 f)) ∧ Touch NoS w w' := by
  rw [form9_eq]
  unfold maxLen at hz
  obtain ⟨fin, op, masked, k0, k1, k2, k3, d⟩ := f
  simp only [Fr.cs, Fr.key] at *
  obtain ⟨z, hzz⟩ : ∃ z, z = ([k0, k1, k2, k3] == [0, 0, 0, 0]) := ⟨_, rfl⟩
  have heqk : ∀ w, (binOp .eql 40 (.agg #[.int .u8 k0, .int .u8 k1, .int .u8 k2, .int .u8 k3]) (.agg #[.int .u8 0, .int .u8 0, .int .u8 0, .int .u8 0])).run Tryz.prog w = .ok (.bool z) w := fun w => by rw [eql_key, hzz]
  rw [← hzz]
  clear hzz
  have HC := Lib.hid (r9_control op)
  have hand : ∀ (a : Bool) (R : Bool), R = (a && (masked || z)) → Hid (R = (a && (masked || z))) := fun _ _ h => h
  clear hand
  by_cases ha : 0 ≤ op ∧ op ≤ 2
  · rw [decide_eq_true ha, Bool.true_or, Bool.true_and]
    obtain ⟨a0, a1⟩ := ha
    cases masked
    all_goals
      go_enter Tryz.func74, Tryz.ntmps74
      go_wp2
      go_ret
      exact ⟨by simp, (Touch.refl _ _).alloc _⟩
  rw [decide_eq_false ha, Bool.false_or]
  obtain ⟨cn, hcn⟩ : ∃ cn, cn = control9 op := ⟨_, rfl⟩
  rw [← hcn] at HC ⊢
  have HA : Hid (¬ (0 ≤ op ∧ op ≤ 2)) := ha
  clear hcn ha
  have hcase : (op < 0) ∨ (0 ≤ op ∧ 2 < op) := by have := HA.out; omega
  cases cn with
  | false =>
    rw [Bool.false_and, Bool.false_and]
    rcases hcase with h | ⟨h, h'⟩
    all_goals
      go_enter Tryz.func74, Tryz.ntmps74
      go_wp2_with fail
      refine (HC.out _).mono ?_
      rintro e w1 ⟨rfl, rfl⟩
      go_wp2
      go_ret
      exact ⟨rfl, (Touch.refl _ _).alloc _⟩
  | true =>
    rw [Bool.true_and]
    cases fin with
    | false =>
      rw [Bool.false_and, Bool.false_and]
      rcases hcase with h | ⟨h, h'⟩
      all_goals
        go_enter Tryz.func74, Tryz.ntmps74
        go_wp2_with fail
        refine (HC.out _).mono ?_
        rintro e w1 ⟨rfl, rfl⟩
        go_wp2
        go_ret
        exact ⟨rfl, (Touch.refl _ _).alloc _⟩
    | true =>
      rw [Bool.true_and]
      by_cases hs : d.size ≤ 125
      · rw [decide_eq_true hs, Bool.true_and]
        cases masked
        all_goals
          rcases hcase with h | ⟨h, h'⟩
          all_goals
            go_enter Tryz.func74, Tryz.ntmps74
            go_wp2_with fail
            refine (HC.out _).mono ?_
            rintro e w1 ⟨rfl, rfl⟩
            go_wp2
            go_ret
            exact ⟨by first | (simp; done) | (simp; omega) | (simp; intro _; omega), (Touch.refl _ _).alloc _⟩
      · rw [decide_eq_false hs, Bool.false_and]
        rcases hcase with h | ⟨h, h'⟩
        all_goals
          go_enter Tryz.func74, Tryz.ntmps74
          go_wp2_with fail
          refine (HC.out _).mono ?_
          rintro e w1 ⟨rfl, rfl⟩
          go_wp2
          go_ret
          exact ⟨rfl, (Touch.refl _ _).alloc _⟩

end Go.Proofs.YtlnabpoohnphiaaGreat
