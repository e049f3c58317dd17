/- law16: awake. | law16: LegFree: the walk. -/
import Derived.Test.YtpadlcllcmodaaaGreatG24
import Derived.Test.YtpadlcllcmodaaaGreatG05
import Derived.Test.YtpadlcllcmodaaaGreatG25
import Derived.Test.YtpadlcllcmodaaaGreatG03
/- law16: awake. -/
namespace Go.Proofs.YtpadlcllcmodaaaGreat
open Go.RowKit
set_option linter.unusedSimpArgs false
set_option linter.unusedVariables false

theorem Blk.rd_all {w : World} {g : Nat} {t : TypeId} {xs : List Value} (h : Blk w g t xs.toArray) : Rd w (some ⟨g, 0, none⟩) xs := h.rd 0 xs (fun j u hu => by rw [Nat.zero_add]; simpa using hu)
set_option maxHeartbeats 6400000 in
set_option maxRecDepth 100000 in
theorem aw16 (w : World) : Calls Tryz.prog 6 #[] w fun e w' => e = .returned (.bool true) ∧ Touch NoS w w' := by
  go_enter Tryz.func6, Tryz.ntmps6
  go_wp2_with fail
  refine (l_cfg 99 49 99 (by omega) (by omega) (by omega) _).mono ?_
  rintro e w1 ⟨b, rfl, hb, hbr, ht⟩
  have HT1 := Lib.hid ht
  have HNEW := Lib.hid (lg_new b (1 + 99) (1 + 49) (1 + 99) (by omega) (by omega) (by omega) (by omega) (by omega) (by omega) true 7 w1 hbr)
  clear ht hbr
  unfold cfgV
  unfold cfgV at HNEW
  go_wp2_with fail
  refine HNEW.out.mono ?_
  rintro e w2 ⟨g, k, rfl, hk1, hk2, hk3, hk4, hL⟩
  have HL2 := Lib.hid hL
  have HK1 := Lib.hid hk1
  have HK2 := Lib.hid hk2
  have HK3 := Lib.hid hk3
  have HK4 := Lib.hid hk4
  clear hL hk1 hk2 hk3 hk4 HNEW
  go_wp2_with fail
  refine (lg_free HL2.out).mono ?_
  rintro e w3 ⟨rfl, rfl⟩
  rw [show (Lg.new (1 + 99) 7).free = true from rfl]
  have hok : (Lg.new (1 + 99) 7).ok k := ⟨fun x hx => (by cases hx), fun h => absurd rfl h⟩
  have HOK := Lib.hid hok
  clear hok
  go_wp2_with fail
  refine (lg_feed (HL2.out.no ((Touch.refl _ _).alloc _)) (by rw [HK1.out]; omega) HOK.out [129, 0] (some ⟨w2.heap.size, 0, none⟩) 2 2 rfl (Rd.new w2 (u8s [129, 0]) 5 (0, 0)) (fun x hx => by simp at hx; omega) (by show (0 : Nat) + 0 + 2 ≤ 900000; omega)).mono ?_
  rintro e w3 ⟨A3, c3, rfl, -, hL, -⟩
  rw [aw16_feed k HK1.out HK3.out HK4.out] at hL ⊢
  have HL3 := Lib.hid hL
  clear hL HL2
  go_wp2_with fail
  refine (lg_take HL3.out 100).mono ?_
  rintro e w4 ⟨g4, rfl, hg4, hb4, hL, -⟩
  rw [aw16_take k HK3.out HK4.out] at hL
  have HL4 := Lib.hid hL
  have hcv : (convert 49 9 (.slice (some ⟨g4, 0, none⟩) (pk 100 aw16a.o.ring.length) (pk 100 aw16a.o.ring.length))).run Tryz.prog w4 = .ok (.string ⟨#[136, 2, 3, 234]⟩) w4 := by
    have := conv_str w4 (some ⟨g4, 0, none⟩) [136, 2, 3, 234] 4 4 rfl hb4.rd_all
    exact this
  rw [show pk 100 aw16a.o.ring.length = 4 from rfl] at hcv ⊢
  clear hL HL3 hb4 hg4
  go_wp2_with fail
  refine (lg_wrong HL4.out).mono ?_
  rintro e w5 ⟨rfl, rfl⟩
  rw [show aw16b.wrong = 100 from rfl]
  go_wp2_with fail
  refine (lg_sent HL4.out).mono ?_
  rintro e w5 ⟨rfl, rfl⟩
  rw [show aw16b.sent = true from rfl]
  go_wp2_with fail
  refine (lg_got HL4.out).mono ?_
  rintro e w5 ⟨rfl, rfl⟩
  rw [show aw16b.got = false from rfl]
  go_wp2_with fail
  refine (lg_quiet HL4.out).mono ?_
  rintro e w5 ⟨rfl, rfl⟩
  rw [show aw16b.quiet = true from rfl]
  go_wp2_with fail
  refine (lg_kept HL4.out 0 0 rfl rfl (by omega) (by omega)).mono ?_
  rintro e w5 ⟨rfl, ht⟩
  have HL5 := Lib.hid (HL4.out.no ht)
  clear ht HL4 hcv
  go_wp2_with fail
  refine (lg_send HL5.out 1 0 ⟨#[]⟩ (by unfold maxLen; decide) (by rw [HK1.out]; omega) (by rw [HK2.out]; omega) (by rw [HK2.out]; omega)).mono ?_
  rintro e w6 ⟨rfl, hL, -⟩
  have hs : aw16b.send k 1 ⟨#[]⟩ = (aw16b, false) := by unfold Lg.send; rw [if_neg (by rintro ⟨h, _⟩; cases h)]
  rw [hs] at hL ⊢
  have HL6 := Lib.hid hL
  clear hL HL5 hs
  go_wp2_with fail
  refine (lg_ping HL6.out ⟨#[]⟩ (by unfold maxLen; decide) (by show (0 : Nat) ≤ _; omega)).mono ?_
  rintro e w7 ⟨rfl, hL, -⟩
  have hs : aw16b.ping k ⟨#[]⟩ = (aw16b, false) := by unfold Lg.ping; rw [if_pos (.inl rfl)]
  rw [hs] at hL ⊢
  have HL7 := Lib.hid hL
  clear hL HL6 hs
  go_wp2_with fail
  refine (lg_close HL7.out 1000 ⟨#[]⟩ (by unfold maxLen; decide) (by show (0 : Nat) ≤ _; omega)).mono ?_
  rintro e w8 ⟨rfl, hL, -⟩
  have hs : aw16b.close k 1000 ⟨#[]⟩ = (aw16b, false) := by unfold Lg.close; rw [if_pos (.inl rfl)]
  rw [hs] at hL ⊢
  have HL8 := Lib.hid hL
  clear hL HL7 hs
  go_wp2_with fail
  refine (lg_peek HL8.out 9).mono ?_
  rintro e w9 ⟨g9, rfl, -, -, ht⟩
  rw [show pk 9 aw16b.o.ring.length = 0 from rfl]
  have HT9 := Lib.hid (HT1.out.trans (HL8.out.old.trans ht))
  clear ht HL8
  go_wp2_with fail
  go_ret
  exact ⟨rfl, HT9.out⟩
end Go.Proofs.YtpadlcllcmodaaaGreat
/- law16: LegFree: the walk. -/
namespace Go.Proofs.YtpadlcllcmodaaaGreat
open Go.RowKit
set_option linter.unusedSimpArgs false
set_option linter.unusedVariables false

theorem u8_at_ {w : World} {A : Option Addr} {l : List Int} (h : Rd w A (l.flatMap fun x => [.int .u8 x])) (k : Nat) (hk : k < l.length) : ∃ g off, A = some ⟨g, off, none⟩ ∧ g < w.heap.size ∧ w.cell? ⟨g, off + k, none⟩ = some (.int .u8 l[k]) := by
  have hf : ∀ l : List Int, (l.flatMap fun x => [Value.int .u8 x]) = l.map (Value.int .u8) := fun l => by induction l <;> simp_all
  rw [hf] at h
  obtain ⟨g, off, rfl, hg, hc⟩ := h (by intro h0; simp at h0; rw [h0] at hk; exact absurd hk (by simp))
  exact ⟨g, off, rfl, hg, hc k _ (by rw [List.getElem?_map, List.getElem?_eq_getElem hk]; rfl)⟩
theorem u8n {x : Int} (h : 0 ≤ x ∧ x ≤ 255) : ∃ m : Nat, x = m ∧ m ≤ 255 := ⟨x.toNat, by omega, by omega⟩
/-- A side that only sent messages. -/
structure Lg.fresh (k : Lk) (L : Lg) : Prop where
  sent : L.sent = false
  got : L.got = false
  wrong : L.wrong = 0
  ctl : L.o.ctl = []
  sized : L.o.sized 256
  still : L.o.still k.out
theorem Lg.new_fresh (k : Lk) (m : Nat) (d : Int) : (Lg.new m d).fresh k := ⟨rfl, rfl, rfl, rfl, Lg.new_sized _ _ _, Lg.new_still _ _ _⟩
theorem Ou.move_nil {M : Nat} {mk : Bool} {o : Ou} (h : o.ctl = []) : (o.move M mk).ctl = [] :=
  List.eq_nil_of_length_eq_zero (by have := Ou.move_ctl M mk o; rw [h] at this; simpa using this)
theorem Lg.fresh.take {k : Lk} {L : Lg} (h : L.fresh k) (n : Int) : (L.take k n).fresh k := ⟨h.sent, h.got, h.wrong, Ou.move_nil h.ctl, Lg.take_sized k L n h.sized, Lg.take_still k L n⟩
theorem Lg.fresh.send {k : Lk} {L : Lg} (h : L.fresh k) (hk : k.frame ≤ 256) (op : Int) (s : ByteArray) : (L.send k op s).1.fresh k := by
  refine ⟨?_, ?_, ?_, ?_, Lg.send_sized k L op s hk h.sized, Lg.send_still k L op s h.still⟩
  all_goals unfold Lg.send; split
  · exact h.sent
  · exact h.sent
  · exact h.got
  · exact h.got
  · exact h.wrong
  · exact h.wrong
  · exact Ou.move_nil h.ctl
  · exact h.ctl
theorem close_1000 (k : Lk) (L : Lg) (h : L.sent = false) : L.close k 1000 ⟨#[]⟩ = (({ L with sent := true, o := { L.o with rest := [] } } : Lg).ctl k (ctlF 8 (Go.strOfNums [3, 232])), true) := by
  have hp : cput 1000 ⟨#[]⟩ = (Go.strOfNums [3, 232], 0) := by
    have := valid11_put (c := 1000) (by decide)
    rw [this]
    rfl
  unfold Lg.close
  rw [hp, if_neg (by rw [h]; rintro (h | h); cases h; exact h rfl)]
theorem Lg.fresh.closed_wt {k : Lk} {L : Lg} (h : L.fresh k) (hr : L.o.ring.length ≤ 256) : (L.close k 1000 ⟨#[]⟩).1.o.wt ≤ 1000 := by
  rw [close_1000 k L h.sent]
  refine Nat.le_trans (Ou.move_wt _ _ _) ?_
  have ht := h.sized.tail
  have hz : (ctlF 8 (Go.strOfNums [3, 232])).data.size = 2 := by rfl
  simp only [Ou.wt, h.ctl, List.nil_append, List.map_cons, List.map_nil, List.sum_cons, List.sum_nil, hz]
  omega
theorem Lg.closed_still {k : Lk} {L : Lg} (h : L.sent = false) : (L.close k 1000 ⟨#[]⟩).1.o.still k.out := by
  rw [close_1000 k L h]
  exact Ou.move_still _ _ _

end Go.Proofs.YtpadlcllcmodaaaGreat
