/- law16: LegBoth: the walk. -/
import Derived.Test.YtpadlcllcmodaaaV05
import Derived.Test.YtpadlcllcmodaaaV06
import Derived.Test.YtpadlcllcmodaaaY05
/- law16: LegBoth: the walk. -/
namespace Go.Proofs.Ytpadlcllcmodaaa
open Go.RowKit
set_option linter.unusedSimpArgs false
set_option linter.unusedVariables false

theorem LgAt.ringIn {w0 w : World} {g : Nat} {k : Lk} {L : Lg} (h : LgAt w0 w g k L) : bytesIn L.o.ring := by
  obtain ⟨V, i, -, -⟩ := h
  exact i.out.ring.bytes
/-- Between messages: all is out; what the other one was told. -/
structure Both (k1 k2 : Lk) (M : Nat) (i : Nat) (L1 L2 : Lg) (outs wants : List Ev) (PS : List (List Int)) (G : List Fr) : Prop where
  drain : Drain k1 k2 M (G.flatMap fput) L1 L2 outs PS
  quiet : L1.quiet = true
  sent : L1.sent = false
  fit : ∀ f ∈ G, fits (!k2.masks) (most16 k2) f
  len : (G.flatMap fput).length ≤ 5000 * i
  told : ∃ u, feedFs k2 (Lg.new M 0) G = ({ Lg.new M 0 with m := Mc.idle M u }, wants, false)
  count : PS.length ≤ 100000 * i
  wants : wants.length = i
theorem Both.free {k1 k2 : Lk} {M i : Nat} {L1 L2 : Lg} {outs wants : List Ev} {PS : List (List Int)} {G : List Fr} (h : Both k1 k2 M i L1 L2 outs wants PS G) : L1.free = true := by
  obtain ⟨_, _, _, h4⟩ := Lg.quiet_nil h.quiet
  unfold Lg.free
  rw [h.sent, h.drain.mute.got, h.drain.mute.wrong, h4]
  rfl
theorem Both.new (k1 k2 : Lk) (M : Nat) (h1 : k1.message = M) (h2 : k2.message = M) (d : Int) : Both k1 k2 M 0 (Lg.new M d) (Lg.new M 0) [] [] [] [] :=
  ⟨⟨rfl, rfl, fun p hp => (by cases hp), Lg.new_mute M d, by rw [← h2]; exact Lg.new_fine k2 0, Nat.le_refl _, Lg.new_still k1 M d⟩, rfl, rfl, fun f hf => (by cases hf), Nat.le_refl _, ⟨Uc.new, rfl⟩, Nat.le_refl _, rfl⟩
/-- A message is sent. -/
theorem Both.send {k1 k2 : Lk} {M i : Nat} {L1 L2 : Lg} {outs wants : List Ev} {PS : List (List Int)} {G : List Fr} (h : Both k1 k2 M i L1 L2 outs wants PS G) (hk1 : k1.message = M) (hk2 : k2.message = M) (hm1 : k1.masks = true) (hm2 : k2.masks = false) (hM : M ≤ 256) (hf1 : 1 ≤ k1.frame) (hf2 : k1.frame ≤ 256) (s : ByteArray) (hs : s.size ≤ M) :
    (L1.send k1 2 s).2 = true ∧ Drain k1 k2 M ((G ++ mfr true (cuts k1 2 s) L1.o.draw).flatMap fput) (L1.send k1 2 s).1 L2 outs PS ∧ (L1.send k1 2 s).1.sent = false ∧ (L1.send k1 2 s).1.o.wt ≤ 100000 ∧
      (∀ f ∈ G ++ mfr true (cuts k1 2 s) L1.o.draw, fits (!k2.masks) (most16 k2) f) ∧ ((G ++ mfr true (cuts k1 2 s) L1.o.draw).flatMap fput).length ≤ 5000 * (i + 1) ∧
      (∃ u, feedFs k2 (Lg.new M 0) (G ++ mfr true (cuts k1 2 s) L1.o.draw) = ({ Lg.new M 0 with m := Mc.idle M u }, wants ++ [⟨2, 0, s⟩], false)) := by
  obtain ⟨s1, s2, s3, s4, s5⟩ := send_toGo (k := k1) h.quiet h.free s (by rw [hk1]; exact hs)
  obtain ⟨n, c1, c2, c3, c4, c5, c6, c7⟩ := cuts_len k1 hf1 (by omega) s (by omega)
  have hfit := msg_fits hk1 hk2 hm2 hM s hs L1.o.draw
  have hsz : ∀ f ∈ cuts k1 2 s, f.data.size ≤ 256 := fun f hf => by
    have := cutFs_size 2 s k1.frame _ f hf
    omega
  have hsz2 : ∀ f ∈ mfr true (cuts k1 2 s) L1.o.draw, f.data.size ≤ k1.frame := fun f hf => by
    obtain ⟨g, hg, e, rfl, -, -⟩ := mfr_mem _ _ f hf
    exact cutFs_size 2 s k1.frame _ g hg
  refine ⟨s1, ⟨?_, h.drain.fed, h.drain.pin, h.drain.mute.send k1 2 s, h.drain.fine, h.drain.len, s4⟩, s3.trans h.sent, ?_, ?_, ?_, ?_⟩
  · have h0 := h.drain.bytes
    rw [Lg.quiet_toGo h.quiet, List.append_nil] at h0
    rw [s2, hm1, List.flatMap_append, h0, flat_fputz (fun f hf => (hfit f hf).2)]
  · refine Nat.le_trans s5 (Nat.le_trans (sum_le hsz) ?_)
    rw [c7]
    have : n * (256 + 15) ≤ 257 * (256 + 15) := Nat.mul_le_mul_right _ c4
    omega
  · intro f hf
    rcases List.mem_append.1 hf with hf | hf
    · exact h.fit f hf
    · exact (hfit f hf).1
  · rw [List.flatMap_append, List.length_append]
    have := h.len
    have h1 := flat_len hsz2
    rw [mfr_length, c7, Nat.mul_add] at h1
    have h2 : n * k1.frame = (n - 1) * k1.frame + k1.frame := by rw [← Nat.succ_mul]; congr 1; omega
    omega
  · obtain ⟨u, hu⟩ := h.told
    have ht := msg_told0 k2 M u s k1.frame n (by omega) c3 c5 c6 { Lg.new M 0 with m := Mc.idle M u } L1.o.draw wants rfl rfl
    obtain ⟨u', hu'⟩ := ht
    refine ⟨u', ?_⟩
    unfold feedFs at hu ⊢
    rw [List.foldl_append, hu, c2]
    exact hu'
theorem own_pre {w : World} {base : Nat} {e : TypeId} {size n c : Nat} {A : Option Addr} {xs ys zs : List Value} (ho : w.ownsRow base e size (.slice A n c) n xs) (h : xs = ys ++ zs) : Rd w A ys := by
  obtain ⟨A', c', hv, _, _, hrd, _, _⟩ := own_cases ho
  injection hv with e1 _ e2
  subst e1
  have := rd_take hrd ys.length
  rw [h, List.take_left'] at this
  · exact this
  · rfl
/-- An end is sent. -/
theorem Both.close {k1 k2 : Lk} {M i : Nat} {L1 L2 : Lg} {outs wants : List Ev} {PS : List (List Int)} {G : List Fr} (h : Both k1 k2 M i L1 L2 outs wants PS G) (hk2 : k2.message = M) (hm1 : k1.masks = true) (hm2 : k2.masks = false) (hi : i ≤ 10) (code : Int) (d : ByteArray) (hp : cput code ⟨#[]⟩ = (d, 0)) :
    (L1.close k1 code ⟨#[]⟩).2 = true ∧ ∃ f, Drain k1 k2 M ((G ++ [f]).flatMap fput) (L1.close k1 code ⟨#[]⟩).1 L2 outs PS ∧ (L1.close k1 code ⟨#[]⟩).1.sent = true ∧ (L1.close k1 code ⟨#[]⟩).1.o.wt ≤ 100000 ∧
      (∀ g ∈ G ++ [f], fits (!k2.masks) (most16 k2) g) ∧ ((G ++ [f]).flatMap fput).length ≤ 100000 ∧
      (∃ X c8 s8 d2 dr, feedFs k2 (Lg.new M 0) (G ++ [f]) = (X, wants ++ [⟨8, c8, s8⟩], true) ∧ X.got = true ∧ X.wrong = 0 ∧ X.o = ({ ring := [], tail := [], ctl := [ctlF 8 d2], rest := [], draw := dr } : Ou).move k2.out k2.masks ∧ d2.size ≤ 125 ∧ (cget d2).2.2 = 0) := by
  obtain ⟨q1, q2, q3, q4⟩ := Lg.quiet_nil h.quiet
  obtain ⟨z1, z2⟩ := cput_small hp
  have hcl : L1.close k1 code ⟨#[]⟩ = (({ L1 with sent := true, o := { L1.o with rest := [] } } : Lg).ctl k1 (ctlF 8 d), true) := by
    unfold Lg.close
    rw [hp, if_neg (by rw [h.sent]; rintro (h | h); cases h; exact h rfl)]
  have hform : form9 (ctlF 8 d) = true := ctl_form (.inl rfl) z1
  have hgood : (ctlF 8 d).good := ctlF_good 8 (by omega) d (by unfold maxLen; omega)
  have hf : fits (!k2.masks) (most16 k2) (mask1 (ctlF 8 d) (nd L1.o.draw)) := by
    refine ⟨mask1_good hgood _ (nd_in _).1 (nd_in _).2, mask_form hform _, by rw [hm2]; rfl, ?_⟩
    show (d.size : Int) ≤ most16 k2
    unfold most16
    omega
  have hmu := h.drain.mute.close k1 code ⟨#[]⟩
  rw [hcl] at hmu ⊢
  refine ⟨rfl, mask1 (ctlF 8 d) (nd L1.o.draw), ⟨?_, h.drain.fed, h.drain.pin, hmu, h.drain.fine, h.drain.len, Ou.move_still _ _ _⟩, rfl, ?_, ?_, ?_, ?_⟩
  · have h0 := h.drain.bytes
    rw [Lg.quiet_toGo h.quiet, List.append_nil] at h0
    rw [h0, List.flatMap_append]
    congr 1
    show ((({ L1.o with rest := [], ctl := L1.o.ctl ++ [ctlF 8 d] } : Ou)).move k1.out k1.masks).toGo k1.masks = _
    rw [Ou.move_toGo]
    unfold Ou.toGo
    simp only [q1, q2, q3, List.nil_append, List.append_nil, hm1, mfr, if_true, List.flatMap_cons, List.flatMap_nil]
    unfold fputz
    rw [if_pos (form_check (mask_form hform _) (by show d.size ≤ 65536; omega))]
  · refine Nat.le_trans (Ou.move_wt _ _ _) ?_
    unfold Ou.wt
    simp only [q1, q2, q3, List.nil_append, List.map_cons, List.map_nil, List.sum_cons, List.sum_nil, List.length_nil]
    show 0 + 0 + (d.size + 15 + 0) + 0 ≤ 100000
    omega
  · intro g hg
    rcases List.mem_append.1 hg with hg | hg
    · exact h.fit g hg
    · simp at hg
      rw [hg]
      exact hf
  · rw [List.flatMap_append, List.length_append]
    have h1 := h.len
    have h2 := flat_len (l := [mask1 (ctlF 8 d) (nd L1.o.draw)]) (D := 125) (fun g hg => by simp at hg; rw [hg]; exact z1)
    simp only [List.length_cons, List.length_nil] at h2
    omega
  · obtain ⟨u, hu⟩ := h.told
    obtain ⟨c', d2, ht, e1, e2⟩ := end_told k2 { Lg.new M 0 with m := Mc.idle M u } (mask1 (ctlF 8 d) (nd L1.o.draw)) rfl rfl rfl (mask_form hform _) z2 rfl
    refine ⟨(({ Lg.new M 0 with m := c', got := true, sent := true, o := { (Lg.new M 0).o with rest := [] } } : Lg).ctl k2 (ctlF 8 d2)), (cget d).1, (cget d).2.1, d2, 0, ?_, rfl, rfl, rfl, e1, e2⟩
    unfold feedFs at hu ⊢
    rw [List.foldl_append, hu, List.foldl_cons, List.foldl_nil]
    unfold feedStep
    rw [if_neg (by simp), ht]
    rfl
theorem own_grown_apart {w w' : World} {base : Nat} {e : TypeId} {size n : Nat} {u v : Value} {xs : List Value} (ho : w.ownsRow base e size v n xs) (ha : Apart u v) (hg : w.grownBy w' u.ownBlock) : w'.ownsRow base e size v n xs :=
  own_touch (S := fun b => u.ownBlock = some b) ho ((Touch.refl _ w).grown hg (fun k hk _ => hk)) fun b hb hk => ha b hk hb
theorem own_apart_grown {w : World} {base : Nat} {e : TypeId} {size n : Nat} {u u' v : Value} {xs : List Value} (ha : Apart u v) (ho : w.ownsRow base e size v n xs) (h : u'.ownBlock = u.ownBlock ∨ u'.ownBlock = some w.heap.size) : Apart u' v := fun b hb hv => by
  rcases h with h | h
  · exact ha b (h ▸ hb) hv
  · rw [h] at hb
    injection hb with hb
    obtain ⟨cs, hc⟩ := own_type ho hv
    have := hc.lt
    omega
theorem u8n_ {x : Int} (h : 0 ≤ x ∧ x ≤ 255) : ∃ m : Nat, x = m ∧ m ≤ 255 := ⟨x.toNat, by omega, by omega⟩
set_option maxHeartbeats 12800000 in
set_option maxRecDepth 100000 in
theorem both16_row (w : World) (xa xb xc : Int) (gx : bytesIn [xa, xb, xc]) (A : Option Addr) (ls : List Ev) (c : Nat) (hr : Rd w A (evCells ls)) (hg : ∀ x ∈ ls, x.good) (hlc : ls.length ≤ c) (hcc : c ≤ maxLen)
    (draw : Int) (gd : (Lit.int .u32 draw).wf = true) (nn : Int) (gn : (Lit.int .u8 nn).wf = true) (code : Int) (gc' : (Lit.int .i64 code).wf = true) :
    Calls Try.prog 5 #[.agg #[.int .u8 xa, .int .u8 xb, .int .u8 xc], .slice A ls.length c, .int .u32 draw, .int .u8 nn, .int .i64 code] w fun e w' => e = .returned (.bool true) ∧ Touch NoS w w' := by
  obtain ⟨ma, rfl, hma⟩ := u8n_ (gx xa (by simp))
  obtain ⟨mb, rfl, hmb⟩ := u8n_ (gx xb (by simp))
  obtain ⟨mc, rfl, hmc⟩ := u8n_ (gx xc (by simp))
  obtain ⟨tn, rfl, htn⟩ := u8n_ (u8_bounds gn)
  have HR := Lib.hid hr
  have HG := Lib.hid hg
  obtain ⟨n, hn⟩ : ∃ n, n = ls.length := ⟨_, rfl⟩
  rw [← hn] at hlc ⊢
  have HN := Lib.hid hn.symm
  have hnm : n ≤ maxLen := by omega
  unfold maxLen at hnm
  clear hr hg hn hcc gx gd gn gc'
  go_enter Try.func5, Try.ntmps5
  go_wp2_with fail
  refine (l_cfg ma mb mc hma hmb hmc _).mono ?_
  rintro e w1 ⟨b, rfl, hb, hbr, ht⟩
  have HT1 := Lib.hid (((Touch.refl NoS w).alloc (.cells #[.int .u8 ma, .int .u8 mb, .int .u8 mc] 40)).trans ht)
  have hsz1 := HT1.out.size
  have HBR := Lib.hid hbr
  clear ht hbr
  unfold cfgV
  obtain ⟨M, hM⟩ : ∃ M, M = 1 + ma := ⟨_, rfl⟩
  obtain ⟨F, hF⟩ : ∃ F, F = 1 + mb := ⟨_, rfl⟩
  obtain ⟨O, hO⟩ : ∃ O, O = 1 + mc := ⟨_, rfl⟩
  rw [← hM, ← hF, ← hO]
  have hM1 : 1 ≤ M ∧ M ≤ 256 := by omega
  have hF1 : 1 ≤ F ∧ F ≤ 256 := by omega
  have hO1 : 1 ≤ O ∧ O ≤ 256 := by omega
  clear hM hF hO hma hmb hmc
  go_wp2_with fail
  obtain ⟨w2, hw2⟩ : ∃ w2, w2 = w1.alloc (.cells (cfgV b M F O) 25) := ⟨_, rfl⟩
  obtain ⟨gc, hgc⟩ : ∃ g, g = w1.heap.size := ⟨_, rfl⟩
  have hbc : Blk w2 gc 25 (cfgV b M F O) := by rw [hw2, hgc]; exact Blk.new _ _ _
  have HT2 : Hid (Touch NoS w w2) := by rw [hw2]; exact HT1.out.alloc _
  have HBR2 : Hid (Blk w2 b 63 #[.string ⟨#[47]⟩, .string ⟨#[]⟩, .string ⟨#[120]⟩]) := by rw [hw2]; exact HBR.out.alloc _
  have HBC := Lib.hid hbc
  have HNEW := Lib.hid (fun mk dr W (t : Touch NoS w2 W) => lg_new b M F O hM1.1 (by omega) hF1.1 (by omega) hO1.1 (by omega) mk dr W (HBR2.out.touch t (fun h => h)))
  unfold cfgV at hw2 HNEW
  rw [← hw2, ← hgc]
  clear hw2 hgc hbc HBR HBR2 HT1 hb hsz1
  refine (HNEW.out _ _ _ (Touch.refl _ _)).mono ?_
  rintro e w3 ⟨g1, k1, rfl, hk1, hk2, hk3, hk4, hL⟩
  have HK1 := Lib.hid hk1
  have HK2 := Lib.hid hk2
  have HK3 := Lib.hid hk3
  have HK4 : Hid (k1.masks = true) := by rw [hk4]; rfl
  have HL3 := Lib.hid hL
  have hbc3 := HBC.out.touch hL.old (fun h => h)
  have c0 := hbc3.cell 0
  have c1 := hbc3.cell 1
  have c2 := hbc3.cell 2
  have c3 := hbc3.cell 3
  have c4 := hbc3.cell 4
  have c5 := hbc3.cell 5
  have c6 := hbc3.cell 6
  have c7 := hbc3.cell 7
  have c8 := hbc3.cell 8
  have c9 := hbc3.cell 9
  have c10 := hbc3.cell 10
  have c11 := hbc3.cell 11
  have cl := hbc3.lt
  simp [cfgV] at c0 c1 c2 c3 c4 c5 c6 c7 c8 c9 c10 c11
  clear hL hk1 hk2 hk3 hk4 hbc3
  go_wp2_with fail
  refine (HNEW.out _ _ _ HL3.out.old).mono ?_
  rintro e w4 ⟨g2, k2, rfl, hk1, hk2, hk3, hk4, hL⟩
  have HM1 := Lib.hid hk1
  have HM4 : Hid (k2.masks = false) := by rw [hk4]; rfl
  have HL4 := Lib.hid (LgTwo.mk_ HL3.out hL)
  clear hL hk1 hk2 hk3 hk4 c0 c1 c2 c3 c4 c5 c6 c7 c8 c9 c10 c11 cl HL3 HNEW
  go_wp2_with fail
  refine (aw16 _).mono ?_
  rintro e w5 ⟨rfl, ht⟩
  have HL5 := Lib.hid (HL4.out.no ht)
  clear ht HL4
  by_cases h10 : n ≤ 10
  · have h10i : (n : Int) ≤ 10 := by omega
    obtain ⟨i0, hi, hz0, hz1, hz2⟩ := info_parts info_ev
    go_wp2_with fail
    have hws : w2.heap.size ≤ w5.heap.size := HL5.out.old.size
    have hOa : ((w5.alloc (.cells #[] 47)).alloc (.cells #[] 47)).ownsRow w2.heap.size 47 3 (.slice (some ⟨w5.heap.size, 0, none⟩) 0 0) 0 (evCells []) := ⟨rfl, .inr ⟨w5.heap.size, 0, #[], rfl, hws, (Blk.new w5 47 #[]).alloc _, Nat.le_refl _, by simp [maxLen], rfl, rfl⟩⟩
    have hOb : ((w5.alloc (.cells #[] 47)).alloc (.cells #[] 47)).ownsRow w2.heap.size 47 3 (.slice (some ⟨w5.heap.size + 1, 0, none⟩) 0 0) 0 (evCells []) := by
      refine ⟨rfl, .inr ⟨w5.heap.size + 1, 0, #[], rfl, by omega, ?_, Nat.le_refl _, by simp [maxLen], rfl, rfl⟩⟩
      have h := Blk.new (w5.alloc (.cells #[] 47)) 47 #[]
      rw [show (w5.alloc (.cells #[] 47)).heap.size = w5.heap.size + 1 from by simp] at h
      exact h
    have HOA := Lib.hid hOa
    have HOB := Lib.hid hOb
    have HLA := Lib.hid (HL5.out.no (((Touch.refl _ _).alloc (.cells #[] 47)).alloc (.cells #[] 47)))
    clear hOa hOb hws HL5
    go_loopw [16, 17, 18] (fun tv wv iv wr => ∃ (i : Nat) (L1 L2 : Lg) (outs wants : List Ev) (PS : List (List Int)) (G : List Fr) (Ao : Option Addr) (co : Nat) (Aw : Option Addr) (cw : Nat), i ≤ n ∧ iv = .int .i64 i ∧ tv = .slice Ao outs.length co ∧ wv = .slice Aw wants.length cw ∧
        wr.ownsRow w2.heap.size 47 3 (.slice Ao outs.length co) outs.length (evCells outs) ∧ wr.ownsRow w2.heap.size 47 3 (.slice Aw wants.length cw) wants.length (evCells wants) ∧ Apart (.slice Ao outs.length co) (.slice Aw wants.length cw) ∧
        LgTwo w2 wr g1 k1 L1 g2 k2 L2 ∧ Hid (Both k1 k2 M i L1 L2 outs wants PS G)) (fun _ _ iv _ => n - (intOf iv).toNat)
    case atStart =>
      refine ⟨0, Lg.new M draw, Lg.new M 0, [], [], [], [], _, _, _, _, by omega, rfl, rfl, rfl, HOA.out, HOB.out, ?_, HLA.out, Both.new k1 k2 M HK1.out HM1.out draw⟩
      intro b h1 h2
      simp [Value.ownBlock] at h1 h2
      omega
    case round =>
      obtain ⟨i, L0, L2, outs, wants, PS, G, Ao, co, Aw, cw, hin, rfl, rfl, rfl, ho, hw, hap, hL, hbo⟩ := hrel
      have HO := Lib.hid ho
      have HW := Lib.hid hw
      have HAP := Lib.hid hap
      have HL := Lib.hid hL
      have HBO : Hid (Both k1 k2 M i L0 L2 outs wants PS G) := hbo
      have HWL0 := Lib.hid HBO.out.wants
      have hwb : wants.length ≤ 10 := by have := HWL0.out; omega
      clear ho hw hap hL hbo HOA HOB HLA
      by_cases hlt : i < n
      · have hil : i < ls.length := by rw [HN.out]; exact hlt
        obtain ⟨ge, oe, rfl, hge, b0, b1, b2⟩ := ev_cells (HR.out.touch_no (HT2.out.trans HL.out.old)) i hil
        have hgd := (HG.out ls[i] (List.getElem_mem hil)).2.2
        obtain ⟨s, hs⟩ : ∃ x, x = ls[i].data := ⟨_, rfl⟩
        rw [← hs] at b2 hgd
        have hbc2 := HBC.out.touch HL.out.old (fun h => h)
        have c3 := hbc2.cell 3
        have cl := hbc2.lt
        simp [cfgV] at c3
        have HGD := Lib.hid hgd
        unfold maxLen at hgd
        clear hs b0 b1 hil hbc2
        by_cases hsm : s.size ≤ M
        · have hsi : ¬ ((M : Int) < s.size) := by omega
          obtain ⟨p1, p2, p3, p4, p5, p6, p7⟩ := HBO.out.send HK1.out HM1.out HK4.out HM4.out hM1.2 (by rw [HK2.out]; omega) (by rw [HK2.out]; omega) s hsm
          have HP1 := Lib.hid p1
          have HD4 := Lib.hid p2
          have HS4 := Lib.hid p3
          have HWT4 := Lib.hid p4
          have HP5 := Lib.hid p5
          have HP6 := Lib.hid p6
          have HP7 := Lib.hid p7
          clear p1 p2 p3 p4 p5 p6 p7
          go_wp2_with fail
          have hta : Touch NoS wr (wr.alloc (.cells #[.int .i64 2, .int .i64 0, .string s] 47)) := (Touch.refl _ _).alloc _
          refine (lt_send (HL.out.no hta) 2 0 s HGD.out (by rw [HK1.out]; omega) (by rw [HK2.out]; omega) (by rw [HK2.out]; omega)).mono ?_
          rintro e w3 ⟨rfl, hL3, hkp⟩
          rw [HP1.out]
          have hbx := hkp.blk _ _ _ (Blk.new wr 47 #[.int .i64 2, .int .i64 0, .string s]) (by decide)
          have x0 := hbx.cell 0
          have x1 := hbx.cell 1
          have x2 := hbx.cell 2
          have xl := hbx.lt
          simp at x0 x1 x2
          have HO3 := Lib.hid (hkp.own _ _ _ _ _ _ (own_no HO.out hta) (by decide))
          have HW3 := Lib.hid (hkp.own _ _ _ _ _ _ (own_no HW.out hta) (by decide))
          have HL3 := Lib.hid hL3
          have hw3 : w2.heap.size ≤ w3.heap.size := hL3.old.size
          have HEV : Hid (∀ u ∈ (Ev.cs ⟨2, 0, s⟩), u.oneCell' = true) := by
            have := evCells_one [(⟨2, 0, s⟩ : Ev)]
            rw [evCells_single] at this
            exact this
          have HRN : Hid (Rd (w3.alloc (.cells (Ev.cs ⟨2, 0, s⟩).toArray 47)) (some ⟨w3.heap.size, 0, none⟩) (Ev.cs ⟨2, 0, s⟩)) := Rd.new w3 _ 47 (0, 0)
          have hty : Touch NoS w3 (w3.alloc (.cells (Ev.cs ⟨2, 0, s⟩).toArray 47)) := (Touch.refl _ _).alloc _
          have HW3' := Lib.hid (own_no HW3.out hty)
          have HTY := Lib.hid hty
          clear hkp hbx hL3 hta hty b2 c3 cl HO HW HL
          go_wp2_with (at_builtin; refine wpList_app_row _ rfl (.tmp 88) (.tmp 90) 34 rfl w2.heap.size 47 i0 _ 3 32 Try.underlying34 hi hz0 hz1 hz2 rfl (by decide) (.slice Aw wants.length cw) wants.length (evCells wants) rfl HW3'.out (some ⟨w3.heap.size, 0, none⟩) 1 1 (Ev.cs ⟨2, 0, s⟩) rfl rfl HRN.out HEV.out (by unfold maxLen; omega) (by omega) (by simp; omega) ?_)
          intro v4 w4 ho4 hgr hv4
          rw [← evCells_single ⟨2, 0, s⟩, ← evCells_append, show wants.length + 1 = (wants ++ [(⟨2, 0, s⟩ : Ev)]).length from by simp] at ho4
          have HAP4' : Hid (Apart v4 (.slice Ao outs.length co)) := own_apart_grown (fun b h1 h2 => HAP.out b h2 h1) (own_no HO3.out HTY.out) (hv4.imp id (fun h => by simpa using h))
          have HO4 := Lib.hid (own_grown_apart (own_no HO3.out HTY.out) (fun b h1 h2 => HAP.out b h2 h1) hgr)
          have HL4 := Lib.hid ((HL3.out.no HTY.out).grown HW3'.out (by decide) (Nat.le_refl _) hgr)
          obtain ⟨WANTS, hWANTS⟩ : ∃ x, x = wants ++ [(⟨2, 0, s⟩ : Ev)] := ⟨_, rfl⟩
          rw [← hWANTS] at ho4 HP7
          have HWL : Hid (WANTS.length = i + 1) := by show WANTS.length = i + 1; rw [hWANTS, List.length_append, HWL0.out]; rfl
          obtain ⟨Aw, cw, rfl, _, _, _, _, _⟩ := own_cases ho4
          have HW4 := Lib.hid ho4
          have HAP4 : Hid (Apart (.slice Ao outs.length co) (.slice Aw WANTS.length cw)) := fun b h1 h2 => HAP4'.out b h2 h1
          have hcnt := HBO.out.count
          have HCNT := Lib.hid hcnt
          clear ho4 hgr hv4 hWANTS HW3 HW3' HO3 HL3 HRN HEV HTY x0 x1 x2 xl hw3 hcnt HAP HAP4'
          have hi10 : i ≤ 10 := by omega
          have HCN : Hid (100000 * i ≤ 1000000) := by show 100000 * i ≤ 1000000; omega
          go_wp2_with fail
          go_loopw [16, 20] (fun tv kv wr => ∃ (kk : Nat) (L1 L2 : Lg) (outs : List Ev) (PS : List (List Int)) (Ao : Option Addr) (co : Nat), (kk : Int) ≤ 100000 ∧ kv = .int .i64 kk ∧ tv = .slice Ao outs.length co ∧
              wr.ownsRow w2.heap.size 47 3 (.slice Ao outs.length co) outs.length (evCells outs) ∧ wr.ownsRow w2.heap.size 47 3 (.slice Aw WANTS.length cw) WANTS.length (evCells WANTS) ∧ Apart (.slice Ao outs.length co) (.slice Aw WANTS.length cw) ∧
              LgTwo w2 wr g1 k1 L1 g2 k2 L2 ∧ Hid (Drain k1 k2 M ((G ++ mfr true (cuts k1 2 s) L0.o.draw).flatMap fput) L1 L2 outs PS) ∧ Hid (L1.sent = false) ∧ L1.o.wt + kk ≤ 100000 ∧ PS.length ≤ 100000 * i + kk) (fun _ kv _ => 100000 - (intOf kv).toNat)
          case atStart => exact ⟨0, _, _, _, _, Ao, co, by omega, rfl, rfl, HO4.out, HW4.out, HAP4.out, HL4.out, HD4.out, HS4.out, by have := HWT4.out; omega, by have := HCNT.out; omega⟩
          case round =>
            obtain ⟨kk, L1, L2, outs, PS, Ao, co, hkk, rfl, rfl, ho, hw, hap, hL, hdr, hst, hwt, hps⟩ := hrel
            have HO := Lib.hid ho
            have HW := Lib.hid hw
            have HAP := Lib.hid hap
            have HL := Lib.hid hL
            have HDR : Hid (Drain k1 k2 M ((G ++ mfr true (cuts k1 2 s) L0.o.draw).flatMap fput) L1 L2 outs PS) := hdr
            have HST : Hid (L1.sent = false) := hst
            have HWT := Lib.hid hwt
            have HPS := Lib.hid hps
            have hlen := HDR.out.len
            have HLN0 : Hid (outs.length ≤ 700000000) := by show outs.length ≤ 700000000; have := HCN.out; omega
            clear ho hw hap hL hdr hst hwt hps hlen
            by_cases hk5 : (kk : Int) < 100000
            · go_wp2_with fail
              refine (lg_quiet HL.out.fst).mono ?_
              rintro e w8 ⟨rfl, rfl⟩
              cases hq : L1.quiet with
              | true =>
                have HQ := Lib.hid hq
                clear hq
                go_wp2_with fail
                have HOUT := Lib.hid (Both.mk (G := G ++ mfr true (cuts k1 2 s) L0.o.draw) (wants := WANTS) (i := i + 1) HDR.out HQ.out HST.out HP5.out HP6.out HP7.out (by have := HPS.out; omega) HWL.out)
                go_roundw
                · exact ⟨i + 1, L1, L2, outs, WANTS, PS, _, Ao, co, Aw, cw, by omega, by go_num, rfl, rfl, HO.out, HW.out, HAP.out, HL.out, HOUT.out⟩
                · simp [intOf]; omega
              | false =>
                have HDW := Lib.hid (Lg.take_down k1 L1 HDR.out.still (by rw [HK3.out]; omega) hq (1 + tn) (by omega))
                clear hq
                go_wp2_with fail
                refine (lt_take HL.out (1 + tn)).mono ?_
                rintro e w9 ⟨g9, rfl, hg9, hb9, hL9, hkp9⟩
                have hrin := HL.out.fst.ringIn
                have hrl : L1.o.ring.length ≤ 256 := by have := HL.out.fst.ring; have := HK3.out; omega
                have HSTEP := Lib.hid (HDR.out.step hM1.2 HM1.out (1 + tn) hrin hrl)
                have HPIN := Lib.hid (hrin.take (pk (1 + tn) L1.o.ring.length))
                have hpl : (L1.o.ring.take (pk (1 + tn) L1.o.ring.length)).length = pk (1 + tn) L1.o.ring.length := by rw [List.length_take, Nat.min_eq_left (pk_le _ _)]
                have hpz : pk (1 + tn) L1.o.ring.length ≤ 256 := by have := pk_le (1 + tn) L1.o.ring.length; omega
                have HRD := Lib.hid hb9.rd_all
                have HL9 := Lib.hid hL9.symm
                have HO9 := Lib.hid (hkp9.own _ _ _ _ _ _ HO.out (by decide))
                have HW9 := Lib.hid (hkp9.own _ _ _ _ _ _ HW.out (by decide))
                have HPL := Lib.hid hpl
                obtain ⟨P, hP⟩ : ∃ x, x = L1.o.ring.take (pk (1 + tn) L1.o.ring.length) := ⟨_, rfl⟩
                obtain ⟨pn, hpn⟩ : ∃ x, x = pk (1 + tn) L1.o.ring.length := ⟨_, rfl⟩
                rw [← hP] at HSTEP HPIN HRD HPL
                rw [← hpn] at HPL hpz ⊢
                have hfp := HDR.out.fine.part
                unfold most16 at hfp
                rw [HM1.out] at hfp
                have hfc := HDR.out.fine.tame.two
                have HFL := Lib.hid (Lg.feed_len k2 L2 HDR.out.fine.ok P HPIN.out (by rw [HPL.out]; omega))
                clear hb9 hL9 hkp9 hrin hpl hP hpn hg9
                go_wp2_with fail
                refine (lt_feed HL9.out (by rw [HM1.out]; omega) HDR.out.fine.ok P _ _ _ HPL.out HRD.out HPIN.out (by omega)).mono ?_
                rintro e w10 ⟨A10, c10, rfl, ho10, hL10, hkp10⟩
                obtain ⟨E10, hE10⟩ : ∃ x, x = (L2.feed k2 P).2 := ⟨_, rfl⟩
                obtain ⟨LX, hLX⟩ : ∃ x, x = (L2.feed k2 P).1 := ⟨_, rfl⟩
                rw [← hE10] at ho10 HFL HSTEP ⊢
                rw [← hLX] at hL10 HSTEP
                have HO10 := Lib.hid (hkp10.own _ _ _ _ _ _ HO9.out (by decide))
                have HW10 := Lib.hid (hkp10.own _ _ _ _ _ _ HW9.out (by decide))
                have HL10 := Lib.hid hL10.symm
                have hel : E10.length ≤ 600 := by have := HFL.out; rw [HPL.out] at this; omega
                have hw10 : w2.heap.size ≤ w10.heap.size := hL10.old.size
                obtain ⟨A11, c11, hv11, _, _, hrd11, _, _⟩ := own_cases ho10
                injection hv11 with e9 _ e10
                subst e9 e10
                have HRD11 := Lib.hid hrd11
                clear ho10 hL10 hkp10 hrd11 hE10 hLX HO9 HW9 HL9 HRD HFL
                go_wp2_with (at_builtin; refine wpList_app_row _ rfl (.tmp 101) (.tmp 108) 34 rfl w2.heap.size 47 i0 _ 3 32 Try.underlying34 hi hz0 hz1 hz2 rfl (by decide) _ outs.length (evCells outs) rfl HO10.out A10 E10.length c10 (evCells E10) rfl (evCells_length E10) HRD11.out (evCells_one E10) (by have := HLN0.out; unfold maxLen; omega) (by have := HLN0.out; omega) hw10 ?_)
                intro v12 w12 ho12 hgr hv12
                rw [← List.length_append, ← evCells_append] at ho12
                have HAP12 : Hid (Apart v12 (.slice Aw WANTS.length cw)) := own_apart_grown HAP.out HW10.out hv12
                have HW12 := Lib.hid (own_grown_apart HW10.out HAP.out hgr)
                have HL12 := Lib.hid (HL10.out.grown HO10.out (by decide) (Nat.le_refl _) hgr)
                obtain ⟨A12, c12, rfl, _, _, _, _, _⟩ := own_cases ho12
                have HO12 := Lib.hid ho12
                clear ho12 hgr hv12 HO10 HW10 HL10 HRD11
                go_wp2_with fail
                go_roundw
                · refine ⟨kk + 1, _, _, outs ++ E10, PS ++ [P], A12, c12, by omega, by go_num, ?_, ?_, HW12.out, ?_, HL12.out, HSTEP.out, HST.out, by have := HDW.out; have := HWT.out; omega, by rw [List.length_append]; have := HPS.out; simp only [List.length_cons, List.length_nil]; omega⟩
                  · first | rfl | rw [List.length_append]
                  · have h := HO12.out
                    first | exact h | (simp only [List.length_append] at h ⊢; exact h)
                  · have h := HAP12.out
                    first | exact h | (simp only [List.length_append] at h ⊢; exact h)
                · simp [intOf]; omega
            · have hji : ¬ ((kk : Int) < 100000) := by omega
              have HQ := Lib.hid (Lg.quiet_zero (L := L1) (by have := HWT.out; omega))
              go_wp2_with fail
              have HOUT := Lib.hid (Both.mk (G := G ++ mfr true (cuts k1 2 s) L0.o.draw) (wants := WANTS) (i := i + 1) HDR.out HQ.out HST.out HP5.out HP6.out HP7.out (by have := HPS.out; omega) HWL.out)
              go_roundw
              · exact ⟨i + 1, L1, L2, outs, WANTS, PS, _, Ao, co, Aw, cw, by omega, by go_num, rfl, rfl, HO.out, HW.out, HAP.out, HL.out, HOUT.out⟩
              · simp [intOf]; omega
        · have hsi : (M : Int) < s.size := by omega
          have HTF := Lib.hid (HT2.out.trans HL.out.old)
          go_wp2_with fail
          go_ret
          exact ⟨rfl, HTF.out.alloc _⟩
      · have hge : ¬ ((i : Int) < n) := by omega
        have hi10 : i ≤ 10 := by omega
        have HCN : Hid (100000 * i ≤ 1000000) := by show 100000 * i ≤ 1000000; omega
        have hctl : L0.o.ctl.length ≤ 1000000 := by
          obtain ⟨_, _, q, _⟩ := Lg.quiet_nil HBO.out.quiet
          rw [q]
          exact Nat.zero_le _
        have HCTL := Lib.hid hctl
        obtain ⟨⟨d, er⟩, hcp⟩ : ∃ r, cput code ⟨#[]⟩ = r := ⟨_, rfl⟩
        have HCNT := Lib.hid HBO.out.count
        clear hctl
        by_cases her : er = 0
        · subst her
          obtain ⟨p1, f, p2, p3, p4, p5, p6, X, c8, s8, d2, dr, p7, p8, p9, p10, p11, p12⟩ := HBO.out.close HM1.out HK4.out HM4.out hi10 code d hcp
          have HP1 := Lib.hid p1
          have HD4 := Lib.hid p2
          have HS4 := Lib.hid p3
          have HWT4 := Lib.hid p4
          have HP5 := Lib.hid p5
          have HP6 := Lib.hid p6
          have HP7 := Lib.hid p7
          have HP8 := Lib.hid p8
          have HP9 := Lib.hid p9
          have HP10 := Lib.hid p10
          have HP11 := Lib.hid p11
          have HP12 := Lib.hid p12
          clear p1 p2 p3 p4 p5 p6 p7 p8 p9 p10 p11 p12 hcp
          go_wp2_with fail
          refine (lt_close HL.out code ⟨#[]⟩ (by unfold maxLen; decide) HCTL.out).mono ?_
          rintro e w3 ⟨rfl, hL3, hkp⟩
          rw [HP1.out]
          have HO4 := Lib.hid (hkp.own _ _ _ _ _ _ HO.out (by decide))
          have HW4 := Lib.hid (hkp.own _ _ _ _ _ _ HW.out (by decide))
          have HL4 := Lib.hid hL3
          clear hkp hL3 HO HW HL HBO hlt hge
          go_wp2_with fail
          go_loopw [16, 21] (fun tv kv wr => ∃ (kk : Nat) (L1 L2 : Lg) (outs : List Ev) (PS : List (List Int)) (Ao : Option Addr) (co : Nat), (kk : Int) ≤ 100000 ∧ kv = .int .i64 kk ∧ tv = .slice Ao outs.length co ∧
              wr.ownsRow w2.heap.size 47 3 (.slice Ao outs.length co) outs.length (evCells outs) ∧ wr.ownsRow w2.heap.size 47 3 (.slice Aw wants.length cw) wants.length (evCells wants) ∧ Apart (.slice Ao outs.length co) (.slice Aw wants.length cw) ∧
              LgTwo w2 wr g1 k1 L1 g2 k2 L2 ∧ Hid (Drain k1 k2 M ((G ++ [f]).flatMap fput) L1 L2 outs PS) ∧ Hid (L1.sent = true) ∧ L1.o.wt + kk ≤ 100000 ∧ PS.length ≤ 100000 * i + kk) (fun _ kv _ => 100000 - (intOf kv).toNat)
          case atStart => exact ⟨0, _, _, _, _, Ao, co, by omega, rfl, rfl, HO4.out, HW4.out, HAP.out, HL4.out, HD4.out, HS4.out, by have := HWT4.out; omega, by have := HCNT.out; omega⟩
          case round =>
            obtain ⟨kk, L1, L2, outs, PS, Ao, co, hkk, rfl, rfl, ho, hw, hap, hL, hdr, hst, hwt, hps⟩ := hrel
            have HO := Lib.hid ho
            have HW := Lib.hid hw
            have HAP := Lib.hid hap
            have HL := Lib.hid hL
            have HDR : Hid (Drain k1 k2 M ((G ++ [f]).flatMap fput) L1 L2 outs PS) := hdr
            have HST : Hid (L1.sent = true) := hst
            have HWT := Lib.hid hwt
            have HPS := Lib.hid hps
            have hlen := HDR.out.len
            have HLN0 : Hid (outs.length ≤ 700000000) := by show outs.length ≤ 700000000; have := HCN.out; omega
            clear ho hw hap hL hdr hst hwt hps hlen
            by_cases hk5 : (kk : Int) < 100000
            · go_wp2_with fail
              refine (lg_quiet HL.out.fst).mono ?_
              rintro e w8 ⟨rfl, rfl⟩
              cases hq : L1.quiet with
              | true =>
                have HQ := Lib.hid hq
                clear hq
                go_wp2_with fail
                have hfl : PS.flatten = (G ++ [f]).flatMap fput := by
                  have := HDR.out.bytes
                  rw [Lg.quiet_toGo HQ.out, List.append_nil] at this
                  exact this
                obtain ⟨hout, pp, ee, hset⟩ := told_all HM1.out (by omega) HDR.out.fed HDR.out.pin hfl HP5.out HP6.out HP7.out
                have hgot : L2.got = true := by rw [hset]; exact HP8.out
                have hwrg : L2.wrong = 0 := by rw [hset]; exact HP9.out
                have hoo : L2.o = ({ ring := [], tail := [], ctl := [ctlF 8 d2], rest := [], draw := dr } : Ou).move k2.out k2.masks := by rw [hset]; exact HP10.out
                have HGT := Lib.hid hgot
                have HWR := Lib.hid hwrg
                have HOO := Lib.hid hoo
                obtain ⟨N1, hN1⟩ : ∃ x, x = wants.length := ⟨_, rfl⟩
                have hol : outs.length = N1 + 1 := by rw [hout, List.length_append, ← hN1]; rfl
                have hoc : evCells outs = evCells wants ++ evCells [⟨8, c8, s8⟩] := by rw [hout, evCells_append]
                obtain ⟨Ao', co', hvo, hcc1, _, hrdo, _, _⟩ := own_cases HO.out
                injection hvo with eo1 _ eo2
                subst eo1 eo2
                obtain ⟨gA, off, rfl, hgA, z0x, -, -⟩ := ev_cells hrdo N1 (by rw [hol]; omega)
                have z0 : wr.cell? ⟨gA, off + N1 * 3, none⟩ = some (.int .i64 8) := by
                  rw [z0x]
                  simp only [hout]
                  rw [List.getElem_append_right (by omega)]
                  simp [hN1]
                obtain ⟨Aw', cw', hvw, _, _, hrdw, _, _⟩ := own_cases HW.out
                injection hvw with ew1 _ ew2
                subst ew1 ew2
                have HOC := Lib.hid hoc
                have HN1 := Lib.hid hN1
                rw [hol] at hcc1 ⊢
                have hn10 : N1 ≤ 10 := by rw [hN1]; exact hwb
                have HMU := Lib.hid HDR.out.mute
                have HFI := Lib.hid HDR.out.fine
                rw [← hN1]
                clear z0x hfl hout hset hgot hwrg hoo hol hoc hrdo hrdw hN1 HDR HCN HLN0 HWT HPS hkk hk5
                go_wp2_with fail
                refine (lg_got HL.out.snd).mono ?_
                rintro e w13 ⟨rfl, rfl⟩
                rw [HGT.out]
                have hz1 : N1 + 1 ≤ co := hcc1
                have hz2 : ((N1 : Int) + 1) ≤ co := by omega
                have hz3 : (N1 : Int) ≤ co := by omega
                have hz4 : ¬ co = N1 := by omega
                go_wp2_with fail
                refine (lt_take HL.out.symm 300).mono ?_
                rintro e w14 ⟨g14, rfl, hg14, hb14, hL14, hkp14⟩
                have hrin := HL.out.snd.ringIn
                have HRD14 := Lib.hid hb14.rd_all
                have HL14 := Lib.hid hL14.symm
                have HO14 := Lib.hid (hkp14.own _ _ _ _ _ _ HO.out (by decide))
                have HW14 := Lib.hid (hkp14.own _ _ _ _ _ _ HW.out (by decide))
                have htg := Lg.take_toGo k2 L2 300
                have hff : fputz (ctlF 8 d2) = fput (ctlF 8 d2) := by unfold fputz; rw [if_pos (form_check (ctl_form (.inl rfl) HP11.out) (by show d2.size ≤ 65536; have := HP11.out; omega))]
                have hRR : L2.o.toGo k2.masks = fput (ctlF 8 d2) := by
                  rw [HOO.out, Ou.move_toGo, HM4.out]
                  simp only [Ou.toGo, mfr, List.append_nil, List.nil_append, Bool.false_eq_true, if_false, List.flatMap_cons, List.flatMap_nil, hff]
                rw [hRR] at htg
                have hfit : fits (!k1.masks) (most16 k1) (ctlF 8 d2) := ⟨ctlF_good 8 (by omega) d2 (by have := HP11.out; unfold maxLen; omega), ctl_form (.inl rfl) HP11.out, by rw [HK4.out]; rfl, by show (d2.size : Int) ≤ most16 k1; have := HP11.out; unfold most16; omega⟩
                have hlf : (fput (ctlF 8 d2)).length ≤ maxLen := by
                  rw [fput_length]
                  have h1 := size9_le (ctlF 8 d2)
                  have h2 : (ctlF 8 d2).data.size ≤ 125 := HP11.out
                  unfold maxLen
                  omega
                have hdn : L1.down = false := by unfold Lg.down; rw [HMU.out.got, HMU.out.wrong]; rfl
                have hfw := feed_begin k1 L1 hdn HMU.out.part (by rw [HMU.out.m]; rfl) (by rw [HMU.out.m]; rfl) HST.out (ctlF 8 d2) hfit rfl HP12.out _ _ htg hlf
                rw [HMU.out.wrong] at hfw
                have HPIN := Lib.hid (hrin.take (pk 300 L2.o.ring.length))
                have hpl : (L2.o.ring.take (pk 300 L2.o.ring.length)).length = pk 300 L2.o.ring.length := by rw [List.length_take, Nat.min_eq_left (pk_le _ _)]
                have hpz : pk 300 L2.o.ring.length ≤ 300 := by unfold pk; omega
                have HPL := Lib.hid hpl
                obtain ⟨P, hP⟩ : ∃ x, x = L2.o.ring.take (pk 300 L2.o.ring.length) := ⟨_, rfl⟩
                obtain ⟨pn, hpn⟩ : ∃ x, x = pk 300 L2.o.ring.length := ⟨_, rfl⟩
                rw [← hP] at hfw HPIN HRD14 HPL
                rw [← hpn] at HPL hpz ⊢
                have HFW := Lib.hid hfw
                have hc0 : L1.o.ctl.length = 0 := by
                  obtain ⟨_, _, q, _⟩ := Lg.quiet_nil HQ.out
                  rw [q]
                  rfl
                have hp0 : L1.part.length = 0 := by rw [HMU.out.part]; rfl
                have HOK1 : Hid (L1.ok k1) := ⟨by rw [HMU.out.part]; exact fun x hx => (by cases hx), fun h => absurd HMU.out.serr h⟩
                have hbd : L1.o.ctl.length + L1.part.length + pn ≤ 900000 := by omega
                have HBD := Lib.hid hbd
                clear hb14 hL14 hkp14 hrin htg hff hRR hfit hlf hdn hfw hpl hP hpn hg14 hc0 hp0 hbd z0 hgA
                go_wp2_with fail
                refine (lt_feed HL14.out (by rw [HK1.out]; omega) HOK1.out P _ _ _ HPL.out HRD14.out HPIN.out HBD.out).mono ?_
                rintro e w15 ⟨A15, c15, rfl, -, hL15, hkp15⟩
                have HL15 := Lib.hid hL15
                have HO15 := Lib.hid (hkp15.own _ _ _ _ _ _ HO14.out (by decide))
                have HW15 := Lib.hid (hkp15.own _ _ _ _ _ _ HW14.out (by decide))
                have HRO15 := Lib.hid (own_pre HO15.out HOC.out)
                have HRW15 := Lib.hid (own_pre HW15.out (List.append_nil _).symm)
                clear hL15 hkp15
                go_wp2_with fail
                refine (r12_same (some ⟨gA, off, none⟩) Aw wants wants N1 N1 co cw HN1.out.symm HN1.out.symm w15 HRO15.out HRW15.out (by omega) (by omega)).mono ?_
                rintro e w16 ⟨rfl, ht16⟩
                rw [decide_eq_true rfl]
                have HL16 := Lib.hid (HL15.out.no ht16)
                have HTF := Lib.hid (HT2.out.trans HL16.out.old)
                clear ht16 HL15
                go_wp2_with fail
                refine (lg_wrong HL16.out.snd).mono ?_
                rintro e w17 ⟨rfl, rfl⟩
                rw [show (L2.take k2 300).wrong = 0 from HWR.out]
                go_wp2_with fail
                refine (lg_wrong HL16.out.fst).mono ?_
                rintro e w17 ⟨rfl, rfl⟩
                rw [HFW.out]
                go_wp2_with fail
                go_ret
                exact ⟨rfl, HTF.out⟩
              | false =>
                have HDW := Lib.hid (Lg.take_down k1 L1 HDR.out.still (by rw [HK3.out]; omega) hq (1 + tn) (by omega))
                clear hq
                go_wp2_with fail
                refine (lt_take HL.out (1 + tn)).mono ?_
                rintro e w9 ⟨g9, rfl, hg9, hb9, hL9, hkp9⟩
                have hrin := HL.out.fst.ringIn
                have hrl : L1.o.ring.length ≤ 256 := by have := HL.out.fst.ring; have := HK3.out; omega
                have HSTEP := Lib.hid (HDR.out.step hM1.2 HM1.out (1 + tn) hrin hrl)
                have HPIN := Lib.hid (hrin.take (pk (1 + tn) L1.o.ring.length))
                have hpl : (L1.o.ring.take (pk (1 + tn) L1.o.ring.length)).length = pk (1 + tn) L1.o.ring.length := by rw [List.length_take, Nat.min_eq_left (pk_le _ _)]
                have hpz : pk (1 + tn) L1.o.ring.length ≤ 256 := by have := pk_le (1 + tn) L1.o.ring.length; omega
                have HRD := Lib.hid hb9.rd_all
                have HL9 := Lib.hid hL9.symm
                have HO9 := Lib.hid (hkp9.own _ _ _ _ _ _ HO.out (by decide))
                have HW9 := Lib.hid (hkp9.own _ _ _ _ _ _ HW.out (by decide))
                have HPL := Lib.hid hpl
                obtain ⟨P, hP⟩ : ∃ x, x = L1.o.ring.take (pk (1 + tn) L1.o.ring.length) := ⟨_, rfl⟩
                obtain ⟨pn, hpn⟩ : ∃ x, x = pk (1 + tn) L1.o.ring.length := ⟨_, rfl⟩
                rw [← hP] at HSTEP HPIN HRD HPL
                rw [← hpn] at HPL hpz ⊢
                have hfp := HDR.out.fine.part
                unfold most16 at hfp
                rw [HM1.out] at hfp
                have hfc := HDR.out.fine.tame.two
                have HFL := Lib.hid (Lg.feed_len k2 L2 HDR.out.fine.ok P HPIN.out (by rw [HPL.out]; omega))
                clear hb9 hL9 hkp9 hrin hpl hP hpn hg9
                go_wp2_with fail
                refine (lt_feed HL9.out (by rw [HM1.out]; omega) HDR.out.fine.ok P _ _ _ HPL.out HRD.out HPIN.out (by omega)).mono ?_
                rintro e w10 ⟨A10, c10, rfl, ho10, hL10, hkp10⟩
                obtain ⟨E10, hE10⟩ : ∃ x, x = (L2.feed k2 P).2 := ⟨_, rfl⟩
                obtain ⟨LX, hLX⟩ : ∃ x, x = (L2.feed k2 P).1 := ⟨_, rfl⟩
                rw [← hE10] at ho10 HFL HSTEP ⊢
                rw [← hLX] at hL10 HSTEP
                have HO10 := Lib.hid (hkp10.own _ _ _ _ _ _ HO9.out (by decide))
                have HW10 := Lib.hid (hkp10.own _ _ _ _ _ _ HW9.out (by decide))
                have HL10 := Lib.hid hL10.symm
                have hel : E10.length ≤ 600 := by have := HFL.out; rw [HPL.out] at this; omega
                have hw10 : w2.heap.size ≤ w10.heap.size := hL10.old.size
                obtain ⟨A11, c11, hv11, _, _, hrd11, _, _⟩ := own_cases ho10
                injection hv11 with e9 _ e10
                subst e9 e10
                have HRD11 := Lib.hid hrd11
                clear ho10 hL10 hkp10 hrd11 hE10 hLX HO9 HW9 HL9 HRD HFL
                go_wp2_with (at_builtin; refine wpList_app_row _ rfl (.tmp 122) (.tmp 129) 34 rfl w2.heap.size 47 i0 _ 3 32 Try.underlying34 hi hz0 hz1 hz2 rfl (by decide) _ outs.length (evCells outs) rfl HO10.out A10 E10.length c10 (evCells E10) rfl (evCells_length E10) HRD11.out (evCells_one E10) (by have := HLN0.out; unfold maxLen; omega) (by have := HLN0.out; omega) hw10 ?_)
                intro v12 w12 ho12 hgr hv12
                rw [← List.length_append, ← evCells_append] at ho12
                have HAP12 : Hid (Apart v12 (.slice Aw wants.length cw)) := own_apart_grown HAP.out HW10.out hv12
                have HW12 := Lib.hid (own_grown_apart HW10.out HAP.out hgr)
                have HL12 := Lib.hid (HL10.out.grown HO10.out (by decide) (Nat.le_refl _) hgr)
                obtain ⟨A12, c12, rfl, _, _, _, _, _⟩ := own_cases ho12
                have HO12 := Lib.hid ho12
                clear ho12 hgr hv12 HO10 HW10 HL10 HRD11
                go_wp2_with fail
                go_roundw
                · refine ⟨kk + 1, _, _, outs ++ E10, PS ++ [P], A12, c12, by omega, by go_num, ?_, ?_, HW12.out, ?_, HL12.out, HSTEP.out, HST.out, by have := HDW.out; have := HWT.out; omega, by rw [List.length_append]; have := HPS.out; simp only [List.length_cons, List.length_nil]; omega⟩
                  · first | rfl | rw [List.length_append]
                  · have h := HO12.out
                    first | exact h | (simp only [List.length_append] at h ⊢; exact h)
                  · have h := HAP12.out
                    first | exact h | (simp only [List.length_append] at h ⊢; exact h)
                · simp [intOf]; omega
            · have hji : ¬ ((kk : Int) < 100000) := by omega
              have HQ := Lib.hid (Lg.quiet_zero (L := L1) (by have := HWT.out; omega))
              go_wp2_with fail
              have hfl : PS.flatten = (G ++ [f]).flatMap fput := by
                have := HDR.out.bytes
                rw [Lg.quiet_toGo HQ.out, List.append_nil] at this
                exact this
              obtain ⟨hout, pp, ee, hset⟩ := told_all HM1.out (by omega) HDR.out.fed HDR.out.pin hfl HP5.out HP6.out HP7.out
              have hgot : L2.got = true := by rw [hset]; exact HP8.out
              have hwrg : L2.wrong = 0 := by rw [hset]; exact HP9.out
              have hoo : L2.o = ({ ring := [], tail := [], ctl := [ctlF 8 d2], rest := [], draw := dr } : Ou).move k2.out k2.masks := by rw [hset]; exact HP10.out
              have HGT := Lib.hid hgot
              have HWR := Lib.hid hwrg
              have HOO := Lib.hid hoo
              obtain ⟨N1, hN1⟩ : ∃ x, x = wants.length := ⟨_, rfl⟩
              have hol : outs.length = N1 + 1 := by rw [hout, List.length_append, ← hN1]; rfl
              have hoc : evCells outs = evCells wants ++ evCells [⟨8, c8, s8⟩] := by rw [hout, evCells_append]
              obtain ⟨Ao', co', hvo, hcc1, _, hrdo, _, _⟩ := own_cases HO.out
              injection hvo with eo1 _ eo2
              subst eo1 eo2
              obtain ⟨gA, off, rfl, hgA, z0x, -, -⟩ := ev_cells hrdo N1 (by rw [hol]; omega)
              have z0 : wr.cell? ⟨gA, off + N1 * 3, none⟩ = some (.int .i64 8) := by
                rw [z0x]
                simp only [hout]
                rw [List.getElem_append_right (by omega)]
                simp [hN1]
              obtain ⟨Aw', cw', hvw, _, _, hrdw, _, _⟩ := own_cases HW.out
              injection hvw with ew1 _ ew2
              subst ew1 ew2
              have HOC := Lib.hid hoc
              have HN1 := Lib.hid hN1
              rw [hol] at hcc1 ⊢
              have hn10 : N1 ≤ 10 := by rw [hN1]; exact hwb
              have HMU := Lib.hid HDR.out.mute
              have HFI := Lib.hid HDR.out.fine
              rw [← hN1]
              clear z0x hfl hout hset hgot hwrg hoo hol hoc hrdo hrdw hN1 HDR HCN HLN0 HWT HPS hkk hji hk5
              go_wp2_with fail
              refine (lg_got HL.out.snd).mono ?_
              rintro e w13 ⟨rfl, rfl⟩
              rw [HGT.out]
              have hz1 : N1 + 1 ≤ co := hcc1
              have hz2 : ((N1 : Int) + 1) ≤ co := by omega
              have hz3 : (N1 : Int) ≤ co := by omega
              have hz4 : ¬ co = N1 := by omega
              go_wp2_with fail
              refine (lt_take HL.out.symm 300).mono ?_
              rintro e w14 ⟨g14, rfl, hg14, hb14, hL14, hkp14⟩
              have hrin := HL.out.snd.ringIn
              have HRD14 := Lib.hid hb14.rd_all
              have HL14 := Lib.hid hL14.symm
              have HO14 := Lib.hid (hkp14.own _ _ _ _ _ _ HO.out (by decide))
              have HW14 := Lib.hid (hkp14.own _ _ _ _ _ _ HW.out (by decide))
              have htg := Lg.take_toGo k2 L2 300
              have hff : fputz (ctlF 8 d2) = fput (ctlF 8 d2) := by unfold fputz; rw [if_pos (form_check (ctl_form (.inl rfl) HP11.out) (by show d2.size ≤ 65536; have := HP11.out; omega))]
              have hRR : L2.o.toGo k2.masks = fput (ctlF 8 d2) := by
                rw [HOO.out, Ou.move_toGo, HM4.out]
                simp only [Ou.toGo, mfr, List.append_nil, List.nil_append, Bool.false_eq_true, if_false, List.flatMap_cons, List.flatMap_nil, hff]
              rw [hRR] at htg
              have hfit : fits (!k1.masks) (most16 k1) (ctlF 8 d2) := ⟨ctlF_good 8 (by omega) d2 (by have := HP11.out; unfold maxLen; omega), ctl_form (.inl rfl) HP11.out, by rw [HK4.out]; rfl, by show (d2.size : Int) ≤ most16 k1; have := HP11.out; unfold most16; omega⟩
              have hlf : (fput (ctlF 8 d2)).length ≤ maxLen := by
                rw [fput_length]
                have h1 := size9_le (ctlF 8 d2)
                have h2 : (ctlF 8 d2).data.size ≤ 125 := HP11.out
                unfold maxLen
                omega
              have hdn : L1.down = false := by unfold Lg.down; rw [HMU.out.got, HMU.out.wrong]; rfl
              have hfw := feed_begin k1 L1 hdn HMU.out.part (by rw [HMU.out.m]; rfl) (by rw [HMU.out.m]; rfl) HST.out (ctlF 8 d2) hfit rfl HP12.out _ _ htg hlf
              rw [HMU.out.wrong] at hfw
              have HPIN := Lib.hid (hrin.take (pk 300 L2.o.ring.length))
              have hpl : (L2.o.ring.take (pk 300 L2.o.ring.length)).length = pk 300 L2.o.ring.length := by rw [List.length_take, Nat.min_eq_left (pk_le _ _)]
              have hpz : pk 300 L2.o.ring.length ≤ 300 := by unfold pk; omega
              have HPL := Lib.hid hpl
              obtain ⟨P, hP⟩ : ∃ x, x = L2.o.ring.take (pk 300 L2.o.ring.length) := ⟨_, rfl⟩
              obtain ⟨pn, hpn⟩ : ∃ x, x = pk 300 L2.o.ring.length := ⟨_, rfl⟩
              rw [← hP] at hfw HPIN HRD14 HPL
              rw [← hpn] at HPL hpz ⊢
              have HFW := Lib.hid hfw
              have hc0 : L1.o.ctl.length = 0 := by
                obtain ⟨_, _, q, _⟩ := Lg.quiet_nil HQ.out
                rw [q]
                rfl
              have hp0 : L1.part.length = 0 := by rw [HMU.out.part]; rfl
              have HOK1 : Hid (L1.ok k1) := ⟨by rw [HMU.out.part]; exact fun x hx => (by cases hx), fun h => absurd HMU.out.serr h⟩
              have hbd : L1.o.ctl.length + L1.part.length + pn ≤ 900000 := by omega
              have HBD := Lib.hid hbd
              clear hb14 hL14 hkp14 hrin htg hff hRR hfit hlf hdn hfw hpl hP hpn hg14 hc0 hp0 hbd z0 hgA
              go_wp2_with fail
              refine (lt_feed HL14.out (by rw [HK1.out]; omega) HOK1.out P _ _ _ HPL.out HRD14.out HPIN.out HBD.out).mono ?_
              rintro e w15 ⟨A15, c15, rfl, -, hL15, hkp15⟩
              have HL15 := Lib.hid hL15
              have HO15 := Lib.hid (hkp15.own _ _ _ _ _ _ HO14.out (by decide))
              have HW15 := Lib.hid (hkp15.own _ _ _ _ _ _ HW14.out (by decide))
              have HRO15 := Lib.hid (own_pre HO15.out HOC.out)
              have HRW15 := Lib.hid (own_pre HW15.out (List.append_nil _).symm)
              clear hL15 hkp15
              go_wp2_with fail
              refine (r12_same (some ⟨gA, off, none⟩) Aw wants wants N1 N1 co cw HN1.out.symm HN1.out.symm w15 HRO15.out HRW15.out (by omega) (by omega)).mono ?_
              rintro e w16 ⟨rfl, ht16⟩
              rw [decide_eq_true rfl]
              have HL16 := Lib.hid (HL15.out.no ht16)
              have HTF := Lib.hid (HT2.out.trans HL16.out.old)
              clear ht16 HL15
              go_wp2_with fail
              refine (lg_wrong HL16.out.snd).mono ?_
              rintro e w17 ⟨rfl, rfl⟩
              rw [show (L2.take k2 300).wrong = 0 from HWR.out]
              go_wp2_with fail
              refine (lg_wrong HL16.out.fst).mono ?_
              rintro e w17 ⟨rfl, rfl⟩
              rw [HFW.out]
              go_wp2_with fail
              go_ret
              exact ⟨rfl, HTF.out⟩
        · have hcl : L0.close k1 code ⟨#[]⟩ = (L0, false) := by unfold Lg.close; rw [hcp, if_pos (.inr her)]
          have hfl : PS.flatten = G.flatMap fput := by
            have := HBO.out.drain.bytes
            rw [Lg.quiet_toGo HBO.out.quiet, List.append_nil] at this
            exact this
          obtain ⟨u, htold⟩ := HBO.out.told
          obtain ⟨hout, pp, ee, hset⟩ := told_all HM1.out (by omega) HBO.out.drain.fed HBO.out.drain.pin hfl HBO.out.fit (by have := HBO.out.len; omega) htold
          have hw2 : L2.wrong = 0 := by rw [hset]; rfl
          have HW2 := Lib.hid hw2
          have HOUT := Lib.hid hout
          have HW1 := Lib.hid HBO.out.drain.mute.wrong
          have holn : outs.length ≤ 10 := by rw [hout]; exact hwb
          clear hcp her hfl htold hout hset hw2
          go_wp2_with fail
          refine (lt_close HL.out code ⟨#[]⟩ (by unfold maxLen; decide) HCTL.out).mono ?_
          rintro e w3 ⟨rfl, hL3, hkp⟩
          rw [hcl] at hL3 ⊢
          have HO4 := hkp.own _ _ _ _ _ _ HO.out (by decide)
          have HW4 := hkp.own _ _ _ _ _ _ HW.out (by decide)
          have HL4 := Lib.hid hL3
          obtain ⟨Ao', co', hvo, _, _, hrdo, _, _⟩ := own_cases HO4
          injection hvo with eo1 _ eo2
          subst eo1 eo2
          obtain ⟨Aw', cw', hvw, _, _, hrdw, _, _⟩ := own_cases HW4
          injection hvw with ew1 _ ew2
          subst ew1 ew2
          have HRO := Lib.hid hrdo
          have HRW := Lib.hid hrdw
          clear hkp hL3 HO HW HL HBO hlt hge HO4 HW4 hrdo hrdw hcl
          go_wp2_with fail
          refine (r12_same Ao Aw outs wants outs.length wants.length co cw rfl rfl w3 HRO.out HRW.out (by omega) (by omega)).mono ?_
          rintro e w4 ⟨rfl, ht4⟩
          rw [decide_eq_true HOUT.out]
          have HL5 := Lib.hid (HL4.out.no ht4)
          have HTF := Lib.hid (HT2.out.trans HL5.out.old)
          clear ht4 HL4
          go_wp2_with fail
          refine (lg_wrong HL5.out.snd).mono ?_
          rintro e w5 ⟨rfl, rfl⟩
          rw [HW2.out]
          go_wp2_with fail
          refine (lg_wrong HL5.out.fst).mono ?_
          rintro e w5 ⟨rfl, rfl⟩
          rw [HW1.out]
          go_wp2_with fail
          go_ret
          exact ⟨rfl, HTF.out⟩
  · have h10i : ¬ ((n : Int) ≤ 10) := by omega
    go_wp2_with fail
    refine (aw16 _).mono ?_
    rintro e w6 ⟨rfl, ht⟩
    have HTF := Lib.hid ((HT2.out.trans HL5.out.old).trans ht)
    clear ht
    go_wp2_with fail
    go_ret
    exact ⟨rfl, HTF.out⟩
end Go.Proofs.Ytpadlcllcmodaaa
