/- leg: pings and their pongs; plain Lean. | law16: LegFree: the walk. -/
import Derived.Test.YtpadlcllcmodaaaU02
import Derived.Test.YtpadlcllcmodaaaU01
import Derived.Test.YtpadlcllcmodaaaY43
import Derived.Test.YtpadlcllcmodaaaY05
/- leg: pings and their pongs; plain Lean. -/
namespace Go.Proofs.Ytpadlcllcmodaaa
open Go.RowKit
set_option linter.unusedSimpArgs false
set_option linter.unusedVariables false

/-- A ping, masked by a key of zeros. -/
def pingF (d : ByteArray) : Fr := ⟨true, 9, true, 0, 0, 0, 0, d⟩
theorem pingF_fits (most : Int) (d : ByteArray) (hd : d.size ≤ 125) (hm : 125 ≤ most) : fits true most (pingF d) := by
  refine ⟨⟨(Lit.wf_int_iff .i64 9).2 ⟨by show -9223372036854775808 ≤ (9 : Int); omega, by show (9 : Int) ≤ 9223372036854775807; omega⟩, ?_, by show d.size ≤ maxLen; unfold maxLen; omega⟩, ?_, rfl, by show (d.size : Int) ≤ most; omega⟩
  · intro x hx
    simp [pingF, Fr.key] at hx
    omega
  · unfold form9 known9 control9 pingF
    have h2 : ¬ 125 < d.size := by omega
    simp [h2]
/-- One that only gets pings. -/
structure Lg.pinged (k : Lk) (M : Nat) (L : Lg) : Prop where
  part : L.part = []
  serr : L.serr = 0
  m : L.m = Mc.new M
  got : L.got = false
  wrong : L.wrong = 0
  sent : L.sent = false
  rest : L.o.rest = []
  still : L.o.still k.out
theorem Lg.new_pinged (k : Lk) (M : Nat) (d : Int) : (Lg.new M d).pinged k M := ⟨rfl, rfl, rfl, rfl, rfl, rfl, rfl, Lg.new_still k M d⟩
theorem Ou.moveN_rest (M : Nat) (mk : Bool) : ∀ (n : Nat) (o : Ou), o.rest = [] → (o.moveN M mk n).rest = [] := by
  intro n
  induction n with
  | zero => intro o h; exact h
  | succ n ih =>
    intro o h
    unfold Ou.moveN
    split
    · rcases hs : (o.push M).step mk with _ | o2
      · exact h
      · refine ih o2 ?_
        obtain ⟨r, t, c, s, d⟩ := o
        simp only at h
        subst h
        rcases c with _ | ⟨g, gs⟩
        · simp [Ou.step, Ou.push] at hs
        · simp [Ou.step, Ou.push] at hs
          subst hs
          rfl
    · exact h
theorem Lg.pinged.take {k : Lk} {M : Nat} {L : Lg} (h : L.pinged k M) (n : Int) : (L.take k n).pinged k M := ⟨h.part, h.serr, h.m, h.got, h.wrong, h.sent, Ou.moveN_rest _ _ _ _ h.rest, Lg.take_still k L n⟩
theorem Lg.pinged.pong {k : Lk} {M : Nat} {L : Lg} (h : L.pinged k M) (d : ByteArray) : (L.pong k d).pinged k M := by
  unfold Lg.pong
  rw [if_neg (by rw [h.sent]; simp)]
  exact ⟨h.part, h.serr, h.m, h.got, h.wrong, h.sent, Ou.moveN_rest _ _ _ _ h.rest, Ou.move_still _ _ _⟩
/-- A ping is fed: its pong is to go out, and nothing is told. -/
theorem feed_ping {k : Lk} {M : Nat} {L : Lg} (h : L.pinged k M) (hk : k.masks = false) (d : ByteArray) (hd : d.size ≤ 125) : L.feed k (fput (pingF d)) = (L.pong k d, []) := by
  have hdn : L.down = false := by unfold Lg.down; rw [h.got, h.wrong]; rfl
  have hf := pingF_fits (most16 k) d hd (by unfold most16; omega)
  have hs := scan_puts (mk := true) (most := most16 k) [pingF d] (fun g hg => by simp at hg; rw [hg]; exact hf) (by
    simp only [List.flatMap_cons, List.flatMap_nil, List.append_nil, fput_length]
    have := size9_le (pingF d)
    have h2 : (pingF d).data.size ≤ 125 := hd
    unfold maxLen
    omega)
  simp only [List.flatMap_cons, List.flatMap_nil, List.append_nil] at hs
  have hA := Lg.feed_by hdn (b := fput (pingF d)) (fs := [pingF d]) (p := []) (e := 0) (by rw [h.part, List.nil_append, hk]; exact hs)
  have hm : mtake L.m (pingF d) = (L.m, ⟨9, 0, d⟩, true, 0) := by
    rw [h.m]
    exact mt_ctl rfl rfl (.inl rfl) rfl hd (.inl rfl)
  have hL : L.setp [] 0 = L := by unfold Lg.setp; rw [← h.part, ← h.serr]
  have ht : L.takeF k (pingF d) = (L.pong k d, Ev.zero, false) := by
    unfold Lg.takeF
    rw [hm]
    simp
  have hp := h.pong d
  have hpd : (L.pong k d).down = false := by unfold Lg.down; rw [hp.got, hp.wrong]; rfl
  have hff : feedFs k L [pingF d] = (L.pong k d, [], false) := by
    show feedStep k (L, [], false) (pingF d) = _
    unfold feedStep
    rw [if_neg (by simp), ht]
    exact Prod.ext rfl (Prod.ext rfl hpd)
  rw [hL, hff] at hA
  rw [hA]
  simp
/-- Which pongs are, or will be, out: of these data. -/
structure Pongs (k : Lk) (M : Nat) (l : List ByteArray) (L : Lg) (S : List Int) (D : List ByteArray) : Prop where
  side : L.pinged k M
  bytes : S ++ L.o.toGo k.masks = (D.map (ctlF 10)).flatMap fputz
  ctl : L.o.ctl = [] ∨ ∃ D' x, D = D' ++ [x] ∧ L.o.ctl = [ctlF 10 x]
  sub : D.Sublist l
  last : D.getLast? = l.getLast?
theorem Pongs.new (k : Lk) (M : Nat) : Pongs k M [] (Lg.new M 0) [] [] := ⟨Lg.new_pinged k M 0, rfl, .inl rfl, List.Sublist.slnil, rfl⟩
theorem Pongs.take {k : Lk} {M : Nat} {l : List ByteArray} {L : Lg} {S : List Int} {D : List ByteArray} (h : Pongs k M l L S D) (n : Int) : Pongs k M l (L.take k n) (S ++ L.o.ring.take (pk n L.o.ring.length)) D := by
  refine ⟨h.side.take n, ?_, ?_, h.sub, h.last⟩
  · rw [List.append_assoc, Lg.take_toGo]
    exact h.bytes
  · have hsub := Ou.move_sub k.out k.masks { L.o with ring := L.o.ring.drop (pk n L.o.ring.length) }
    have hlen := Ou.move_ctl k.out k.masks { L.o with ring := L.o.ring.drop (pk n L.o.ring.length) }
    rcases h.ctl with hc | ⟨D', x, hD, hc⟩
    · left
      refine List.eq_nil_of_length_eq_zero ?_
      have : (L.take k n).o.ctl.length ≤ L.o.ctl.length := hlen
      rw [hc] at this
      simpa using this
    · rcases hx : (L.take k n).o.ctl with _ | ⟨f, fs⟩
      · exact .inl rfl
      · right
        refine ⟨D', x, hD, ?_⟩
        have h1 : (L.take k n).o.ctl.length ≤ L.o.ctl.length := hlen
        have h2 := hsub f (by show f ∈ (L.take k n).o.ctl; rw [hx]; exact List.mem_cons_self)
        rw [hx, hc] at h1
        simp at h1
        subst h1
        have h3 : f ∈ L.o.ctl := h2
        rw [hc] at h3
        simp at h3
        rw [h3]
theorem Pongs.ping {k : Lk} {M : Nat} {l : List ByteArray} {L : Lg} {S : List Int} {D : List ByteArray} (h : Pongs k M l L S D) (hk : k.masks = false) (d : ByteArray) : ∃ D2, Pongs k M (l ++ [d]) (L.pong k d) S D2 := by
  have hs := h.side.sent
  have hr := h.side.rest
  have hp := h.side.pong d
  have hmv : ∀ c : List Fr, (({ L.o with ctl := c } : Ou).move k.out k.masks).ctl = [] ∨ ∃ fs, (({ L.o with ctl := c } : Ou).move k.out k.masks).ctl = fs ∧ fs.length ≤ c.length ∧ ∀ f ∈ fs, f ∈ c := fun c => .inr ⟨_, rfl, Ou.move_ctl _ _ _, Ou.move_sub _ _ _⟩
  rcases h.ctl with hc | ⟨D', x, hD, hc⟩
  · -- none waits
    have hpo : ponged L.o.ctl d = [ctlF 10 d] := by rw [hc]; rfl
    have hL : (L.pong k d).o = ({ L.o with ctl := [ctlF 10 d] } : Ou).move k.out k.masks := by unfold Lg.pong; rw [if_neg (by rw [hs]; simp), hpo]
    refine ⟨D ++ [d], hp, ?_, ?_, h.sub.append (List.Sublist.refl [d]), by simp⟩
    · have hb := h.bytes
      rw [hL, Ou.move_toGo]
      unfold Ou.toGo at hb ⊢
      rw [hc, hr, hk] at hb
      rw [hr, hk]
      simp only [List.nil_append, mfr, List.flatMap_nil, List.append_nil, Bool.false_eq_true, if_false, List.flatMap_cons, List.map_append, List.map_cons, List.map_nil, List.flatMap_append] at hb ⊢
      rw [← hb]
      simp only [List.append_assoc]
    · rcases hx : (L.pong k d).o.ctl with _ | ⟨f, fs⟩
      · exact .inl rfl
      · right
        have h1 := Ou.move_ctl k.out k.masks { L.o with ctl := [ctlF 10 d] }
        have h2 := Ou.move_sub k.out k.masks { L.o with ctl := [ctlF 10 d] } f (by rw [← hL, hx]; exact List.mem_cons_self)
        rw [← hL, hx] at h1
        simp at h1 h2
        exact ⟨D, d, rfl, by rw [h1, h2]⟩
  · have hpo : ponged L.o.ctl d = [ctlF 10 d] := by rw [hc]; rfl
    have hL : (L.pong k d).o = ({ L.o with ctl := [ctlF 10 d] } : Ou).move k.out k.masks := by unfold Lg.pong; rw [if_neg (by rw [hs]; simp), hpo]
    have hsub : D'.Sublist l := (List.sublist_append_left D' [x]).trans (by rw [← hD]; exact h.sub)
    refine ⟨D' ++ [d], hp, ?_, ?_, hsub.append (List.Sublist.refl [d]), by simp⟩
    · have hb := h.bytes
      rw [hL, Ou.move_toGo]
      unfold Ou.toGo at hb ⊢
      rw [hc, hr, hk, hD] at hb
      rw [hr, hk]
      simp only [List.nil_append, mfr, List.flatMap_nil, List.append_nil, Bool.false_eq_true, if_false, List.flatMap_cons, List.map_append, List.map_cons, List.map_nil, List.flatMap_append] at hb ⊢
      have hb2 : (S ++ (L.o.ring ++ L.o.tail)) = List.flatMap fputz (List.map (ctlF 10) D') := by
        have := hb
        rw [← List.append_assoc] at this
        exact List.append_cancel_right this
      rw [← hb2]
      simp only [List.append_assoc]
    · rcases hx : (L.pong k d).o.ctl with _ | ⟨f, fs⟩
      · exact .inl rfl
      · right
        have h1 := Ou.move_ctl k.out k.masks { L.o with ctl := [ctlF 10 d] }
        have h2 := Ou.move_sub k.out k.masks { L.o with ctl := [ctlF 10 d] } f (by rw [← hL, hx]; exact List.mem_cons_self)
        rw [← hL, hx] at h1
        simp at h1 h2
        exact ⟨D', d, rfl, by rw [h1, h2]⟩
/-- A ping's bytes. -/
theorem ping_bytes (d : ByteArray) (hd : d.size ≤ 125) : fput (pingF d) = 137 :: (128 + d.size : Int) :: 0 :: 0 :: 0 :: 0 :: sb d := by
  have hl : lenB d.size = [(d.size : Int)] := by unfold lenB; rw [if_pos (by omega)]
  have h0 : turn [0, 0, 0, 0] 0 (sb d) = sb d := turn_zero _ 0 (sb_in d)
  unfold fput first9 long9 pingF Fr.key
  simp only [if_true, hl, h0, List.set_cons_zero, List.getD_cons_zero]
  simp only [List.cons_append, List.nil_append]
  rw [show (9 : Int) + 128 = 137 from rfl, show (d.size : Int) + 128 = 128 + d.size from by omega]
theorem pong_fits (d : ByteArray) (hd : d.size ≤ 125) : fits false 200 (ctlF 10 d) := by
  refine ⟨⟨(Lit.wf_int_iff .i64 10).2 ⟨by show -9223372036854775808 ≤ (10 : Int); omega, by show (10 : Int) ≤ 9223372036854775807; omega⟩, ?_, by show d.size ≤ maxLen; unfold maxLen; omega⟩, ?_, rfl, by show (d.size : Int) ≤ 200; omega⟩
  · intro x hx
    simp [ctlF, Fr.key] at hx
    omega
  · unfold form9 known9 control9 ctlF
    have h2 : ¬ 125 < d.size := by omega
    simp [h2, Fr.key]
theorem pong_check (d : ByteArray) (hd : d.size ≤ 125) : check9 (ctlF 10 d) = 0 := by
  have hf := (pong_fits d hd).2.1
  have h2 : ¬ 65536 < (ctlF 10 d).data.size := by show ¬ 65536 < d.size; omega
  unfold check9
  simp [hf, h2]
theorem pong_fputz (d : ByteArray) (hd : d.size ≤ 125) : fputz (ctlF 10 d) = fput (ctlF 10 d) := by
  unfold fputz
  rw [if_pos (pong_check d hd)]
theorem pongs_puts : ∀ (D : List ByteArray), (∀ x ∈ D, x.size ≤ 125) → (D.map (ctlF 10)).flatMap fputz = (D.map (ctlF 10)).flatMap fput ∧ ((D.map (ctlF 10)).flatMap fput).length ≤ 139 * D.length := by
  intro D
  induction D with
  | nil => intro _; exact ⟨rfl, Nat.le_refl _⟩
  | cons x D ih =>
    intro h
    obtain ⟨h1, h2⟩ := ih (fun y hy => h y (List.mem_cons_of_mem _ hy))
    have hx := h x List.mem_cons_self
    refine ⟨?_, ?_⟩
    · simp only [List.map_cons, List.flatMap_cons]
      rw [pong_fputz x hx, h1]
    · simp only [List.map_cons, List.flatMap_cons, List.length_append, List.length_cons, fput_length]
      have := size9_le (ctlF 10 x)
      have h3 : (ctlF 10 x).data.size = x.size := rfl
      omega
/-- Once all is out: the pongs as frames. -/
theorem Pongs.over {k : Lk} {M : Nat} {l : List ByteArray} {L : Lg} {s : ByteArray} {D : List ByteArray} (h : Pongs k M l L (sb s) D) (hq : L.quiet = true) (hl : ∀ x ∈ l, x.size ≤ 125) (hn : l.length ≤ 20) : scan false 200 (sb s) = (D.map (ctlF 10), [], 0) := by
  have hD : ∀ x ∈ D, x.size ≤ 125 := fun x hx => hl x (h.sub.subset hx)
  have hf : ∀ f ∈ D.map (ctlF 10), fits false 200 f := fun f hf => by
    obtain ⟨x, hx, rfl⟩ := List.mem_map.1 hf
    exact pong_fits x (hD x hx)
  have hb := h.bytes
  rw [Lg.quiet_toGo hq, List.append_nil] at hb
  obtain ⟨hz, hz2⟩ := pongs_puts D hD
  have hn2 := h.sub.length_le
  rw [hb, hz]
  exact scan_puts _ hf (by unfold maxLen; omega)
theorem Pongs.wt {k : Lk} {M : Nat} {l : List ByteArray} {L : Lg} {S : List Int} {D : List ByteArray} (h : Pongs k M l L S D) (hs : L.o.sized 125) (hr : L.o.ring.length ≤ 201) : L.o.wt ≤ 1000 := by
  have ht := hs.tail
  unfold Ou.wt
  rw [h.side.rest]
  rcases h.ctl with hc | ⟨D', x, _, hc⟩
  · rw [hc]
    simp
    omega
  · have := hs.frames (ctlF 10 x) (by rw [hc]; simp)
    rw [hc]
    simp
    omega
theorem Lg.pong_sized {k : Lk} {L : Lg} (d : ByteArray) (hd : d.size ≤ 125) (h : L.o.sized 125) : (L.pong k d).o.sized 125 := by
  unfold Lg.pong
  split
  · exact h
  · refine Ou.move_sized _ _ ⟨?_, h.tail⟩
    intro f hf
    rcases List.mem_append.1 hf with hf | hf
    · unfold ponged at hf
      split at hf
      · rename_i hp
        unfold setD at hf
        obtain ⟨j, hj, rfl⟩ := List.mem_iff_getElem.1 hf
        rw [List.getElem_modify]
        split
        · exact hd
        · exact h.frames _ (List.mem_append_left _ (List.getElem_mem _))
      · rcases List.mem_append.1 hf with hf | hf
        · exact h.frames f (List.mem_append_left _ hf)
        · simp at hf
          rw [hf]
          exact hd
    · exact h.frames f (List.mem_append_right _ hf)
theorem sub_step {α : Type} {x : α} {D l : List α} {a : Nat} (h : (x :: D).Sublist (l.drop a)) : ∃ ha : a < l.length, (l[a] ≠ x → (x :: D).Sublist (l.drop (a + 1))) ∧ D.Sublist (l.drop (a + 1)) := by
  have ha : a < l.length := by
    by_cases ha : a < l.length
    · exact ha
    · rw [List.drop_eq_nil_of_le (by omega)] at h
      cases h
  refine ⟨ha, ?_, ?_⟩
  · intro hne
    rw [List.drop_eq_getElem_cons ha] at h
    cases h with
    | cons _ h => exact h
    | cons_cons _ h => exact absurd rfl hne
  · rw [List.drop_eq_getElem_cons ha] at h
    exact h.of_cons_cons
end Go.Proofs.Ytpadlcllcmodaaa
/- law16: LegFree: the walk. -/
namespace Go.Proofs.Ytpadlcllcmodaaa
open Go.RowKit
set_option linter.unusedSimpArgs false
set_option linter.unusedVariables false

theorem u8_at_ {w : World} {A : Option Addr} {l : List Int} (h : Rd w A (l.flatMap fun x => [.int .u8 x])) (k : Nat) (hk : k < l.length) : ∃ g off, A = some ⟨g, off, none⟩ ∧ g < w.heap.size ∧ w.cell? ⟨g, off + k, none⟩ = some (.int .u8 l[k]) := by
  have hf : ∀ l : List Int, (l.flatMap fun x => [Value.int .u8 x]) = l.map (Value.int .u8) := fun l => by induction l <;> simp_all
  rw [hf] at h
  obtain ⟨g, off, rfl, hg, hc⟩ := h (by intro h0; simp at h0; rw [h0] at hk; exact absurd hk (by simp))
  exact ⟨g, off, rfl, hg, hc k _ (by rw [List.getElem?_map, List.getElem?_eq_getElem hk]; rfl)⟩
theorem u8n {x : Int} (h : 0 ≤ x ∧ x ≤ 255) : ∃ m : Nat, x = m ∧ m ≤ 255 := ⟨x.toNat, by omega, by omega⟩
/-- A side that only sent messages. -/
structure Lg.fresh (k : Lk) (L : Lg) : Prop where
  sent : L.sent = false
  got : L.got = false
  wrong : L.wrong = 0
  ctl : L.o.ctl = []
  sized : L.o.sized 256
  still : L.o.still k.out
theorem Lg.new_fresh (k : Lk) (m : Nat) (d : Int) : (Lg.new m d).fresh k := ⟨rfl, rfl, rfl, rfl, Lg.new_sized _ _ _, Lg.new_still _ _ _⟩
theorem Ou.move_nil {M : Nat} {mk : Bool} {o : Ou} (h : o.ctl = []) : (o.move M mk).ctl = [] :=
  List.eq_nil_of_length_eq_zero (by have := Ou.move_ctl M mk o; rw [h] at this; simpa using this)
theorem Lg.fresh.take {k : Lk} {L : Lg} (h : L.fresh k) (n : Int) : (L.take k n).fresh k := ⟨h.sent, h.got, h.wrong, Ou.move_nil h.ctl, Lg.take_sized k L n h.sized, Lg.take_still k L n⟩
theorem Lg.fresh.send {k : Lk} {L : Lg} (h : L.fresh k) (hk : k.frame ≤ 256) (op : Int) (s : ByteArray) : (L.send k op s).1.fresh k := by
  refine ⟨?_, ?_, ?_, ?_, Lg.send_sized k L op s hk h.sized, Lg.send_still k L op s h.still⟩
  all_goals unfold Lg.send; split
  · exact h.sent
  · exact h.sent
  · exact h.got
  · exact h.got
  · exact h.wrong
  · exact h.wrong
  · exact Ou.move_nil h.ctl
  · exact h.ctl
theorem close_1000 (k : Lk) (L : Lg) (h : L.sent = false) : L.close k 1000 ⟨#[]⟩ = (({ L with sent := true, o := { L.o with rest := [] } } : Lg).ctl k (ctlF 8 (Go.strOfNums [3, 232])), true) := by
  have hp : cput 1000 ⟨#[]⟩ = (Go.strOfNums [3, 232], 0) := by
    have := valid11_put (c := 1000) (by decide)
    rw [this]
    rfl
  unfold Lg.close
  rw [hp, if_neg (by rw [h]; rintro (h | h); cases h; exact h rfl)]
theorem Lg.fresh.closed_wt {k : Lk} {L : Lg} (h : L.fresh k) (hr : L.o.ring.length ≤ 256) : (L.close k 1000 ⟨#[]⟩).1.o.wt ≤ 1000 := by
  rw [close_1000 k L h.sent]
  refine Nat.le_trans (Ou.move_wt _ _ _) ?_
  have ht := h.sized.tail
  have hz : (ctlF 8 (Go.strOfNums [3, 232])).data.size = 2 := by rfl
  simp only [Ou.wt, h.ctl, List.nil_append, List.map_cons, List.map_nil, List.sum_cons, List.sum_nil, hz]
  omega
theorem Lg.closed_still {k : Lk} {L : Lg} (h : L.sent = false) : (L.close k 1000 ⟨#[]⟩).1.o.still k.out := by
  rw [close_1000 k L h]
  exact Ou.move_still _ _ _

set_option maxHeartbeats 12800000 in
set_option maxRecDepth 100000 in
theorem free16_row (w : World) (xa xb xc : Int) (gx : bytesIn [xa, xb, xc]) (A : Option Addr) (ls : List ByteArray) (c : Nat) (hr : Rd w A (ls.flatMap fun x => [.string x])) (hg : ∀ x ∈ ls, x.size ≤ maxLen) (hlc : ls.length ≤ c) (hcc : c ≤ maxLen)
    (B : Option Addr) (ts : List Int) (c' : Nat) (hr' : Rd w B (ts.flatMap fun x => [.int .u8 x])) (hg' : ∀ x ∈ ts, (Lit.int .u8 x).wf = true) (hlc' : ts.length ≤ c') (hcc' : c' ≤ maxLen) :
    Calls Try.prog 7 #[.agg #[.int .u8 xa, .int .u8 xb, .int .u8 xc], .slice A ls.length c, .slice B ts.length c'] w fun e w' => e = .returned (.bool true) ∧ Touch NoS w w' := by
  obtain ⟨ma, rfl, hma⟩ := u8n (gx xa (by simp))
  obtain ⟨mb, rfl, hmb⟩ := u8n (gx xb (by simp))
  obtain ⟨mc, rfl, hmc⟩ := u8n (gx xc (by simp))
  have HR := Lib.hid hr
  have HG := Lib.hid hg
  have HR' := Lib.hid hr'
  have HG' := Lib.hid hg'
  obtain ⟨n, hn⟩ : ∃ n, n = ls.length := ⟨_, rfl⟩
  obtain ⟨n', hn'⟩ : ∃ n, n = ts.length := ⟨_, rfl⟩
  rw [← hn] at hlc ⊢
  rw [← hn'] at hlc' ⊢
  have HN := Lib.hid hn.symm
  have HN' := Lib.hid hn'.symm
  have hnm : n ≤ maxLen := by omega
  have hnm' : n' ≤ maxLen := by omega
  unfold maxLen at hnm hnm'
  clear hr hg hn hcc gx hr' hg' hn' hcc'
  go_enter Try.func7, Try.ntmps7
  go_wp2_with fail
  refine (l_cfg ma mb mc hma hmb hmc _).mono ?_
  rintro e w1 ⟨b, rfl, hb, hbr, ht⟩
  have HT1 := Lib.hid (((Touch.refl NoS w).alloc (.cells #[.int .u8 ma, .int .u8 mb, .int .u8 mc] 40)).trans ht)
  have hsz1 := HT1.out.size
  have HBR := Lib.hid hbr
  clear ht hbr
  unfold cfgV
  obtain ⟨M, hM⟩ : ∃ M, M = 1 + ma := ⟨_, rfl⟩
  obtain ⟨F, hF⟩ : ∃ F, F = 1 + mb := ⟨_, rfl⟩
  obtain ⟨O, hO⟩ : ∃ O, O = 1 + mc := ⟨_, rfl⟩
  rw [← hM, ← hF, ← hO]
  have hM1 : 1 ≤ M ∧ M ≤ 256 := by omega
  have hF1 : 1 ≤ F ∧ F ≤ 256 := by omega
  have hO1 : 1 ≤ O ∧ O ≤ 256 := by omega
  clear hM hF hO hma hmb hmc
  go_wp2_with fail
  obtain ⟨w2, hw2⟩ : ∃ w2, w2 = w1.alloc (.cells (cfgV b M F O) 25) := ⟨_, rfl⟩
  obtain ⟨gc, hgc⟩ : ∃ g, g = w1.heap.size := ⟨_, rfl⟩
  have hbc : Blk w2 gc 25 (cfgV b M F O) := by rw [hw2, hgc]; exact Blk.new _ _ _
  have HT2 : Hid (Touch NoS w w2) := by rw [hw2]; exact HT1.out.alloc _
  have HBR2 : Hid (Blk w2 b 63 #[.string ⟨#[47]⟩, .string ⟨#[]⟩, .string ⟨#[120]⟩]) := by rw [hw2]; exact HBR.out.alloc _
  have HBC := Lib.hid hbc
  have HNEW := Lib.hid (lg_new b M F O hM1.1 (by omega) hF1.1 (by omega) hO1.1 (by omega) true 0 w2 HBR2.out)
  unfold cfgV at hw2 HNEW
  rw [← hw2, ← hgc]
  clear hw2 hgc hbc HBR HBR2 HT1 hsz1 hb
  refine HNEW.out.mono ?_
  rintro e w3 ⟨g, k, rfl, hk1, hk2, hk3, hk4, hL⟩
  have HK1 := Lib.hid hk1
  have HK2 := Lib.hid hk2
  have HK3 := Lib.hid hk3
  have HL3 := Lib.hid hL
  clear hL hk1 hk2 hk3 hk4 HNEW
  go_wp2_with fail
  refine (aw16 _).mono ?_
  rintro e w4 ⟨rfl, ht⟩
  have HL4 := Lib.hid (HL3.out.no ht)
  clear ht HL3
  by_cases h20 : n ≤ 20
  · have h20i : (n : Int) ≤ 20 := by omega
    go_wp2_with fail
    go_loopw [10, 11] (fun iv _ wr => ∃ (i : Nat) (L : Lg), i ≤ n ∧ iv = .int .i64 i ∧ LgAt w2 wr g k L ∧ L.fresh k) (fun iv _ _ => n - (intOf iv).toNat)
    case atStart => exact ⟨0, Lg.new M 0, Nat.zero_le _, rfl, HL4.out, Lg.new_fresh k M 0⟩
    case round =>
      obtain ⟨i, L, hin, rfl, hL, hfr⟩ := hrel
      have HL := Lib.hid hL
      have HFR := Lib.hid hfr
      clear hL hfr
      by_cases hlt : i < n
      · have hil : i < ls.length := by rw [HN.out]; exact hlt
        obtain ⟨ga, oa, rfl, hgax, a0x⟩ := str_at (HR.out.touch_no HT2.out) i hil
        have hce : ∀ W, Touch NoS w2 W → W.cell? ⟨ga, oa + i, none⟩ = some (.string ls[i]) := fun W t => t.cell a0x
        have a0 := hce _ HL.out.old
        have hga := Nat.lt_of_lt_of_le hgax HL.out.old.size
        clear a0x hgax
        have hgd := HG.out ls[i] (List.getElem_mem hil)
        obtain ⟨s, hs⟩ : ∃ x, x = ls[i] := ⟨_, rfl⟩
        rw [← hs] at a0 hgd hce
        have HCE := Lib.hid hce
        have HGD : Hid (s.size ≤ maxLen) := hgd
        unfold maxLen at hgd
        clear hs hil hce
        by_cases h300 : s.size ≤ 300
        · have h3i : (s.size : Int) ≤ 300 := by omega
          go_wp2_with fail
          refine (lg_free HL.out).mono ?_
          rintro e w5 ⟨rfl, rfl⟩
          have HS : Hid (∀ W, Touch NoS wr W → Calls Try.prog 18 #[.pointer (some ⟨g, 0, none⟩), .agg #[.int .i64 1, .int .i64 0, .string s]] W fun e w' => e = .returned (.bool (L.send k 1 s).2) ∧ LgAt w2 w' g k (L.send k 1 s).1 ∧ Keep W w') := fun W t => lg_send (HL.out.no t) 1 0 s HGD.out (by rw [HK1.out]; omega) (by rw [HK2.out]; omega) (by rw [HK2.out]; omega)
          have hbc2 := HBC.out.touch HL.out.old (fun h => h)
          have c3 := hbc2.cell 3
          have cl := hbc2.lt
          simp [cfgV] at c3
          have HBC2 := Lib.hid hbc2
          have HTW := Lib.hid (HT2.out.trans HL.out.old)
          have hsnd : (L.send k 1 s).2 = (L.free && decide (s.size ≤ M)) := by
            unfold Lg.send
            rw [HK1.out]
            by_cases h1 : L.free = true ∧ s.size ≤ M
            · rw [if_pos ⟨h1.1, .inl rfl, h1.2⟩]
              simp [h1.1, h1.2]
            · rw [if_neg (fun h => h1 ⟨h.1, h.2.2⟩)]
              cases hf : L.free with
              | false => rfl
              | true =>
                have : ¬ s.size ≤ M := fun h => h1 ⟨hf, h⟩
                simp [this]
          rw [hsnd] at HS
          obtain ⟨f, hf⟩ : ∃ f, f = L.free := ⟨_, rfl⟩
          rw [← hf] at HS ⊢
          clear hbc2 hsnd hf
          go_upto_region 11 with (fail)
          go_cut [73] (fun v wx => v = .bool false ∧ LgAt w2 wx g k (L.send k 1 s).1)
          case first =>
            have k0 : wr.drew.cell? ⟨ga, oa + i, none⟩ = some (.string s) := a0
            have k3 : wr.drew.cell? ⟨gc, 3, none⟩ = some (.int .i64 M) := c3
            have kt : Touch NoS wr wr.drew := (Touch.refl NoS wr).drew
            cases f with
            | false =>
              simp only [Bool.false_and] at HS
              refine wp_region_any (by kernel_rfl) ?_
              try (change wpAny _ _ _ _ _ _ _ (World.drew _))
              refine wpAny_take (i := 0) (v := ?_) rfl (by kernel_rfl) (by kernel_rfl) (by kernel_rfl) (fun _ _ _ h => h) (Or.inl ⟨by kernel_rfl, ?_⟩) ?_
              rotate_left
              · intro w; go_simp; try (with_reducible rfl)
              refine wpAny_take (i := 1) (v := ?_) rfl (by kernel_rfl) (by kernel_rfl) (by kernel_rfl) (fun _ _ _ h => h) (Or.inl ⟨by kernel_rfl, ?_⟩) ?_
              rotate_left
              · intro w; go_simp; try (with_reducible rfl)
              refine wpAny_take (i := 2) (v := ?_) rfl (by kernel_rfl) (by kernel_rfl) (by kernel_rfl) (fun _ _ _ h => h) (Or.inl ⟨by kernel_rfl, ?_⟩) ?_
              rotate_left
              · intro w; go_simp; try (with_reducible rfl)
              refine wpAny_take (i := 3) (v := ?_) rfl (by kernel_rfl) (by kernel_rfl) (by kernel_rfl) (fun _ _ _ h => h) (Or.inl ⟨by kernel_rfl, ?_⟩) ?_
              rotate_left
              · intro w; go_simp; try (with_reducible rfl)
              refine wpAny_take (i := 7) (v := ?_) rfl (by kernel_rfl) (by kernel_rfl) (by kernel_rfl) (fun _ _ _ h => h) (Or.inl ⟨by kernel_rfl, ?_⟩) ?_
              rotate_left
              · intro w; go_simp; try (with_reducible rfl)
              refine wpAny_ready (rs := [4]) (by kernel_rfl) (by simp) ?_
              refine AllReady.cons rfl (fun K hK => ?_) AllReady.nil
              go_simp
              refine hK _ _ ?_
              clear hK K
              refine wpAny_take (i := 5) (v := ?_) rfl (by kernel_rfl) (by kernel_rfl) (by kernel_rfl) (fun _ _ _ h => h) (Or.inl ⟨by kernel_rfl, ?_⟩) ?_
              rotate_left
              · intro w; go_simp; try (with_reducible rfl)
              refine wpAny_ready (rs := [6]) (by kernel_rfl) (by simp) ?_
              refine AllReady.cons rfl (fun K hK => ?_) AllReady.nil
              go_simp
              go_wp2_with (go_at_call 18; refine (HS.out _ kt).mono ?_; rintro e w6 ⟨rfl, hL6, -⟩; have HL6 := Lib.hid hL6; clear hL6)
              refine wpAny_take (i := 8) (v := ?_) rfl (by kernel_rfl) (by kernel_rfl) (by kernel_rfl) (fun _ _ _ h => h) (Or.inl ⟨by kernel_rfl, ?_⟩) ?_
              rotate_left
              · intro w; go_simp; try (with_reducible rfl)
              refine wpAny_take (i := 9) (v := undef) rfl (by kernel_rfl) (by kernel_rfl) (by kernel_rfl) (fun _ _ _ h => h) (Or.inr ⟨by kernel_rfl, rfl⟩) ?_
              refine wpAny_take (i := 10) (v := undef) rfl (by kernel_rfl) (by kernel_rfl) (by kernel_rfl) (fun _ _ _ h => h) (Or.inr ⟨by kernel_rfl, rfl⟩) ?_
              refine wpAny_take (i := 11) (v := undef) rfl (by kernel_rfl) (by kernel_rfl) (by kernel_rfl) (fun _ _ _ h => h) (Or.inr ⟨by kernel_rfl, rfl⟩) ?_
              refine wpAny_take (i := 12) (v := undef) rfl (by kernel_rfl) (by kernel_rfl) (by kernel_rfl) (fun _ _ _ h => h) (Or.inr ⟨by kernel_rfl, rfl⟩) ?_
              refine wpAny_take (i := 13) (v := undef) rfl (by kernel_rfl) (by kernel_rfl) (by kernel_rfl) (fun _ _ _ h => h) (Or.inr ⟨by kernel_rfl, rfl⟩) ?_
              refine wpAny_take (i := 14) (v := undef) rfl (by kernel_rfl) (by kernel_rfl) (by kernel_rfl) (fun _ _ _ h => h) (Or.inr ⟨by kernel_rfl, rfl⟩) ?_
              refine wpAny_take (i := 15) (v := undef) rfl (by kernel_rfl) (by kernel_rfl) (by kernel_rfl) (fun _ _ _ h => h) (Or.inr ⟨by kernel_rfl, rfl⟩) ?_
              refine wpAny_take (i := 16) (v := undef) rfl (by kernel_rfl) (by kernel_rfl) (by kernel_rfl) (fun _ _ _ h => h) (Or.inr ⟨by kernel_rfl, rfl⟩) ?_
              refine wpAny_take (i := 17) (v := ?_) rfl (by kernel_rfl) (by kernel_rfl) (by kernel_rfl) (fun _ _ _ h => h) (Or.inl ⟨by kernel_rfl, ?_⟩) ?_
              rotate_left
              · intro w; go_simp; try (with_reducible rfl)
              refine wpAny_take (i := 18) (v := ?_) rfl (by kernel_rfl) (by kernel_rfl) (by kernel_rfl) (fun _ _ _ h => h) (Or.inl ⟨by kernel_rfl, ?_⟩) ?_
              rotate_left
              · intro w; go_simp; try (with_reducible rfl)
              refine wpAny_done (by kernel_rfl) ?_ _
              simp [Act.put]
              all_goals
                go_wp2_with fail
                go_meet
                exact ⟨rfl, HL6.out⟩
            | true =>
              simp only [Bool.true_and] at HS
              by_cases hsm : s.size ≤ M
              · have hsi : (s.size : Int) ≤ M := by omega
                rw [decide_eq_true hsm] at HS
                go_region_held3 (fun w' => w'.cell? ⟨ga, oa + i, none⟩ = some (.string s) ∧ w'.cell? ⟨gc, 3, none⟩ = some (.int .i64 M))
                  (first | exact ⟨y0, y3⟩ | exact ⟨k0, k3⟩)
                  (first
                    | (go_at_call 18; refine (HS.out _ kt).mono ?_; rintro e w6 ⟨rfl, hL6, -⟩; have y0 := HCE.out w6 hL6.old; have hbc6 := HBC.out.touch hL6.old (fun h => h); have y3 := hbc6.cell 3; have yl := hbc6.lt; simp [cfgV] at y3; have HL6 := Lib.hid hL6; clear hL6 hbc6))
                all_goals
                  go_wp2_with fail
                  go_meet
                  exact ⟨rfl, HL6.out⟩
              · have hsi : ¬ ((s.size : Int) ≤ M) := by omega
                have hdi : decide ((s.size : Int) ≤ (M : Int)) = false := decide_eq_false hsi
                have hdn : decide (s.size ≤ M) = false := decide_eq_false hsm
                rw [decide_eq_false hsm] at HS
                go_region_held3 (fun w' => w'.cell? ⟨ga, oa + i, none⟩ = some (.string s) ∧ w'.cell? ⟨gc, 3, none⟩ = some (.int .i64 M))
                  (first | exact ⟨y0, y3⟩ | exact ⟨k0, k3⟩)
                  (first
                    | (go_at_call 18; refine (HS.out _ kt).mono ?_; rintro e w6 ⟨rfl, hL6, -⟩; have y0 := HCE.out w6 hL6.old; have hbc6 := HBC.out.touch hL6.old (fun h => h); have y3 := hbc6.cell 3; have yl := hbc6.lt; simp [cfgV] at y3; have HL6 := Lib.hid hL6; clear hL6 hbc6))
                all_goals
                  go_wp2_with fail
                  go_meet
                  exact ⟨rfl, HL6.out⟩
          case rest =>
            obtain ⟨rfl, hL2⟩ := hcut
            obtain ⟨wd, rfl⟩ : ∃ we : World, we = wc := ⟨_, rfl⟩
            have HFR2 := Lib.hid (HFR.out.send (by rw [HK2.out]; omega) 1 s)
            obtain ⟨L2, hL2e⟩ : ∃ x, x = (L.send k 1 s).1 := ⟨_, rfl⟩
            rw [← hL2e] at hL2 HFR2
            have HL2 := Lib.hid hL2
            clear hL2 hL2e c3 cl HS HBC2 a0 hga HFR
            by_cases hi2 : i < n'
            · have hil2 : i < ts.length := by rw [HN'.out]; exact hi2
              obtain ⟨gt, ot, rfl, hgt, t0⟩ := u8_at_ (HR'.out.touch_no (HT2.out.trans HL2.out.old)) i hil2
              have hgb := u8_bounds (HG'.out ts[i] (List.getElem_mem hil2))
              obtain ⟨tx, htx⟩ : ∃ x, x = ts[i] := ⟨_, rfl⟩
              rw [← htx] at t0 hgb
              clear htx
              go_wp2_with fail
              refine (lg_take HL2.out tx).mono ?_
              rintro e w7 ⟨g7, rfl, -, -, hL7, -⟩
              have HL7 := Lib.hid hL7
              have HFR7 := Lib.hid (HFR2.out.take tx)
              clear hL7 t0 hgt
              go_wp2_with fail
              go_roundw
              · exact ⟨i + 1, _, by omega, by go_num, HL7.out, HFR7.out⟩
              · simp [intOf]; omega
            · have hi2i : ¬ ((i : Int) < n') := by omega
              go_wp2_with fail
              go_roundw
              · exact ⟨i + 1, L2, by omega, by go_num, HL2.out, HFR2.out⟩
              · simp [intOf]; omega
        · have h3i : ¬ ((s.size : Int) ≤ 300) := by omega
          have HTF := Lib.hid (HT2.out.trans HL.out.old)
          go_wp2_with fail
          go_ret
          exact ⟨rfl, HTF.out⟩
      · have hge : ¬ ((i : Int) < n) := by omega
        have hrl : L.o.ring.length ≤ 256 := by have := HL.out.ring; have := HK3.out; omega
        have HWT := Lib.hid (HFR.out.closed_wt hrl)
        have HST := Lib.hid (Lg.closed_still (k := k) HFR.out.sent)
        have hcl := close_1000 k L HFR.out.sent
        have hctl := Lg.close_ctl k L 1000 ⟨#[]⟩
        rw [HFR.out.ctl] at hctl
        have hdn := (Lg.close_same k L 1000 ⟨#[]⟩).1
        rw [HFR.out.got] at hdn
        have hsn : (L.close k 1000 ⟨#[]⟩).1.sent = true := by rw [hcl]; rfl
        have hok : (L.close k 1000 ⟨#[]⟩).2 = true := by rw [hcl]
        have hc0 : L.o.ctl.length ≤ 1000000 := by rw [HFR.out.ctl]; exact Nat.zero_le _
        go_wp2_with fail
        refine (lg_close HL.out 1000 ⟨#[]⟩ (by unfold maxLen; decide) hc0).mono ?_
        rintro e w5 ⟨rfl, hL3, -⟩
        rw [hok]
        obtain ⟨L3, hL3e⟩ : ∃ x, x = (L.close k 1000 ⟨#[]⟩).1 := ⟨_, rfl⟩
        rw [← hL3e] at hL3 HWT HST hctl hdn hsn
        have HL3 := Lib.hid hL3
        have HCT : Hid (L3.o.ctl.length ≤ 1000000) := by show L3.o.ctl.length ≤ 1000000; simp at hctl; omega
        have HDN := Lib.hid hdn
        have HSN := Lib.hid hsn
        have hfr3 : L3.free = false := by unfold Lg.free; rw [hsn]; rfl
        have HF3 := Lib.hid hfr3
        clear hL3 hL3e hctl hdn hsn hok hcl hc0 hfr3 HL HFR hrl
        go_wp2_with fail
        refine (lg_free HL3.out).mono ?_
        rintro e w6 ⟨rfl, rfl⟩
        rw [HF3.out]
        go_wp2_with fail
        refine (lg_send HL3.out 1 0 ⟨#[]⟩ (by unfold maxLen; decide) (by rw [HK1.out]; omega) (by rw [HK2.out]; omega) (by rw [HK2.out]; omega)).mono ?_
        rintro e w6 ⟨rfl, hL, -⟩
        have hs : L3.send k 1 ⟨#[]⟩ = (L3, false) := by unfold Lg.send; rw [if_neg (by rintro ⟨h, _⟩; rw [HF3.out] at h; cases h)]
        rw [hs] at hL ⊢
        have HL6 := Lib.hid hL
        clear hL HL3 hs
        go_wp2_with fail
        refine (lg_ping HL6.out ⟨#[]⟩ (by unfold maxLen; decide) HCT.out).mono ?_
        rintro e w7 ⟨rfl, hL, -⟩
        have hs : L3.ping k ⟨#[]⟩ = (L3, false) := by unfold Lg.ping; rw [if_pos (.inl HSN.out)]
        rw [hs] at hL ⊢
        have HL7 := Lib.hid hL
        clear hL HL6 hs
        go_wp2_with fail
        refine (lg_close HL7.out 1000 ⟨#[]⟩ (by unfold maxLen; decide) HCT.out).mono ?_
        rintro e w8 ⟨rfl, hL, -⟩
        have hs : L3.close k 1000 ⟨#[]⟩ = (L3, false) := by unfold Lg.close; rw [if_pos (.inl HSN.out)]
        rw [hs] at hL ⊢
        have HL8 := Lib.hid hL
        clear hL HL7 hs
        go_wp2_with fail
        refine (lg_send HL8.out 9 0 ⟨#[]⟩ (by unfold maxLen; decide) (by rw [HK1.out]; omega) (by rw [HK2.out]; omega) (by rw [HK2.out]; omega)).mono ?_
        rintro e w9 ⟨rfl, hL, -⟩
        have hs : L3.send k 9 ⟨#[]⟩ = (L3, false) := by unfold Lg.send; rw [if_neg (by rintro ⟨h, _⟩; rw [HF3.out] at h; cases h)]
        rw [hs] at hL ⊢
        have HL9 := Lib.hid hL
        clear hL HL8 hs
        go_wp2_with fail
        go_loopw [12] (fun iv wr => ∃ (j : Nat) (L' : Lg), j ≤ 1000 ∧ iv = .int .i64 j ∧ LgAt w2 wr g k L' ∧ Hid (L'.sent = true) ∧ Hid (L'.got = false) ∧ Hid (L'.o.still k.out) ∧ L'.o.wt + j ≤ 1000) (fun iv _ => 1000 - (intOf iv).toNat)
        case atStart => exact ⟨0, L3, by omega, rfl, HL9.out, HSN.out, HDN.out, HST.out, by have := HWT.out; omega⟩
        case round =>
          obtain ⟨j, L', hj, rfl, hL, hsn, hgt, hst, hwt⟩ := hrel
          have HL := Lib.hid hL
          have HWT' := Lib.hid hwt
          have HSN' : Hid (L'.sent = true) := hsn
          have HGT' : Hid (L'.got = false) := hgt
          have HST' : Hid (L'.o.still k.out) := hst
          have HTF := Lib.hid (HT2.out.trans HL.out.old)
          clear hL hwt hsn hgt hst
          by_cases hj2 : j < 1000
          · go_wp2_with fail
            refine (lg_quiet HL.out).mono ?_
            rintro e w6 ⟨rfl, rfl⟩
            cases hq : L'.quiet with
            | true =>
              have HQ := Lib.hid hq
              clear hq
              go_wp2_with fail
              refine (lg_quiet HL.out).mono ?_
              rintro e w6 ⟨rfl, rfl⟩
              rw [HQ.out]
              go_wp2_with fail
              refine (lg_sent HL.out).mono ?_
              rintro e w6 ⟨rfl, rfl⟩
              rw [HSN'.out]
              go_wp2_with fail
              refine (lg_got HL.out).mono ?_
              rintro e w6 ⟨rfl, rfl⟩
              rw [HGT'.out]
              go_wp2_with fail
              go_ret
              exact ⟨rfl, HTF.out⟩
            | false =>
              have HDW := Lib.hid (Lg.take_down k L' HST'.out (by rw [HK3.out]; omega) hq 100 (by omega))
              clear hq
              go_wp2_with fail
              refine (lg_take HL.out 100).mono ?_
              rintro e w7 ⟨g7, rfl, -, -, hL7, -⟩
              have HL7 := Lib.hid hL7
              clear hL7
              go_wp2_with fail
              go_roundw
              · exact ⟨j + 1, _, by omega, by go_num, HL7.out, HSN'.out, HGT'.out, Lg.take_still _ _ _, by have := HDW.out; have := HWT'.out; omega⟩
              · simp [intOf]; omega
          · have hji : ¬ ((j : Int) < 1000) := by omega
            have HQ := Lib.hid (Lg.quiet_zero (L := L') (by have := HWT'.out; omega))
            go_wp2_with fail
            refine (lg_quiet HL.out).mono ?_
            rintro e w6 ⟨rfl, rfl⟩
            rw [HQ.out]
            go_wp2_with fail
            refine (lg_sent HL.out).mono ?_
            rintro e w6 ⟨rfl, rfl⟩
            rw [HSN'.out]
            go_wp2_with fail
            refine (lg_got HL.out).mono ?_
            rintro e w6 ⟨rfl, rfl⟩
            rw [HGT'.out]
            go_wp2_with fail
            go_ret
            exact ⟨rfl, HTF.out⟩
  · have h20i : ¬ ((n : Int) ≤ 20) := by omega
    go_wp2_with fail
    refine (aw16 _).mono ?_
    rintro e w5 ⟨rfl, ht⟩
    have HTF := Lib.hid ((HT2.out.trans HL4.out.old).trans ht)
    clear ht
    go_wp2_with fail
    go_ret
    exact ⟨rfl, HTF.out⟩
end Go.Proofs.Ytpadlcllcmodaaa
