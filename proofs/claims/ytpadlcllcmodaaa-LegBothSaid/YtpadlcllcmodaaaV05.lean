/- leg: what one side gives out, the other one is fed; plain Lean. | ref10: Same, Few, Text. | ref10: Few. -/
import Derived.Test.YtpadlcllcmodaaaV04
import Derived.Test.YtpadlcllcmodaaaY21
/- leg: what one side gives out, the other one is fed; plain Lean. -/
namespace Go.Proofs.Ytpadlcllcmodaaa
open Go.RowKit
set_option linter.unusedSimpArgs false
set_option linter.unusedVariables false

/-- A side that was never fed. -/
structure Lg.mute (M : Nat) (L : Lg) : Prop where
  part : L.part = []
  serr : L.serr = 0
  m : L.m = Mc.new M
  got : L.got = false
  wrong : L.wrong = 0
theorem Lg.new_mute (M : Nat) (d : Int) : (Lg.new M d).mute M := ⟨rfl, rfl, rfl, rfl, rfl⟩
theorem Lg.mute.take {M : Nat} {L : Lg} (k : Lk) (h : L.mute M) (n : Int) : (L.take k n).mute M := ⟨h.part, h.serr, h.m, h.got, h.wrong⟩
theorem Lg.mute.send {M : Nat} {L : Lg} (k : Lk) (h : L.mute M) (op : Int) (s : ByteArray) : (L.send k op s).1.mute M := by
  unfold Lg.send
  split
  · exact ⟨h.part, h.serr, h.m, h.got, h.wrong⟩
  · exact h
theorem Lg.mute.close {M : Nat} {L : Lg} (k : Lk) (h : L.mute M) (c : Int) (s : ByteArray) : (L.close k c s).1.mute M := by
  have h1 := Lg.close_like k L c s
  have h2 := Lg.close_same k L c s
  exact ⟨h1.part.trans h.part, h1.serr.trans h.serr, h1.m.trans h.m, h2.1.trans h.got, h2.2.trans h.wrong⟩
/-- What one side gives out is fed to the other one: all of it is T. -/
structure Drain (k1 k2 : Lk) (M : Nat) (T : List Int) (L1 L2 : Lg) (outs : List Ev) (PS : List (List Int)) : Prop where
  bytes : PS.flatten ++ L1.o.toGo k1.masks = T
  fed : feedAll k2 (Lg.new M 0) PS = (L2, outs)
  pin : ∀ p ∈ PS, bytesIn p
  mute : L1.mute M
  fine : L2.fine k2
  len : outs.length ≤ 600 * PS.length
  still : L1.o.still k1.out
theorem feedAll_snoc (k : Lk) (L : Lg) (ss : List (List Int)) (b : List Int) : feedAll k L (ss ++ [b]) = (((feedAll k L ss).1.feed k b).1, (feedAll k L ss).2 ++ ((feedAll k L ss).1.feed k b).2) := by
  unfold feedAll
  rw [List.foldl_append]
  rfl
theorem Drain.step {k1 k2 : Lk} {M : Nat} {T : List Int} {L1 L2 : Lg} {outs : List Ev} {PS : List (List Int)} (h : Drain k1 k2 M T L1 L2 outs PS) (hM : M ≤ 256) (hk : k2.message = M) (n : Int) (hb : bytesIn L1.o.ring) (hr : L1.o.ring.length ≤ 256) :
    Drain k1 k2 M T (L1.take k1 n) (L2.feed k2 (L1.o.ring.take (pk n L1.o.ring.length))).1 (outs ++ (L2.feed k2 (L1.o.ring.take (pk n L1.o.ring.length))).2) (PS ++ [L1.o.ring.take (pk n L1.o.ring.length)]) := by
  have hp := h.fine.part
  unfold most16 at hp
  rw [hk] at hp
  have hbp : bytesIn (L1.o.ring.take (pk n L1.o.ring.length)) := hb.take _
  have hlp : (L1.o.ring.take (pk n L1.o.ring.length)).length ≤ 256 := by rw [List.length_take]; omega
  have hl := Lg.feed_len k2 L2 h.fine.ok _ hbp (by omega)
  refine ⟨?_, ?_, ?_, h.mute.take k1 n, h.fine.feed _ hbp (by omega), ?_, Lg.take_still k1 L1 n⟩
  · rw [List.flatten_append, List.append_assoc]
    simp only [List.flatten_cons, List.flatten_nil, List.append_nil]
    rw [Lg.take_toGo]
    exact h.bytes
  · rw [feedAll_snoc, h.fed]
  · intro p hp
    rcases List.mem_append.1 hp with hp | hp
    · exact h.pin p hp
    · simp at hp
      rw [hp]
      exact hbp
  · have := h.len
    rw [List.length_append, List.length_append]
    simp only [List.length_cons, List.length_nil]
    omega
/-- What the other side is told, once all of it is fed. -/
theorem told_all {k2 : Lk} {M : Nat} (hk : k2.message = M) (hM : M ≤ 65536) {L2 X : Lg} {outs evs : List Ev} {PS : List (List Int)} {G : List Fr} {fl : Bool} (hfed : feedAll k2 (Lg.new M 0) PS = (L2, outs)) (hpin : ∀ p ∈ PS, bytesIn p) (hPS : PS.flatten = G.flatMap fput) (hG : ∀ f ∈ G, fits (!k2.masks) (most16 k2) f) (hl : (G.flatMap fput).length ≤ 100000)
    (hX : feedFs k2 (Lg.new M 0) G = (X, evs, fl)) : outs = evs ∧ X.alike L2 := by
  have hone := feedAll_one k2 (by omega) PS 0 (Lg.new M 0) (by rw [← hk]; exact Lg.new_okb k2 0 _) (Lg.new_read _ _ _) hpin (by rw [hPS]; exact hl)
  rw [hfed, hPS] at hone
  have hs := scan_puts G hG (by unfold maxLen; omega)
  have hA := Lg.feed_by (k := k2) (L := Lg.new M 0) rfl (b := G.flatMap fput) (fs := G) (p := []) (e := 0) (by show scan _ _ ([] ++ _) = _; rw [List.nil_append]; exact hs)
  rw [show (Lg.new M 0).setp [] 0 = Lg.new M 0 from rfl, hX] at hA
  simp only [ne_eq, not_true_eq_false, if_false, ite_self] at hA
  rw [hA] at hone
  obtain ⟨⟨p, e, h1⟩, h2⟩ := hone
  simp only at h1 h2
  exact ⟨h2, ⟨L2.part, L2.serr, by rw [h1]; rfl⟩⟩
/-- A message's frames fit. -/
theorem msg_fits {k1 k2 : Lk} {M : Nat} (hk1 : k1.message = M) (hk2 : k2.message = M) (hm : k2.masks = false) (hM : M ≤ 256) (s : ByteArray) (hs : s.size ≤ M) (d : Int) : ∀ f ∈ mfr true (cuts k1 2 s) d, fits (!k2.masks) (most16 k2) f ∧ fputz f = fput f := by
  intro f hf
  obtain ⟨g, hg, e, rfl, h0, h1⟩ := mfr_mem _ d f hf
  unfold cuts at hg
  obtain ⟨q1, q2, q3, q4⟩ := cut_form2 hg
  have hgd := cutFs_good (.inr rfl) s (by unfold maxLen; omega) _ _ g hg
  refine ⟨⟨mask1_good hgd e h0 h1, mask_form q1 e, by rw [hm]; rfl, ?_⟩, ?_⟩
  · show ((mask1 g e).data.size : Int) ≤ most16 k2
    have : (mask1 g e).data = g.data := rfl
    rw [this]
    unfold most16
    rw [hk2]
    omega
  · unfold fputz
    rw [if_pos (form_check (mask_form q1 e) (by show g.data.size ≤ 65536; omega))]
theorem flat_fputz {l : List Fr} (h : ∀ f ∈ l, fputz f = fput f) : l.flatMap fputz = l.flatMap fput := by
  induction l with
  | nil => rfl
  | cons f fs ih =>
    rw [List.flatMap_cons, List.flatMap_cons, h f List.mem_cons_self, ih (fun g hg => h g (List.mem_cons_of_mem _ hg))]
theorem flat_len {l : List Fr} {D : Nat} (h : ∀ f ∈ l, f.data.size ≤ D) : (l.flatMap fput).length ≤ l.length * (D + 14) := by
  induction l with
  | nil => exact Nat.zero_le _
  | cons f fs ih =>
    rw [List.flatMap_cons, List.length_append, fput_length, List.length_cons, Nat.succ_mul]
    have h1 := size9_le f
    have h2 := h f List.mem_cons_self
    have h3 := ih (fun g hg => h g (List.mem_cons_of_mem _ hg))
    omega
theorem mfr_length (mk : Bool) : ∀ (l : List Fr) (d : Int), (mfr mk l d).length = l.length := by
  intro l
  induction l with
  | nil => intro d; rfl
  | cons f fs ih => intro d; simp only [mfr, List.length_cons, ih]
/-- Sending a message, all else being out. -/
theorem send_toGo {k : Lk} {L : Lg} (hq : L.quiet = true) (hfr : L.free = true) (s : ByteArray) (hs : s.size ≤ k.message) : (L.send k 2 s).2 = true ∧ (L.send k 2 s).1.o.toGo k.masks = (mfr k.masks (cuts k 2 s) L.o.draw).flatMap fputz ∧ (L.send k 2 s).1.sent = L.sent ∧ (L.send k 2 s).1.o.still k.out ∧ (L.send k 2 s).1.o.wt ≤ ((cuts k 2 s).map (fun f => f.data.size + 15)).sum := by
  obtain ⟨h1, h2, h3, h4⟩ := Lg.quiet_nil hq
  unfold Lg.send
  rw [if_pos ⟨hfr, .inr rfl, hs⟩]
  refine ⟨rfl, ?_, rfl, Ou.move_still _ _ _, ?_⟩
  · simp only [Ou.move_toGo]
    unfold Ou.toGo
    simp only [h1, h2, h3, List.nil_append]
  · refine Nat.le_trans (Ou.move_wt _ _ _) ?_
    unfold Ou.wt
    simp only [h1, h2, h3]
    simp
theorem sum_le {l : List Fr} {D : Nat} (h : ∀ f ∈ l, f.data.size ≤ D) : (l.map (fun f => f.data.size + 15)).sum ≤ l.length * (D + 15) := by
  induction l with
  | nil => exact Nat.zero_le _
  | cons f fs ih =>
    rw [List.map_cons, List.sum_cons, List.length_cons, Nat.succ_mul]
    have h2 := h f List.mem_cons_self
    have h3 := ih (fun g hg => h g (List.mem_cons_of_mem _ hg))
    omega
theorem cuts_len (k : Lk) (hf1 : 1 ≤ k.frame) (hf2 : k.frame ≤ 65536) (s : ByteArray) (hs : s.size ≤ 256) : ∃ n : Nat, count13 s.size k.frame = (n : Int) ∧ cuts k 2 s = cutFs 2 s k.frame n ∧ 1 ≤ n ∧ n ≤ 257 ∧ s.size ≤ n * k.frame ∧ (n - 1) * k.frame ≤ s.size ∧ (cuts k 2 s).length = n := by
  obtain ⟨n, hn, f1, f2, f3, f4, f5⟩ := count_facts s.size k.frame (by omega) hf1 hf2
  refine ⟨n, hn, by unfold cuts; rw [hn]; rfl, f1, ?_, f3, f4, by unfold cuts; rw [hn]; simp [cutFs]⟩
  have : n - 1 ≤ (n - 1) * k.frame := Nat.le_mul_of_pos_right _ hf1
  omega
end Go.Proofs.Ytpadlcllcmodaaa
/- ref10: Same, Few, Text. -/
namespace Go.Proofs.Ytpadlcllcmodaaa
open Go.RowKit
set_option linter.unusedSimpArgs false
set_option linter.unusedVariables false

instance : DecidableEq Fr := fun f g => decidable_of_iff (f.same g = true) (Fr.same_iff f g)
end Go.Proofs.Ytpadlcllcmodaaa
/- ref10: Few. -/
namespace Go.Proofs.Ytpadlcllcmodaaa
open Go.RowKit
set_option linter.unusedSimpArgs false
set_option linter.unusedVariables false

/-- Texts that aren't too many or long. -/
def few (l : List ByteArray) : Bool := decide ((∀ s ∈ l, s.size ≤ 300) ∧ l.length ≤ 40)
set_option maxHeartbeats 3200000 in
set_option maxRecDepth 100000 in
theorem r10_few (A : Option Addr) (l : List ByteArray) (n c : Nat) (hn : l.length = n) (w : World) (ha : Rd w A (l.flatMap fun x => [.string x])) (hl : n ≤ maxLen) (hls : ∀ s ∈ l, s.size ≤ maxLen) :
    Calls Try.prog 11 #[.slice A n c] w fun e w' => e = .returned (.bool (few l)) ∧ w = w' := by
  have HA := Lib.hid ha
  have HN := Lib.hid hn
  have HLS := Lib.hid hls
  obtain ⟨R, hR⟩ : ∃ R, R = few l := ⟨_, rfl⟩
  have HR := Lib.hid hR
  rw [← hR]
  unfold maxLen at hl
  clear ha hn hR hls
  go_enter Try.func11, Try.ntmps11
  go_wp2_with fail
  go_loopw [3] (fun i wr => ∃ k : Nat, k ≤ n ∧ i = .int .i64 k ∧ Hid (∀ j (h : j < k) (h2 : j < l.length), l[j].size ≤ 300) ∧ wr = w) (fun i _ => n - (intOf i).toNat)
  case atStart => exact ⟨0, by omega, rfl, fun j h _ => by omega, rfl⟩
  case round =>
    obtain ⟨k, hk, rfl, he, rfl⟩ := hrel
    have HE := Lib.hid he
    clear he
    by_cases hlt : k < n
    · have hk1 : k < l.length := by rw [HN.out]; exact hlt
      obtain ⟨g, off, rfl, hg, c0⟩ := str_at HA.out k hk1
      have hsz := HLS.out l[k] (List.getElem_mem hk1)
      have hmem := List.getElem_mem hk1
      obtain ⟨s, hs⟩ : ∃ s, s = l[k] := ⟨_, rfl⟩
      rw [← hs] at c0 hsz hmem
      have HS := Lib.hid hs
      have HMEM := Lib.hid hmem
      unfold maxLen at hsz
      clear hs hmem
      by_cases hbig : 300 < s.size
      · go_wp2
        go_ret
        refine ⟨?_, rfl⟩
        have hq : few l = false := by unfold few; exact decide_eq_false (fun h => by have := h.1 s HMEM.out; omega)
        rw [HR.out, hq]
        rfl
      · have hsm : s.size ≤ 300 := by omega
        go_wp2
        go_roundw
        · refine ⟨k + 1, by omega, by go_num, ?_, by first | trivial | rfl⟩
          intro j h h2
          by_cases hjk : j = k
          · subst hjk
            rw [← HS.out]
            exact hsm
          · exact HE.out.out j (by omega) h2
        · simp [intOf]; omega
    · have hkn : k = n := by omega
      subst hkn
      by_cases h40 : k ≤ 40
      · go_wp2
        go_ret
        refine ⟨?_, rfl⟩
        have hq : few l = true := by
          unfold few
          refine decide_eq_true ⟨fun s hs => ?_, by rw [HN.out]; exact h40⟩
          obtain ⟨j, hj, rfl⟩ := List.getElem_of_mem hs
          exact HE.out.out j (by rw [← HN.out]; exact hj) hj
        have hd : decide ((k : Int) ≤ 40) = true := decide_eq_true (by omega)
        rw [HR.out, hq, ← hd]
        rfl
      · go_wp2
        go_ret
        refine ⟨?_, rfl⟩
        have hq : few l = false := by unfold few; exact decide_eq_false (fun h => h40 (by rw [← HN.out]; exact h.2))
        have hd : decide ((k : Int) ≤ 40) = false := decide_eq_false (by omega)
        rw [HR.out, hq, ← hd]
        rfl
end Go.Proofs.Ytpadlcllcmodaaa
