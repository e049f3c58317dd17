/- close: plain laws of Put and Get. | leg: an end, told to a side; plain Lean. | leg: what one side gives out, the other one is fed; plain Lean. -/
import Derived.Test.YtlnabpoohnphiaaGreatB15
import Derived.Test.YtlnabpoohnphiaaGreatB20
import Derived.Test.YtlnabpoohnphiaaGreatB22
import Derived.Test.YtlnabpoohnphiaaGreatB11
import Derived.Test.YtlnabpoohnphiaaGreatB26
/- close: plain laws of Put and Get. -/
namespace Go.Proofs.YtlnabpoohnphiaaGreat
open Go.RowKit
set_option linter.unusedSimpArgs false
set_option linter.unusedVariables false

theorem lets_nil : lets ⟨#[]⟩ = true := by decide +kernel
theorem sb_two (x v : Int) (hx : 0 ≤ x ∧ x ≤ 255) (hv : 0 ≤ v ∧ v ≤ 255) (s : ByteArray) : sb (Go.strOfNums [x, v] ++ s) = x :: v :: sb s := by
  rw [sb_append, sb_nums]
  · rfl
  · intro y hy
    simp at hy
    rcases hy with rfl | rfl
    · exact hx
    · exact hv
theorem size_two (x v : Int) (s : ByteArray) : (Go.strOfNums [x, v] ++ s).size = 2 + s.size := by
  rw [ByteArray.size_append, numsB_size]; rfl
theorem tail_two (x v : Int) (hx : 0 ≤ x ∧ x ≤ 255) (hv : 0 ≤ v ∧ v ≤ 255) (s : ByteArray) : (Go.strOfNums [x, v] ++ s).extract 2 (Go.strOfNums [x, v] ++ s).size = s := by
  apply sb_inj
  rw [sb_extract, List.take_of_length_le (by rw [sb_length]; exact Nat.le_refl _), sb_two x v hx hv]
  rfl
theorem code_two (x v : Int) (hx : 0 ≤ x ∧ x ≤ 255) (hv : 0 ≤ v ∧ v ≤ 255) (s : ByteArray) : codeOf (Go.strOfNums [x, v] ++ s) = x * 256 + v := by
  unfold codeOf
  rw [sb_two x v hx hv]
  rfl
theorem cget_two (n : Int) (h0 : 0 ≤ n) (h1 : n ≤ 65535) (s : ByteArray) (hs : s.size ≤ 123) : cget (Go.strOfNums [n / 256, n % 256] ++ s) = if valid11 n = false then (0, ⟨#[]⟩, 110) else if lets s = false then (0, ⟨#[]⟩, 111) else (n, s, 0) := by
  unfold cget
  rw [size_two, if_neg (by omega), if_neg (by omega), code_two _ _ (by omega) (by omega), ← size_two (n / 256) (n % 256) s, tail_two _ _ (by omega) (by omega)]
  rw [show n / 256 * 256 + n % 256 = n from by omega]
/-- What is put is got. -/
theorem cget_put (n : Int) (s : ByteArray) (h : (cput n s).2 = 0) : cget (cput n s).1 = (if n = 0 then 1005 else n, s, 0) := by
  unfold cput at h ⊢
  by_cases h0 : n = 0 ∧ s.size = 0
  · rw [if_pos h0]
    obtain ⟨rfl, h0⟩ := h0
    obtain rfl : s = ⟨#[]⟩ := ByteArray.ext (Array.eq_empty_of_size_eq_zero h0)
    rfl
  rw [if_neg h0] at h ⊢
  by_cases h1 : valid11 n = false ∨ 123 < s.size
  · rw [if_pos h1] at h; cases h
  rw [if_neg h1] at h ⊢
  by_cases h2 : lets s = false
  · rw [if_pos h2] at h; cases h
  rw [if_neg h2] at h ⊢
  have hv : valid11 n = true := by cases hv : valid11 n; exact absurd (.inl hv) h1; rfl
  obtain ⟨hn0, hn1⟩ := valid11_le hv
  show cget (Go.strOfNums [n / 256, n % 256] ++ s) = _
  rw [cget_two n (by omega) (by omega) s (by omega), if_neg (by rw [hv]; simp), if_neg h2, if_neg (by omega)]
theorem across_self {n : Int} (h : valid11 n = true) : across11 n = n := by
  unfold across11
  rw [if_neg (by rintro rfl; revert h; decide), if_pos h]
/-- What is got is put. -/
theorem cput_get (s : ByteArray) (h : (cget s).2.2 = 0) : cput (across11 (cget s).1) (cget s).2.1 = (s, 0) := by
  unfold cget at h ⊢
  by_cases h0 : s.size = 0
  · rw [if_pos h0]
    obtain rfl : s = ⟨#[]⟩ := ByteArray.ext (Array.eq_empty_of_size_eq_zero h0)
    rfl
  rw [if_neg h0] at h ⊢
  by_cases h1 : s.size < 2 ∨ 125 < s.size
  · rw [if_pos h1] at h; cases h
  rw [if_neg h1] at h ⊢
  by_cases h2 : valid11 (codeOf s) = false
  · rw [if_pos h2] at h; cases h
  rw [if_neg h2] at h ⊢
  by_cases h3 : lets (s.extract 2 s.size) = false
  · rw [if_pos h3] at h; cases h
  rw [if_neg h3] at h ⊢
  have hv : valid11 (codeOf s) = true := by cases hv : valid11 (codeOf s); exact absurd hv h2; rfl
  obtain ⟨hn0, hn1⟩ := valid11_le hv
  show cput (across11 (codeOf s)) (s.extract 2 s.size) = _
  rw [across_self hv]
  unfold cput
  rw [if_neg (by omega), if_neg (by rw [hv]; simp; omega), if_neg h3]
  have hx := getD_in (sb_in s) 0 (by omega) 0
  have hy := getD_in (sb_in s) 0 (by omega) 1
  refine Prod.ext (sb_inj ?_) rfl
  show sb (Go.strOfNums [codeOf s / 256, codeOf s % 256] ++ s.extract 2 s.size) = sb s
  rw [sb_two _ _ (by omega) (by omega), sb_extract, List.take_of_length_le (by rw [sb_length]; exact Nat.le_refl _)]
  have hl := sb_length s
  have e1 : codeOf s / 256 = (sb s).getD 0 0 := by unfold codeOf; omega
  have e2 : codeOf s % 256 = (sb s).getD 1 0 := by unfold codeOf; omega
  rw [e1, e2]
  rcases hs : sb s with _ | ⟨a, _ | ⟨b, t⟩⟩
  · rw [hs] at hl; simp at hl; omega
  · rw [hs] at hl; simp at hl; omega
  · rfl
/-- What is put, at its length. -/
theorem cput_no {n : Int} {s : ByteArray} (h : (cput n s).2 ≠ 0) : (cput n s).1 = ⟨#[]⟩ := by
  unfold cput at h ⊢
  split
  · rfl
  split
  · rfl
  split
  · rfl
  · rename_i h0 h1 h2
    rw [if_neg h0, if_neg h1, if_neg h2] at h
    exact absurd rfl h
theorem cput_size {n : Int} {s : ByteArray} (h : (cput n s).2 = 0) : (n = 0 ∧ (cput n s).1 = ⟨#[]⟩) ∨ (n ≠ 0 ∧ (cput n s).1.size = 2 + s.size ∧ (cput n s).1.size ≤ 125 ∧ (cput n s).1.extract 2 (cput n s).1.size = s) := by
  unfold cput at h ⊢
  by_cases h0 : n = 0 ∧ s.size = 0
  · rw [if_pos h0]; exact .inl ⟨h0.1, rfl⟩
  rw [if_neg h0] at h ⊢
  by_cases h1 : valid11 n = false ∨ 123 < s.size
  · rw [if_pos h1] at h; cases h
  rw [if_neg h1] at h ⊢
  by_cases h2 : lets s = false
  · rw [if_pos h2] at h; cases h
  rw [if_neg h2]
  have hv : valid11 n = true := by cases hv : valid11 n; exact absurd (.inl hv) h1; rfl
  obtain ⟨hn0, hn1⟩ := valid11_le hv
  refine .inr ⟨by omega, size_two _ _ _, ?_, tail_two _ _ (by omega) (by omega) _⟩
  show (Go.strOfNums [n / 256, n % 256] ++ s).size ≤ 125
  rw [size_two]
  omega
theorem cput_apart {a b : Int} {v w : ByteArray} (h1 : (cput a v).2 = 0) (h2 : (cput b w).2 = 0) : (cput a v).1 = (cput b w).1 ↔ a = b ∧ v = w := by
  constructor
  · intro h
    have e1 := cget_put a v h1
    have e2 := cget_put b w h2
    rw [h, e2] at e1
    have q1 := congrArg Prod.fst e1
    have q2 := congrArg (fun x => x.2.1) e1
    simp only at q1 q2
    refine ⟨?_, q2.symm⟩
    have na : a ≠ 1005 := by
      rintro rfl
      unfold cput at h1
      rw [if_neg (by omega), if_pos (.inl (by decide))] at h1
      cases h1
    have nb : b ≠ 1005 := by
      rintro rfl
      unfold cput at h2
      rw [if_neg (by omega), if_pos (.inl (by decide))] at h2
      cases h2
    by_cases ha : a = 0
    · by_cases hb : b = 0
      · omega
      · rw [if_pos ha, if_neg hb] at q1; exact absurd q1 nb
    · by_cases hb : b = 0
      · rw [if_neg ha, if_pos hb] at q1; exact absurd q1.symm na
      · rw [if_neg ha, if_neg hb] at q1; exact q1.symm
  · rintro ⟨rfl, rfl⟩; rfl

end Go.Proofs.YtlnabpoohnphiaaGreat
/- leg: an end, told to a side; plain Lean. -/
namespace Go.Proofs.YtlnabpoohnphiaaGreat
open Go.RowKit
set_option linter.unusedSimpArgs false
set_option linter.unusedVariables false

theorem across_ok (n : Int) : ∃ d, cput (across11 n) ⟨#[]⟩ = (d, 0) := by
  unfold across11
  split
  · exact ⟨_, rfl⟩
  split
  · rename_i h
    exact ⟨_, valid11_put h⟩
  · exact ⟨_, valid11_put (by decide)⟩
theorem cput_small {n : Int} {d : ByteArray} (h : cput n ⟨#[]⟩ = (d, 0)) : d.size ≤ 125 ∧ (cget d).2.2 = 0 := by
  have h0 : (cput n ⟨#[]⟩).2 = 0 := by rw [h]
  have hg := cget_put n ⟨#[]⟩ h0
  rw [h] at hg
  refine ⟨?_, by rw [hg]⟩
  have hs := cput_size h0
  rw [h] at hs
  rcases hs with ⟨_, hs⟩ | ⟨_, _, hs, _⟩
  · have : d = ⟨#[]⟩ := hs
    rw [this]
    decide
  · exact hs
theorem ctl_form {op : Int} (h : op = 8 ∨ op = 9 ∨ op = 10) {d : ByteArray} (hd : d.size ≤ 125) : form9 (ctlF op d) = true := by
  unfold form9 known9 control9 ctlF
  have h1 : (8 ≤ op ∧ op ≤ 10) := by omega
  have h2 : ¬ 125 < d.size := by omega
  simp [h1, h2, Fr.key]
theorem mt_end {c : Mc} {f : Fr} (he : c.err = 0) (ho : c.over = false) (h8 : f.op = 8) (hf : form9 f = true) (hg : (cget f.data).2.2 = 0) : ∃ c', mtake c f = (c', ⟨8, (cget f.data).1, (cget f.data).2.1⟩, true, 0) := by
  have hc : check9 f ≠ 91 := by
    unfold check9
    rw [if_pos hf]
    split <;> decide
  unfold mtake
  rw [if_neg (fun h => h he), if_neg (by rw [ho]; simp), if_neg hc, if_pos h8]
  unfold mend
  rw [if_pos hg]
  exact ⟨_, rfl⟩
/-- An end told to a side that sent none. -/
theorem end_told (k : Lk) (L : Lg) (f : Fr) (he : L.m.err = 0) (ho : L.m.over = false) (h8 : f.op = 8) (hf : form9 f = true) (hg : (cget f.data).2.2 = 0) (hs : L.sent = false) :
    ∃ c' d2, L.takeF k f = (({ L with m := c', got := true, sent := true, o := { L.o with rest := [] } } : Lg).ctl k (ctlF 8 d2), ⟨8, (cget f.data).1, (cget f.data).2.1⟩, true) ∧ d2.size ≤ 125 ∧ (cget d2).2.2 = 0 := by
  obtain ⟨c', hm⟩ := mt_end he ho h8 hf hg
  obtain ⟨d2, hd2⟩ := across_ok (cget f.data).1
  have h2 := cput_small hd2
  refine ⟨c', d2, ?_, h2.1, h2.2⟩
  unfold Lg.takeF
  rw [hm]
  simp only [ne_eq, not_true_eq_false, if_false, true_and]
  rw [if_neg (by decide), if_pos trivial]
  unfold Lg.close
  rw [hd2, if_neg (by rw [show ({ L with m := c', got := true } : Lg).sent = false from hs]; rintro (h | h); cases h; exact h rfl)]
/-- And to one that did. -/
theorem end_told2 (k : Lk) (L : Lg) (f : Fr) (he : L.m.err = 0) (ho : L.m.over = false) (h8 : f.op = 8) (hf : form9 f = true) (hg : (cget f.data).2.2 = 0) (hs : L.sent = true) :
    (L.takeF k f).1.wrong = L.wrong := by
  obtain ⟨c', hm⟩ := mt_end he ho h8 hf hg
  unfold Lg.takeF
  rw [hm]
  simp only [ne_eq, not_true_eq_false, if_false, true_and]
  rw [if_neg (by decide), if_pos trivial]
  exact (Lg.close_same k _ _ _).2
/-- A beginning of one frame's bytes is no wrong bytes. -/
theorem scan_begin {mk : Bool} {most : Int} {f : Fr} (hf : fits mk most f) (p q : List Int) (h : p ++ q = fput f) (hl : (fput f).length ≤ maxLen) : (scan mk most p).2.2 = 0 ∧ ((scan mk most p).1 = [] ∨ (scan mk most p).1 = [f]) := by
  have hb := fits_in [f] (fun g hg => by simp at hg; rw [hg]; exact hf)
  have hs := scan_puts [f] (fun g hg => by simp at hg; rw [hg]; exact hf) (by simpa using hl)
  simp only [List.flatMap_cons, List.flatMap_nil, List.append_nil] at hb hs
  obtain ⟨fs2, part2, gs2, h1, h2, h3⟩ := scan_split mk most [] p q [f] (by rw [List.nil_append, h]; exact hb) (by rw [List.nil_append, h]; exact hl) (by rw [List.nil_append, h]; exact hs)
  rw [List.nil_append] at h1
  rw [h1]
  refine ⟨rfl, ?_⟩
  rcases fs2 with _ | ⟨g, gs⟩
  · exact .inl rfl
  · right
    simp at h3
    obtain ⟨rfl, h3, h4⟩ := h3
    rw [h3]
/-- A side that sent an end, fed a beginning of the other one's. -/
theorem feed_begin (k : Lk) (L : Lg) (hd : L.down = false) (hp : L.part = []) (he : L.m.err = 0) (ho : L.m.over = false) (hs : L.sent = true) (f : Fr) (hf : fits (!k.masks) (most16 k) f) (h8 : f.op = 8) (hg : (cget f.data).2.2 = 0) (p q : List Int) (h : p ++ q = fput f) (hl : (fput f).length ≤ maxLen) :
    (L.feed k p).1.wrong = L.wrong := by
  obtain ⟨s1, s2⟩ := scan_begin hf p q h hl
  obtain ⟨fs, x, y, hsc⟩ : ∃ a b c, scan (!k.masks) (most16 k) p = (a, b, c) := ⟨_, _, _, rfl⟩
  rw [hsc] at s1 s2
  simp only at s1 s2
  subst s1
  have hA := Lg.feed_by hd (b := p) (fs := fs) (p := x) (e := 0) (by rw [hp, List.nil_append]; exact hsc)
  rw [hA]
  have key : (feedFs k (L.setp x 0) fs).1.wrong = L.wrong := by
    rcases s2 with rfl | rfl
    · rfl
    · show (feedStep k (L.setp x 0, [], false) f).1.wrong = _
      unfold feedStep
      rw [if_neg (by simp)]
      exact end_told2 k (L.setp x 0) f he ho h8 hf.2.1 hg hs
  split
  · exact key
  · rw [if_neg (by simp)]
    exact key
end Go.Proofs.YtlnabpoohnphiaaGreat
/- leg: what one side gives out, the other one is fed; plain Lean. -/
namespace Go.Proofs.YtlnabpoohnphiaaGreat
open Go.RowKit
set_option linter.unusedSimpArgs false
set_option linter.unusedVariables false

/-- A side that was never fed. -/
structure Lg.mute (M : Nat) (L : Lg) : Prop where
  part : L.part = []
  serr : L.serr = 0
  m : L.m = Mc.new M
  got : L.got = false
  wrong : L.wrong = 0
theorem Lg.new_mute (M : Nat) (d : Int) : (Lg.new M d).mute M := ⟨rfl, rfl, rfl, rfl, rfl⟩
theorem Lg.mute.take {M : Nat} {L : Lg} (k : Lk) (h : L.mute M) (n : Int) : (L.take k n).mute M := ⟨h.part, h.serr, h.m, h.got, h.wrong⟩
theorem Lg.mute.send {M : Nat} {L : Lg} (k : Lk) (h : L.mute M) (op : Int) (s : ByteArray) : (L.send k op s).1.mute M := by
  unfold Lg.send
  split
  · exact ⟨h.part, h.serr, h.m, h.got, h.wrong⟩
  · exact h
theorem Lg.mute.close {M : Nat} {L : Lg} (k : Lk) (h : L.mute M) (c : Int) (s : ByteArray) : (L.close k c s).1.mute M := by
  have h1 := Lg.close_like k L c s
  have h2 := Lg.close_same k L c s
  exact ⟨h1.part.trans h.part, h1.serr.trans h.serr, h1.m.trans h.m, h2.1.trans h.got, h2.2.trans h.wrong⟩
/-- What one side gives out is fed to the other one: all of it is T. -/
structure Drain (k1 k2 : Lk) (M : Nat) (T : List Int) (L1 L2 : Lg) (outs : List Ev) (PS : List (List Int)) : Prop where
  bytes : PS.flatten ++ L1.o.toGo k1.masks = T
  fed : feedAll k2 (Lg.new M 0) PS = (L2, outs)
  pin : ∀ p ∈ PS, bytesIn p
  mute : L1.mute M
  fine : L2.fine k2
  len : outs.length ≤ 600 * PS.length
  still : L1.o.still k1.out
theorem feedAll_snoc (k : Lk) (L : Lg) (ss : List (List Int)) (b : List Int) : feedAll k L (ss ++ [b]) = (((feedAll k L ss).1.feed k b).1, (feedAll k L ss).2 ++ ((feedAll k L ss).1.feed k b).2) := by
  unfold feedAll
  rw [List.foldl_append]
  rfl
theorem Drain.step {k1 k2 : Lk} {M : Nat} {T : List Int} {L1 L2 : Lg} {outs : List Ev} {PS : List (List Int)} (h : Drain k1 k2 M T L1 L2 outs PS) (hM : M ≤ 256) (hk : k2.message = M) (n : Int) (hb : bytesIn L1.o.ring) (hr : L1.o.ring.length ≤ 256) :
    Drain k1 k2 M T (L1.take k1 n) (L2.feed k2 (L1.o.ring.take (pk n L1.o.ring.length))).1 (outs ++ (L2.feed k2 (L1.o.ring.take (pk n L1.o.ring.length))).2) (PS ++ [L1.o.ring.take (pk n L1.o.ring.length)]) := by
  have hp := h.fine.part
  unfold most16 at hp
  rw [hk] at hp
  have hbp : bytesIn (L1.o.ring.take (pk n L1.o.ring.length)) := hb.take _
  have hlp : (L1.o.ring.take (pk n L1.o.ring.length)).length ≤ 256 := by rw [List.length_take]; omega
  have hl := Lg.feed_len k2 L2 h.fine.ok _ hbp (by omega)
  refine ⟨?_, ?_, ?_, h.mute.take k1 n, h.fine.feed _ hbp (by omega), ?_, Lg.take_still k1 L1 n⟩
  · rw [List.flatten_append, List.append_assoc]
    simp only [List.flatten_cons, List.flatten_nil, List.append_nil]
    rw [Lg.take_toGo]
    exact h.bytes
  · rw [feedAll_snoc, h.fed]
  · intro p hp
    rcases List.mem_append.1 hp with hp | hp
    · exact h.pin p hp
    · simp at hp
      rw [hp]
      exact hbp
  · have := h.len
    rw [List.length_append, List.length_append]
    simp only [List.length_cons, List.length_nil]
    omega
/-- What the other side is told, once all of it is fed. -/
theorem told_all {k2 : Lk} {M : Nat} (hk : k2.message = M) (hM : M ≤ 65536) {L2 X : Lg} {outs evs : List Ev} {PS : List (List Int)} {G : List Fr} {fl : Bool} (hfed : feedAll k2 (Lg.new M 0) PS = (L2, outs)) (hpin : ∀ p ∈ PS, bytesIn p) (hPS : PS.flatten = G.flatMap fput) (hG : ∀ f ∈ G, fits (!k2.masks) (most16 k2) f) (hl : (G.flatMap fput).length ≤ 100000)
    (hX : feedFs k2 (Lg.new M 0) G = (X, evs, fl)) : outs = evs ∧ X.alike L2 := by
  have hone := feedAll_one k2 (by omega) PS 0 (Lg.new M 0) (by rw [← hk]; exact Lg.new_okb k2 0 _) (Lg.new_read _ _ _) hpin (by rw [hPS]; exact hl)
  rw [hfed, hPS] at hone
  have hs := scan_puts G hG (by unfold maxLen; omega)
  have hA := Lg.feed_by (k := k2) (L := Lg.new M 0) rfl (b := G.flatMap fput) (fs := G) (p := []) (e := 0) (by show scan _ _ ([] ++ _) = _; rw [List.nil_append]; exact hs)
  rw [show (Lg.new M 0).setp [] 0 = Lg.new M 0 from rfl, hX] at hA
  simp only [ne_eq, not_true_eq_false, if_false, ite_self] at hA
  rw [hA] at hone
  obtain ⟨⟨p, e, h1⟩, h2⟩ := hone
  simp only at h1 h2
  exact ⟨h2, ⟨L2.part, L2.serr, by rw [h1]; rfl⟩⟩
/-- A message's frames fit. -/
theorem msg_fits {k1 k2 : Lk} {M : Nat} (hk1 : k1.message = M) (hk2 : k2.message = M) (hm : k2.masks = false) (hM : M ≤ 256) (s : ByteArray) (hs : s.size ≤ M) (d : Int) : ∀ f ∈ mfr true (cuts k1 2 s) d, fits (!k2.masks) (most16 k2) f ∧ fputz f = fput f := by
  intro f hf
  obtain ⟨g, hg, e, rfl, h0, h1⟩ := mfr_mem _ d f hf
  unfold cuts at hg
  obtain ⟨q1, q2, q3, q4⟩ := cut_form2 hg
  have hgd := cutFs_good (.inr rfl) s (by unfold maxLen; omega) _ _ g hg
  refine ⟨⟨mask1_good hgd e h0 h1, mask_form q1 e, by rw [hm]; rfl, ?_⟩, ?_⟩
  · show ((mask1 g e).data.size : Int) ≤ most16 k2
    have : (mask1 g e).data = g.data := rfl
    rw [this]
    unfold most16
    rw [hk2]
    omega
  · unfold fputz
    rw [if_pos (form_check (mask_form q1 e) (by show g.data.size ≤ 65536; omega))]
theorem flat_fputz {l : List Fr} (h : ∀ f ∈ l, fputz f = fput f) : l.flatMap fputz = l.flatMap fput := by
  induction l with
  | nil => rfl
  | cons f fs ih =>
    rw [List.flatMap_cons, List.flatMap_cons, h f List.mem_cons_self, ih (fun g hg => h g (List.mem_cons_of_mem _ hg))]
theorem flat_len {l : List Fr} {D : Nat} (h : ∀ f ∈ l, f.data.size ≤ D) : (l.flatMap fput).length ≤ l.length * (D + 14) := by
  induction l with
  | nil => exact Nat.zero_le _
  | cons f fs ih =>
    rw [List.flatMap_cons, List.length_append, fput_length, List.length_cons, Nat.succ_mul]
    have h1 := size9_le f
    have h2 := h f List.mem_cons_self
    have h3 := ih (fun g hg => h g (List.mem_cons_of_mem _ hg))
    omega
theorem mfr_length (mk : Bool) : ∀ (l : List Fr) (d : Int), (mfr mk l d).length = l.length := by
  intro l
  induction l with
  | nil => intro d; rfl
  | cons f fs ih => intro d; simp only [mfr, List.length_cons, ih]
/-- Sending a message, all else being out. -/
theorem send_toGo {k : Lk} {L : Lg} (hq : L.quiet = true) (hfr : L.free = true) (s : ByteArray) (hs : s.size ≤ k.message) : (L.send k 2 s).2 = true ∧ (L.send k 2 s).1.o.toGo k.masks = (mfr k.masks (cuts k 2 s) L.o.draw).flatMap fputz ∧ (L.send k 2 s).1.sent = L.sent ∧ (L.send k 2 s).1.o.still k.out ∧ (L.send k 2 s).1.o.wt ≤ ((cuts k 2 s).map (fun f => f.data.size + 15)).sum := by
  obtain ⟨h1, h2, h3, h4⟩ := Lg.quiet_nil hq
  unfold Lg.send
  rw [if_pos ⟨hfr, .inr rfl, hs⟩]
  refine ⟨rfl, ?_, rfl, Ou.move_still _ _ _, ?_⟩
  · simp only [Ou.move_toGo]
    unfold Ou.toGo
    simp only [h1, h2, h3, List.nil_append]
  · refine Nat.le_trans (Ou.move_wt _ _ _) ?_
    unfold Ou.wt
    simp only [h1, h2, h3]
    simp
theorem sum_le {l : List Fr} {D : Nat} (h : ∀ f ∈ l, f.data.size ≤ D) : (l.map (fun f => f.data.size + 15)).sum ≤ l.length * (D + 15) := by
  induction l with
  | nil => exact Nat.zero_le _
  | cons f fs ih =>
    rw [List.map_cons, List.sum_cons, List.length_cons, Nat.succ_mul]
    have h2 := h f List.mem_cons_self
    have h3 := ih (fun g hg => h g (List.mem_cons_of_mem _ hg))
    omega
theorem cuts_len (k : Lk) (hf1 : 1 ≤ k.frame) (hf2 : k.frame ≤ 65536) (s : ByteArray) (hs : s.size ≤ 256) : ∃ n : Nat, count13 s.size k.frame = (n : Int) ∧ cuts k 2 s = cutFs 2 s k.frame n ∧ 1 ≤ n ∧ n ≤ 257 ∧ s.size ≤ n * k.frame ∧ (n - 1) * k.frame ≤ s.size ∧ (cuts k 2 s).length = n := by
  obtain ⟨n, hn, f1, f2, f3, f4, f5⟩ := count_facts s.size k.frame (by omega) hf1 hf2
  refine ⟨n, hn, by unfold cuts; rw [hn]; rfl, f1, ?_, f3, f4, by unfold cuts; rw [hn]; simp [cutFs]⟩
  have : n - 1 ≤ (n - 1) * k.frame := Nat.le_mul_of_pos_right _ hf1
  omega
end Go.Proofs.YtlnabpoohnphiaaGreat
