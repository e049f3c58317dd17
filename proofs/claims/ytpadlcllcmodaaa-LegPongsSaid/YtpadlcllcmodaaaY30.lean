/- leg: a whole side in memory (IsL), what it owns (LF), what its parts' acts keep. | ring: Peek, Take. -/
import Derived.Test.YtpadlcllcmodaaaY13
import Derived.Test.YtpadlcllcmodaaaY22
import Derived.Test.YtpadlcllcmodaaaY29
import Derived.Test.YtpadlcllcmodaaaY06
/- leg: a whole side in memory (IsL), what it owns (LF), what its parts' acts keep. -/
namespace Go.Proofs.Ytpadlcllcmodaaa
open Go.RowKit
set_option linter.unusedSimpArgs false
set_option linter.unusedVariables false

/-- A side: what came and isn't a frame yet, what the stream finds wrong, the machine, what is to go out, whether an end was sent, or came, what was wrong. -/
structure Lg where
  part : List Int
  serr : Int
  m : Mc
  o : Ou
  sent : Bool
  got : Bool
  wrong : Int
/-- Its slices' values. -/
structure LV where
  vs : Value
  vm : Value
  vt : Value
  vc : Value
  vr : Value
/-- Its own blocks. -/
def LF (g : Nat) (k : Lk) (V : LV) (b : Nat) : Prop :=
  b = g ∨ b = k.sg ∨ b = k.mg ∨ b = k.mcu ∨ b = k.rg ∨ b = k.rb ∨ V.vs.ownBlock = some b ∨ V.vm.ownBlock = some b ∨ V.vt.ownBlock = some b ∨ V.vc.ownBlock = some b ∨ V.vr.ownBlock = some b
def OA (g : Nat) (k : Lk) (vc : Value) (b : Nat) : Prop := LO g k b ∨ vc.ownBlock = some b
def Apart (u v : Value) : Prop := ∀ b, u.ownBlock = some b → v.ownBlock ≠ some b
def most16 (k : Lk) : Int := ((max k.message 125 : Nat) : Int)
structure IsL (w : World) (g : Nat) (k : Lk) (L : Lg) (V : LV) : Prop where
  out : OutH w g k L.o L.sent L.got L.wrong V.vt V.vc V.vr
  ins : IsStv w 0 k.sg (!k.masks) (most16 k) L.part L.serr V.vs
  mac : IsMv w 0 k.mg k.mcu L.m V.vm
  good : L.m.good
  sm : Apart V.vs V.vm
  st : Apart V.vs V.vt
  sr : V.vs.ownBlock ≠ some k.rb
  mt : Apart V.vm V.vt
  mr : V.vm.ownBlock ≠ some k.rb
  cr : Apart V.vc V.vr
structure LLoc (w : World) (V V' : LV) : Prop where
  s : Loc w V.vs V'.vs
  m : Loc w V.vm V'.vm
  t : Loc w V.vt V'.vt
  c : Loc w V.vc V'.vc
  r : Loc w V.vr V'.vr
theorem LLoc.refl (w : World) (V : LV) : LLoc w V V := ⟨Loc.refl _ _, Loc.refl _ _, Loc.refl _ _, Loc.refl _ _, Loc.refl _ _⟩
theorem LLoc.trans {w w1 : World} {V V1 V2 : LV} (h : LLoc w V V1) (k : LLoc w1 V1 V2) (hs : w.heap.size ≤ w1.heap.size) : LLoc w V V2 :=
  ⟨h.s.trans k.s hs, h.m.trans k.m hs, h.t.trans k.t hs, h.c.trans k.c hs, h.r.trans k.r hs⟩
section
variable {w w' w0 : World} {g : Nat} {k : Lk} {L : Lg} {V V' : LV}
theorem LF_loc (h : LLoc w V V') {b : Nat} (hb : LF g k V' b) : LF g k V b ∨ w.heap.size ≤ b := by
  unfold LF at hb ⊢
  rcases hb with hb | hb | hb | hb | hb | hb | hb | hb | hb | hb | hb
  · simp [hb]
  · simp [hb]
  · simp [hb]
  · simp [hb]
  · simp [hb]
  · simp [hb]
  · rcases h.s b hb with h | h
    · simp [h]
    · exact .inr h
  · rcases h.m b hb with h | h
    · simp [h]
    · exact .inr h
  · rcases h.t b hb with h | h
    · simp [h]
    · exact .inr h
  · rcases h.c b hb with h | h
    · simp [h]
    · exact .inr h
  · rcases h.r b hb with h | h
    · simp [h]
    · exact .inr h
theorem OutH.touch {S : Nat → Prop} {o : Ou} {sent got : Bool} {wrong : Int} {vt vc vr : Value} (h : OutH w g k o sent got wrong vt vc vr) (t : Touch S w w') (h1 : ¬ S g) (h2 : ¬ S k.rg) (h3 : ¬ S k.rb) (h4 : ∀ b, vt.ownBlock = some b → ¬ S b) (h5 : ∀ b, vc.ownBlock = some b → ¬ S b) (h6 : ∀ b, vr.ownBlock = some b → ¬ S b) : OutH w' g k o sent got wrong vt vc vr :=
  ⟨h.blk.touch t h1, h.ring.touch t h2 h3, h.tail.touch t h4, h.ctl.touch t h5, h.rest.touch t h6, h.bytes, h.good, h.apart⟩
theorem IsL.touch {S : Nat → Prop} (h : IsL w g k L V) (t : Touch S w w') (hS : ∀ b, LF g k V b → ¬ S b) : IsL w' g k L V :=
  ⟨h.out.touch t (hS _ (by simp [LF])) (hS _ (by simp [LF])) (hS _ (by simp [LF])) (fun b hb => hS b (by simp [LF, hb])) (fun b hb => hS b (by simp [LF, hb])) (fun b hb => hS b (by simp [LF, hb])),
   h.ins.touch t (hS _ (by simp [LF])) (fun b hb => hS b (by simp [LF, hb])),
   h.mac.touch t (hS _ (by simp [LF])) (hS _ (by simp [LF])) (fun b hb => hS b (by simp [LF, hb])),
   h.good, h.sm, h.st, h.sr, h.mt, h.mr, h.cr⟩
theorem IsL.no (h : IsL w g k L V) (t : Touch NoS w w') : IsL w' g k L V := h.touch t fun _ _ h => h
theorem Win.lt {e : TypeId} {size n : Nat} {v : Value} {xs : List Value} (h : Win w e size v n xs) {b : Nat} (hb : v.ownBlock = some b) : b < w.heap.size := by
  obtain ⟨cs, hc⟩ := h.type hb
  exact hc.lt
/-- The type of each of its blocks. -/
theorem IsL.type (h : IsL w g k L V) {b : Nat} (hb : LF g k V b) : ∃ t cs, Blk w b t cs ∧ (t = 71 ∨ t = 93 ∨ t = 97 ∨ t = 119 ∨ t = 99 ∨ t = 5 ∨ t = 59) := by
  obtain ⟨c1, c2, q1, q2⟩ := h.out.ring.blk
  unfold LF at hb
  rcases hb with rfl | rfl | rfl | rfl | rfl | rfl | hb | hb | hb | hb | hb
  · exact ⟨_, _, h.out.blk, by simp⟩
  · exact ⟨_, _, h.ins.1, by simp⟩
  · exact ⟨_, _, h.mac.1, by simp⟩
  · exact ⟨_, _, h.mac.2.2, by simp⟩
  · exact ⟨_, _, q1, by simp⟩
  · exact ⟨_, _, q2, by simp⟩
  · obtain ⟨cs, hc⟩ := own_type h.ins.2 hb
    exact ⟨_, _, hc, by simp⟩
  · obtain ⟨cs, hc⟩ := own_type h.mac.2.1 hb
    exact ⟨_, _, hc, by simp⟩
  · obtain ⟨cs, hc⟩ := h.out.tail.type hb
    exact ⟨_, _, hc, by simp⟩
  · obtain ⟨cs, hc⟩ := h.out.ctl.type hb
    exact ⟨_, _, hc, by simp⟩
  · obtain ⟨cs, hc⟩ := h.out.rest.type hb
    exact ⟨_, _, hc, by simp⟩
theorem IsL.lt (h : IsL w g k L V) {b : Nat} (hb : LF g k V b) : b < w.heap.size := by
  obtain ⟨t, cs, hc, _⟩ := h.type hb
  exact hc.lt
theorem Loc.apart_l {u v u' : Value} (h : Apart u v) (k : Loc w u u') (hb : ∀ b, v.ownBlock = some b → b < w.heap.size) : Apart u' v := fun b hu hv => by
  rcases k b hu with h1 | h1
  · exact h b h1 hv
  · have := hb b hv
    omega
theorem Loc.apart_r {u v v' : Value} (h : Apart u v) (k : Loc w v v') (hb : ∀ b, u.ownBlock = some b → b < w.heap.size) : Apart u v' := fun b hu hv => by
  rcases k b hv with h1 | h1
  · exact h b hu h1
  · have := hb b hu
    omega
theorem Loc.ne {v v' : Value} {r : Nat} (h : v.ownBlock ≠ some r) (k : Loc w v v') (hr : r < w.heap.size) : v'.ownBlock ≠ some r := fun hv => by
  rcases k r hv with h1 | h1
  · exact h h1
  · omega
/-- The output's acts keep the stream and the machine. -/
theorem IsL.out_act (h : IsL w g k L V) {o' : Ou} {sent' got' : Bool} {wrong' : Int} {vt' vc' vr' : Value} (h' : OutH w' g k o' sent' got' wrong' vt' vc' vr') (ht : Touch (OA g k V.vc) w w') (l1 : Loc w V.vt vt') (l2 : Loc w V.vc vc') (l3 : Loc w V.vr vr') (ha : Apart vc' vr') :
    ∃ V', IsL w' g k { L with o := o', sent := sent', got := got', wrong := wrong' } V' ∧ LLoc w V V' ∧ Touch (LF g k V) w w' := by
  obtain ⟨c1, c2, q1, q2⟩ := h.out.ring.blk
  have hT : ∀ (t : TypeId) (cs : Array Value) (b : Nat), Blk w b t cs → t ≠ 71 → t ≠ 99 → t ≠ 59 → (t = 5 → b ≠ k.rb) → ¬ OA g k V.vc b := by
    intro t cs b hb t1 t2 t3 t4 hS
    rcases hS with (hS | hS | hS) | hS
    · exact hb.ne_ h.out.blk t1 hS
    · exact hb.ne_ q1 t2 hS
    · by_cases ht : t = 5
      · exact t4 ht hS
      · exact hb.ne_ q2 ht hS
    · obtain ⟨cs', hc⟩ := h.out.ctl.type hS
      exact hb.ne_ hc t3 rfl
  refine ⟨{ V with vt := vt', vc := vc', vr := vr' }, ⟨h', ?_, ?_, h.good, h.sm, ?_, h.sr, ?_, h.mr, ha⟩, ⟨Loc.refl _ _, Loc.refl _ _, l1, l2, l3⟩, ?_⟩
  · refine h.ins.touch ht (hT _ _ _ h.ins.1 (by decide) (by decide) (by decide) (fun e => absurd e (by decide))) fun b hb => ?_
    obtain ⟨cs, hc⟩ := own_type h.ins.2 hb
    exact hT _ _ _ hc (by decide) (by decide) (by decide) fun _ e => h.sr (by rw [← e]; exact hb)
  · refine h.mac.touch ht (hT _ _ _ h.mac.1 (by decide) (by decide) (by decide) (fun e => absurd e (by decide))) (hT _ _ _ h.mac.2.2 (by decide) (by decide) (by decide) (fun e => absurd e (by decide))) fun b hb => ?_
    obtain ⟨cs, hc⟩ := own_type h.mac.2.1 hb
    exact hT _ _ _ hc (by decide) (by decide) (by decide) fun _ e => h.mr (by rw [← e]; exact hb)
  · exact l1.apart_r h.st fun b hb => h.lt (by simp [LF, hb])
  · exact l1.apart_r h.mt fun b hb => h.lt (by simp [LF, hb])
  · refine ht.mono fun b hb => ?_
    rcases hb with (hb | hb | hb) | hb
    · simp [LF, hb]
    · simp [LF, hb]
    · simp [LF, hb]
    · simp [LF, hb]
theorem IsL.in_act (h : IsL w g k L V) {part' : List Int} {e' : Int} {v1 : Value} (h' : IsStv w' 0 k.sg (!k.masks) (most16 k) part' e' v1) (l : Loc w V.vs v1) (ht : Touch (SO k.sg V.vs) w w') :
    ∃ V', IsL w' g k { L with part := part', serr := e' } V' ∧ LLoc w V V' ∧ Touch (LF g k V) w w' := by
  obtain ⟨c1, c2, q1, q2⟩ := h.out.ring.blk
  have hT : ∀ (t : TypeId) (cs : Array Value) (b : Nat), Blk w b t cs → t ≠ 93 → (t = 5 → V.vs.ownBlock ≠ some b) → ¬ SO k.sg V.vs b := by
    intro t cs b hb t1 t4 hS
    rcases hS with hS | hS
    · exact hb.ne_ h.ins.1 t1 hS
    · by_cases ht : t = 5
      · exact t4 ht hS
      · obtain ⟨cs', hc⟩ := own_type h.ins.2 hS
        exact hb.ne_ hc ht rfl
  refine ⟨{ V with vs := v1 }, ⟨?_, h', ?_, h.good, ?_, ?_, ?_, h.mt, h.mr, h.cr⟩, ⟨l, Loc.refl _ _, Loc.refl _ _, Loc.refl _ _, Loc.refl _ _⟩, ?_⟩
  · refine h.out.touch ht (hT _ _ _ h.out.blk (by decide) (fun e => absurd e (by decide))) (hT _ _ _ q1 (by decide) (fun e => absurd e (by decide))) (hT _ _ _ q2 (by decide) (fun _ => h.sr)) ?_ ?_ ?_
    · intro b hb
      obtain ⟨cs, hc⟩ := h.out.tail.type hb
      exact hT _ _ _ hc (by decide) fun _ e => h.st b e hb
    · intro b hb
      obtain ⟨cs, hc⟩ := h.out.ctl.type hb
      exact hT _ _ _ hc (by decide) (fun e => absurd e (by decide))
    · intro b hb
      obtain ⟨cs, hc⟩ := h.out.rest.type hb
      exact hT _ _ _ hc (by decide) (fun e => absurd e (by decide))
  · refine h.mac.touch ht (hT _ _ _ h.mac.1 (by decide) (fun e => absurd e (by decide))) (hT _ _ _ h.mac.2.2 (by decide) (fun e => absurd e (by decide))) fun b hb => ?_
    obtain ⟨cs, hc⟩ := own_type h.mac.2.1 hb
    exact hT _ _ _ hc (by decide) fun _ e => h.sm b e hb
  · exact l.apart_l h.sm fun b hb => h.lt (by simp [LF, hb])
  · exact l.apart_l h.st fun b hb => h.lt (by simp [LF, hb])
  · exact l.ne h.sr q2.lt
  · refine ht.mono fun b hb => ?_
    rcases hb with hb | hb
    · simp [LF, hb]
    · simp [LF, hb]
theorem IsL.m_act (h : IsL w g k L V) {c' : Mc} {v1 : Value} (h' : IsMv w' 0 k.mg k.mcu c' v1) (hg : c'.good) (l : Loc w V.vm v1) (ht : Touch (MO k.mg k.mcu V.vm) w w') :
    ∃ V', IsL w' g k { L with m := c' } V' ∧ LLoc w V V' ∧ Touch (LF g k V) w w' := by
  obtain ⟨c1, c2, q1, q2⟩ := h.out.ring.blk
  have hT : ∀ (t : TypeId) (cs : Array Value) (b : Nat), Blk w b t cs → t ≠ 97 → t ≠ 119 → (t = 5 → V.vm.ownBlock ≠ some b) → ¬ MO k.mg k.mcu V.vm b := by
    intro t cs b hb t1 t2 t4 hS
    rcases hS with hS | hS | hS
    · exact hb.ne_ h.mac.1 t1 hS
    · exact hb.ne_ h.mac.2.2 t2 hS
    · by_cases ht : t = 5
      · exact t4 ht hS
      · obtain ⟨cs', hc⟩ := own_type h.mac.2.1 hS
        exact hb.ne_ hc ht rfl
  refine ⟨{ V with vm := v1 }, ⟨?_, ?_, h', hg, ?_, h.st, h.sr, ?_, ?_, h.cr⟩, ⟨Loc.refl _ _, l, Loc.refl _ _, Loc.refl _ _, Loc.refl _ _⟩, ?_⟩
  · refine h.out.touch ht (hT _ _ _ h.out.blk (by decide) (by decide) (fun e => absurd e (by decide))) (hT _ _ _ q1 (by decide) (by decide) (fun e => absurd e (by decide))) (hT _ _ _ q2 (by decide) (by decide) (fun _ => h.mr)) ?_ ?_ ?_
    · intro b hb
      obtain ⟨cs, hc⟩ := h.out.tail.type hb
      exact hT _ _ _ hc (by decide) (by decide) fun _ e => h.mt b e hb
    · intro b hb
      obtain ⟨cs, hc⟩ := h.out.ctl.type hb
      exact hT _ _ _ hc (by decide) (by decide) (fun e => absurd e (by decide))
    · intro b hb
      obtain ⟨cs, hc⟩ := h.out.rest.type hb
      exact hT _ _ _ hc (by decide) (by decide) (fun e => absurd e (by decide))
  · refine h.ins.touch ht (hT _ _ _ h.ins.1 (by decide) (by decide) (fun e => absurd e (by decide))) fun b hb => ?_
    obtain ⟨cs, hc⟩ := own_type h.ins.2 hb
    exact hT _ _ _ hc (by decide) (by decide) fun _ e => h.sm b hb e
  · exact l.apart_r h.sm fun b hb => h.lt (by simp [LF, hb])
  · exact l.apart_l h.mt fun b hb => h.lt (by simp [LF, hb])
  · exact l.ne h.mr q2.lt
  · refine ht.mono fun b hb => ?_
    rcases hb with hb | hb | hb
    · simp [LF, hb]
    · simp [LF, hb]
    · simp [LF, hb]
end
end Go.Proofs.Ytpadlcllcmodaaa
/- ring: Peek, Take. -/
namespace Go.Proofs.Ytpadlcllcmodaaa
open Go.RowKit
set_option linter.unusedSimpArgs false
set_option linter.unusedVariables false

/-- How many bytes are told. -/
def pk (n : Int) (size : Nat) : Nat := (min (max n 0) size).toNat
theorem pk_le (n : Int) (size : Nat) : pk n size ≤ size := by unfold pk; omega

set_option maxHeartbeats 3200000 in
set_option maxRecDepth 100000 in
theorem rg_peek (g b M : Nat) (l : List Int) (n : Int) (w : World) (h : IsR w g b M l) :
    Calls Try.prog 38 #[.pointer (some ⟨g, 0, none⟩), .int .i64 n] w fun e w' => ∃ g2, e = .returned (.slice (some ⟨g2, 0, none⟩) (pk n l.length) (pk n l.length)) ∧ w.heap.size ≤ g2 ∧ Blk w' g2 5 (u8s (l.take (pk n l.length))).toArray ∧ Touch NoS w w' := by
  obtain ⟨s, buf, hb, hrow, hM, hbin, hs, hMm, hl, hrc⟩ := h
  obtain ⟨K, hK⟩ : ∃ K, K = l.length := ⟨_, rfl⟩
  rw [← hK] at hb hl hrc ⊢
  have HKK := Lib.hid hK
  obtain ⟨k, hk⟩ : ∃ k, k = pk n K := ⟨_, rfl⟩
  have hkK : k ≤ K := by rw [hk]; exact pk_le _ _
  rw [← hk]
  have hmn : min (max n 0) (K : Int) = (k : Int) := by rw [hk]; unfold pk; omega
  obtain ⟨n1, hn1⟩ : ∃ n1, n1 = min k (M - s) := ⟨_, rfl⟩
  have hn1k : n1 ≤ k := by omega
  have hn1M : s + n1 ≤ M := by omega
  have HN1 := Lib.hid hn1
  have HMM := Lib.hid hM
  have HRC := Lib.hid hrc
  obtain ⟨C1, hC1⟩ : ∃ C1, C1 = u8s ((buf.drop s).take n1) := ⟨_, rfl⟩
  have HC1 := Lib.hid hC1
  have HC1L : Hid (C1.length = n1) := by show C1.length = n1; rw [hC1, u8s_length, List.length_take, List.length_drop, hM]; omega
  obtain ⟨C2, hC2⟩ : ∃ C2, C2 = u8s (buf.take (k - n1)) := ⟨_, rfl⟩
  have HC2 := Lib.hid hC2
  have HC2L : Hid (C2.length = k - n1) := by show C2.length = k - n1; rw [hC2, u8s_length, List.length_take, hM]; omega
  have HMK := Lib.hid (make_u8 w k (by omega))
  have hmk := HMK.out
  have c0 := hb.cell 0
  have c1 := hb.cell 1
  have c2 := hb.cell 2
  have glt := hb.lt
  simp [rgCells] at c0 c1 c2
  have HB := Lib.hid hb
  have HROW := Lib.hid hrow
  clear hb hrow hK hk hn1 hC1 hC2 hM hrc
  go_enter Try.func38, Try.ntmps38
  go_wp2_with fail
  obtain ⟨w1, hw1⟩ : ∃ w1, w1 = w.alloc (.cells (Array.replicate k (.int .u8 0)) 5) := ⟨_, rfl⟩
  rw [← hw1]
  have HN : Hid (Blk w1 w.heap.size 5 (u8s (List.replicate k 0)).toArray) := by
    show Blk w1 _ _ _
    rw [hw1]
    have := Blk.new w 5 (Array.replicate k (.int .u8 0))
    simpa [u8s] using this
  have HT1 : Hid (Touch NoS w w1) := by show Touch NoS w w1; rw [hw1]; exact (Touch.refl _ _).alloc _
  have hb1 : Blk w1 g 99 (rgCells b M s K) := HB.out.touch HT1.out (fun h => h)
  have HROW1 : Hid (Blk w1 b 5 (u8s buf).toArray) := HROW.out.touch HT1.out (fun h => h)
  have HBN : Hid (b < w.heap.size) := HROW.out.lt
  have HGN : Hid (g < w.heap.size) := HB.out.lt
  have HRD1 : Hid (Rd w1.drew (some ⟨b, s, none⟩) C1) := by
    show Rd w1.drew _ _
    rw [HC1.out]
    intro _
    refine ⟨b, s, rfl, HROW1.out.lt, fun j u hu => ?_⟩
    rw [HROW1.out.drew.cell]
    simp only [u8s, List.map_take, List.map_drop, List.getElem?_take] at hu
    split at hu
    · rw [List.getElem?_drop] at hu
      simpa [u8s] using hu
    · cases hu
  have hMs : ¬ M = s := by omega
  have hsM : s ≤ M := by omega
  have c0 := hb1.cell 0
  have c1 := hb1.cell 1
  simp [rgCells] at c0 c1
  have HB1 := Lib.hid hb1
  clear hmk HMK hw1 hb1 c2
  go_region_law (refine step_copy_at rfl (.tmp 16) (.tmp 25) 36 36 rfl 5 Try.underlying36 u8_info1r (some ⟨w.heap.size, 0, none⟩) (some ⟨b, s, none⟩) k k (M - s) (M - s) rfl rfl w.heap.size 0 (u8s (List.replicate k 0)) 5 HN.out.drew C1 (by rw [HC1L.out, HN1.out]; exact Nat.min_comm _ _) (fun _ => rfl) HRD1.out (by rw [HC1L.out, u8s_length, List.length_replicate]; omega) (by rw [HC1.out]; exact u8s_one _) ?_; intro w2 hrow2 ht2)
  all_goals
    (try rw [HC1L.out])
    have HT2 : Hid (Touch NoS w w2) := HT1.out.drew.at_new ht2 (Nat.le_refl _)
    have hb2 : Blk w2 g 99 (rgCells b M s K) := HB.out.touch HT2.out (fun h => h)
    have c0 := hb2.cell 0
    simp [rgCells] at c0
    have HROWB : Hid (Blk w2 b 5 (u8s buf).toArray) := HROW.out.touch HT2.out (fun h => h)
    have HROW2 := Lib.hid hrow2
    have HRD2 : Hid (Rd w2.drew (some ⟨b, 0, none⟩) C2) := by
      show Rd w2.drew _ _
      rw [HC2.out]
      intro _
      refine ⟨b, 0, rfl, HROWB.out.lt, fun j u hu => ?_⟩
      rw [HROWB.out.drew.cell]
      simp only [u8s, List.map_take, List.getElem?_take] at hu
      split at hu
      · simpa [u8s] using hu
      · cases hu
    have HBUF : Hid ((splice (u8s (List.replicate k 0)) 0 C1).length = k) := by show (splice (u8s (List.replicate k 0)) 0 C1).length = k; rw [length_splice _ _ _ (by rw [HC1L.out, u8s_length, List.length_replicate]; omega), u8s_length, List.length_replicate]
    have HFIN : Hid (splice (splice (u8s (List.replicate k 0)) 0 C1) n1 C2 = u8s (l.take k)) := by
      show splice (splice (u8s (List.replicate k 0)) 0 C1) n1 C2 = u8s (l.take k)
      have e1 : splice (u8s (List.replicate k 0)) 0 C1 = C1 ++ (u8s (List.replicate k 0)).drop n1 := by simp [splice, HC1L.out]
      have e2 : splice (C1 ++ (u8s (List.replicate k 0)).drop n1) n1 C2 = C1 ++ C2 := by
        unfold splice
        rw [List.take_left' HC1L.out, HC2L.out, List.drop_eq_nil_of_le (by rw [List.length_append, HC1L.out, List.length_drop, u8s_length, List.length_replicate]; omega), List.append_nil]
      rw [e1, e2, HC1.out, HC2.out, ← u8s_append, rc_peek buf M s k n1 HMM.out hs (by omega) HN1.out, ← HRC.out, rc_take _ _ _ _ hkK]
    clear hb2 hrow2 ht2 HT1 HB1 HROW1 HRD1 HN c1
    go_wp2_with fail
    by_cases hnn : n1 = k
    · subst hnn
      have HC20 : Hid (C2 = []) := by show C2 = []; exact List.eq_nil_of_length_eq_zero (by rw [HC2L.out]; omega)
      go_region_law (refine step_copy_at rfl (.tmp 29) (.tmp 33) 36 36 rfl 5 Try.underlying36 u8_info1r _ (some ⟨b, 0, none⟩) _ _ M M rfl rfl w.heap.size n1 (splice (u8s (List.replicate n1 0)) 0 C1) 5 HROW2.out.drew [] (by simp) (by simp) (Rd.nil_ _ _) (by rw [HBUF.out]; simp) (by simp) ?_; intro w3 hrow3 ht3)
      all_goals
        go_wp2_with fail
        go_ret
        refine ⟨w.heap.size, rfl, Nat.le_refl _, ?_, HT2.out.drew.at_new ht3 (Nat.le_refl _)⟩
        have hf := HFIN.out
        rw [HC20.out] at hf
        rw [← hf]
        exact hrow3
    · have hnn2 : ¬ k = n1 := fun h => hnn h.symm
      go_region_law (refine step_copy_at rfl (.tmp 29) (.tmp 33) 36 36 rfl 5 Try.underlying36 u8_info1r (some ⟨w.heap.size, n1, none⟩) (some ⟨b, 0, none⟩) (k - n1) (k - n1) M M rfl rfl w.heap.size n1 (splice (u8s (List.replicate k 0)) 0 C1) 5 HROW2.out.drew C2 (by rw [HC2L.out]; exact (Nat.min_eq_right (by omega)).symm) (fun _ => rfl) HRD2.out (by rw [HC2L.out, HBUF.out]; omega) (by rw [HC2.out]; exact u8s_one _) ?_; intro w3 hrow3 ht3)
      all_goals
        go_wp2_with fail
        go_ret
        refine ⟨w.heap.size, rfl, Nat.le_refl _, ?_, HT2.out.drew.at_new ht3 (Nat.le_refl _)⟩
        have hf := HFIN.out
        rw [← hf]
        exact hrow3

set_option maxHeartbeats 3200000 in
set_option maxRecDepth 100000 in
theorem rg_take (g b M : Nat) (l : List Int) (n : Int) (w : World) (h : IsR w g b M l) :
    Calls Try.prog 37 #[.pointer (some ⟨g, 0, none⟩), .int .i64 n] w fun e w' => ∃ g2, e = .returned (.slice (some ⟨g2, 0, none⟩) (pk n l.length) (pk n l.length)) ∧ w.heap.size ≤ g2 ∧ Blk w' g2 5 (u8s (l.take (pk n l.length))).toArray ∧ IsR w' g b M (l.drop (pk n l.length)) ∧ Touch (At g) w w' := by
  have HPK := Lib.hid (rg_peek g b M l n w h)
  obtain ⟨s, buf, hb, hrow, hM, hbin, hs, hMm, hl, hrc⟩ := h
  obtain ⟨K, hK⟩ : ∃ K, K = l.length := ⟨_, rfl⟩
  obtain ⟨k, hk⟩ : ∃ k, k = pk n K := ⟨_, rfl⟩
  have hkK : k ≤ K := by rw [hk]; exact pk_le _ _
  rw [← hK, ← hk] at HPK ⊢
  rw [← hK] at hb hl hrc
  have HKK := Lib.hid hK
  obtain ⟨E, hE⟩ : ∃ E, E = wrp M (s + k) := ⟨_, rfl⟩
  have HEE := Lib.hid hE
  have hEM : E < M := by rw [hE]; exact wrp_lt (by omega) (by omega)
  have hmod : ((s : Int) + k).tmod M = (E : Int) := by
    rw [hE, ← wrp_mod (by omega) (by omega)]
    exact (Int.ofNat_tmod (s + k) M).symm
  have HRC := Lib.hid hrc
  have HMM := Lib.hid hM
  have HB := Lib.hid hb
  have HROW := Lib.hid hrow
  clear hb hrow hK hk hE hrc hM
  go_enter Try.func37, Try.ntmps37
  go_wp2_with fail
  refine HPK.out.mono ?_
  rintro e w1 ⟨g2, rfl, hg2, hrow2, ht⟩
  have hb1 : Blk w1 g 99 (rgCells b M s K) := HB.out.touch ht (fun h => h)
  have c0 := hb1.cell 0
  have c1 := hb1.cell 1
  have c2 := hb1.cell 2
  have f1 := hb1.frozen 1
  have f2 := hb1.frozen 2
  have glt := hb1.lt
  simp [rgCells] at c0 c1 c2
  have HB1 := Lib.hid hb1
  have HR2 := Lib.hid hrow2
  have HT := Lib.hid ht
  clear hb1 hrow2 ht HPK
  go_wp2_with fail
  go_region
  all_goals
    go_wp2_with fail
    go_ret
    have hbg : g ≠ b := HB.out.ne_ HROW.out (by decide)
    have hlt := HB.out.lt
    have hg2g : g2 ≠ g := by omega
    have hlen : (l.drop k).length = K - k := by rw [List.length_drop, ← HKK.out]
    refine ⟨g2, rfl, hg2, ((HR2.out.far hg2g _).far hg2g _).drew, ⟨E, buf, ?_, ?_, HMM.out, hbin, hEM, hMm, by rw [hlen]; omega, ?_⟩, ((HT.out.of_no.setAt 1 _).setAt 2 _).drew⟩
    · rw [hlen]
      have := ((HB1.out.set_ 1 (.int .i64 E)).set_ 2 (.int .i64 ((K : Int) - k))).drew
      rw [← Int.ofNat_sub hkK] at this ⊢
      simpa [rgCells] using this
    · exact ((((HROW.out.touch HT.out (fun h => h))).far (Ne.symm hbg) _).far (Ne.symm hbg) _).drew
    · have := rc_drop buf M s k K HMM.out hs hl hkK
      rw [HRC.out, ← HEE.out] at this
      rw [hlen]
      exact this.symm
end Go.Proofs.Ytpadlcllcmodaaa
