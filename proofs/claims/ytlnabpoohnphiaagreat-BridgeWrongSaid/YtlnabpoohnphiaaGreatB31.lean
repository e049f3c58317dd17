/- bridge: two legs, acts that touch a leg's types alone. | The queue's small functions: Len, Size, Room, New, first. -/
import Derived.Test.YtlnabpoohnphiaaGreatB26
import Derived.Test.YtlnabpoohnphiaaGreatB30
import Derived.Test.YtlnabpoohnphiaaGreatB01
import Derived.Test.YtlnabpoohnphiaaGreatB13
import Derived.Test.YtlnabpoohnphiaaGreatProg
import Derived.KernelRfl
import Derived.BigQuiet
import Derived.Deep.QuietTactic
import Derived.RegionTactic
import Derived.ChangeAlike
import Derived.Deep.RegionLawGrows
import Derived.BigRegion
/- bridge: two legs, acts that touch a leg's types alone. -/
namespace Go.Proofs.YtlnabpoohnphiaaGreat
open Go.RowKit
set_option linter.unusedSimpArgs false
set_option linter.unusedVariables false

/-- Only blocks of these types may have changed. -/
def ByT (T : TypeId → Prop) (w w' : World) : Prop := ∃ S, Touch S w w' ∧ ∀ b, S b → ∃ t cs, Blk w b t cs ∧ T t
def LegT (t : TypeId) : Prop := ¬ Outer t
section
variable {T : TypeId → Prop} {w w' w0 : World}
theorem ByT.not (h : ∃ S, Touch S w w' ∧ ∀ b, S b → ∃ t cs, Blk w b t cs ∧ T t) {g : Nat} {t : TypeId} {cs : Array Value} (hb : Blk w g t cs) (ht : ¬ T t) : Blk w' g t cs := by
  obtain ⟨S, k, hS⟩ := h
  refine hb.touch k fun hs => ?_
  obtain ⟨t2, cs2, hb2, hT⟩ := hS g hs
  exact hb.ne_ hb2 (fun e => ht (e ▸ hT)) rfl
theorem ByT.blk (h : ByT T w w') {g : Nat} {t : TypeId} {cs : Array Value} (hb : Blk w g t cs) (ht : ¬ T t) : Blk w' g t cs := ByT.not h hb ht
theorem ByT.row (h : ByT T w w') {e : TypeId} {A : Option Addr} {xs : List Value} (hr : Row w e A xs) (he : ¬ T e) : Row w' e A xs := by
  obtain ⟨S, k, hS⟩ := h
  refine hr.touch k fun g cs hb hs => ?_
  obtain ⟨t2, cs2, hb2, hT⟩ := hS g hs
  exact hb.ne_ hb2 (fun e => he (e ▸ hT)) rfl
theorem ByT.own (h : ByT T w w') {base : Nat} {e : TypeId} {size n : Nat} {v : Value} {xs : List Value} (ho : w.ownsRow base e size v n xs) (he : ¬ T e) : w'.ownsRow base e size v n xs := by
  obtain ⟨S, k, hS⟩ := h
  refine own_touch ho k fun b hb hs => ?_
  obtain ⟨cs, hc⟩ := own_type ho hb
  obtain ⟨t2, cs2, hb2, hT⟩ := hS b hs
  exact hc.ne_ hb2 (fun e => he (e ▸ hT)) rfl
theorem ByT.size (h : ByT T w w') : w.heap.size ≤ w'.heap.size := by
  obtain ⟨S, k, hS⟩ := h
  exact k.size
theorem ByT.no (h : Touch NoS w w') : ByT T w w' := ⟨NoS, h, fun b hb => hb.elim⟩
theorem ByT.at_ {g : Nat} {t : TypeId} {cs : Array Value} (k : Touch (At g) w w') (hb : Blk w g t cs) (ht : T t) : ByT T w w' := ⟨At g, k, fun b (hb' : b = g) => by subst hb'; exact ⟨t, cs, hb, ht⟩⟩
end
theorem out_not {t : TypeId} (h : Outer t) : ¬ LegT t := fun hn => hn h
theorem LAct.byT {w w' : World} {g : Nat} {k : Lk} {L L' : Lg} {V : LV} (a : LAct w w' g k V L') (h : IsL w g k L V) : ByT LegT w w' := by
  obtain ⟨V', -, -, t⟩ := a
  refine ⟨LF g k V, t, fun b hb => ?_⟩
  obtain ⟨t', cs, hc, ht⟩ := h.type hb
  refine ⟨t', cs, hc, fun ho => ?_⟩
  exact h.outer hc ho hb
theorem IsL.out_act2 {w w' : World} {g : Nat} {k : Lk} {L : Lg} {V : LV} (h : IsL w g k L V) {o' : Ou} {sent' got' : Bool} {wrong' : Int} {vt' vc' vr' : Value} (h' : OutH w' g k o' sent' got' wrong' vt' vc' vr') (ht : Touch (OA g k V.vc) w w') (l1 : Loc w V.vt vt') (l2 : Loc w V.vc vc') (l3 : Loc w V.vr vr') (ha : Apart vc' vr') :
    IsL w' g k { L with o := o', sent := sent', got := got', wrong := wrong' } { V with vt := vt', vc := vc', vr := vr' } ∧ LLoc w V { V with vt := vt', vc := vc', vr := vr' } ∧ Touch (LF g k V) w w' := by
  obtain ⟨c1, c2, q1, q2⟩ := h.out.ring.blk
  have hT : ∀ (t : TypeId) (cs : Array Value) (b : Nat), Blk w b t cs → t ≠ 109 → t ≠ 145 → t ≠ 42 → (t = 5 → b ≠ k.rb) → ¬ OA g k V.vc b := by
    intro t cs b hb t1 t2 t3 t4 hS
    rcases hS with (hS | hS | hS) | hS
    · exact hb.ne_ h.out.blk t1 hS
    · exact hb.ne_ q1 t2 hS
    · by_cases ht : t = 5
      · exact t4 ht hS
      · exact hb.ne_ q2 ht hS
    · obtain ⟨cs', hc⟩ := h.out.ctl.type hS
      exact hb.ne_ hc t3 rfl
  refine ⟨⟨h', ?_, ?_, h.good, h.sm, ?_, h.sr, ?_, h.mr, ha⟩, ⟨Loc.refl _ _, Loc.refl _ _, l1, l2, l3⟩, ?_⟩
  · refine h.ins.touch ht (hT _ _ _ h.ins.1 (by decide) (by decide) (by decide) (fun e => absurd e (by decide))) fun b hb => ?_
    obtain ⟨cs, hc⟩ := own_type h.ins.2 hb
    exact hT _ _ _ hc (by decide) (by decide) (by decide) fun _ e => h.sr (by rw [← e]; exact hb)
  · refine h.mac.touch ht (hT _ _ _ h.mac.1 (by decide) (by decide) (by decide) (fun e => absurd e (by decide))) (hT _ _ _ h.mac.2.2 (by decide) (by decide) (by decide) (fun e => absurd e (by decide))) fun b hb => ?_
    obtain ⟨cs, hc⟩ := own_type h.mac.2.1 hb
    exact hT _ _ _ hc (by decide) (by decide) (by decide) fun _ e => h.mr (by rw [← e]; exact hb)
  · exact l1.apart_r h.st fun b hb => h.lt (by simp [LF, hb])
  · exact l1.apart_r h.mt fun b hb => h.lt (by simp [LF, hb])
  · refine ht.mono fun b hb => ?_
    rcases hb with (hb | hb | hb) | hb
    · simp [LF, hb]
    · simp [LF, hb]
    · simp [LF, hb]
    · simp [LF, hb]
set_option maxHeartbeats 6400000 in
set_option maxRecDepth 100000 in
theorem l_take2 {w : World} {g : Nat} {k : Lk} {L : Lg} {V : LV} (h : IsL w g k L V) (n : Int) : Calls Tryz.prog 41 #[.pointer (some ⟨g, 0, none⟩), .int .i64 n] w fun e w' =>
    ∃ g2, e = .returned (.slice (some ⟨g2, 0, none⟩) (pk n L.o.ring.length) (pk n L.o.ring.length)) ∧ w.heap.size ≤ g2 ∧ Blk w' g2 5 (u8s (L.o.ring.take (pk n L.o.ring.length))).toArray ∧
      (∃ V', IsL w' g k (L.take k n) V' ∧ LLoc w V V' ∧ ¬ LF g k V' g2) ∧ Touch (LF g k V) w w' := by
  have hb := h.out.blk
  have c1 := hb.cell 14
  simp [lgCells] at c1
  have HP := Lib.hid (rg_take _ _ _ _ n w h.out.ring)
  have H := Lib.hid h
  clear hb h
  go_enter Tryz.func41, Tryz.ntmps41
  go_wp2_with fail
  refine HP.out.mono ?_
  rintro e w1 ⟨g2, rfl, h1, h2, h3, h4⟩
  obtain ⟨d1, d2, q1, q2⟩ := H.out.out.ring.blk
  have hS : ∀ (t : TypeId) (cs : Array Value) (b : Nat), Blk w b t cs → t ≠ 145 → ¬ At k.rg b := fun t cs b hc ht hS => hc.ne_ q1 ht hS
  have hg2 : g2 < w1.heap.size := h2.lt
  have ho : OutH w1 g k { L.o with ring := L.o.ring.drop (pk n L.o.ring.length) } L.sent L.got L.wrong V.vt V.vc V.vr :=
    ⟨H.out.out.blk.touch h4 (hS _ _ _ H.out.out.blk (by decide)), h3, H.out.out.tail.touch h4 (fun b hb => by
      obtain ⟨cs, hc⟩ := H.out.out.tail.type hb
      exact hS _ _ _ hc (by decide)), H.out.out.ctl.touch h4 (fun b hb => by
      obtain ⟨cs, hc⟩ := H.out.out.ctl.type hb
      exact hS _ _ _ hc (by decide)), H.out.out.rest.touch h4 (fun b hb => by
      obtain ⟨cs, hc⟩ := H.out.out.rest.type hb
      exact hS _ _ _ hc (by decide)), H.out.out.bytes, H.out.out.good, H.out.out.apart⟩
  have HO := Lib.hid ho
  have H2 := Lib.hid h2
  have H4 := Lib.hid h4
  have HG := Lib.hid h1
  clear ho h2 h3 h4 hS q1 q2 h1
  go_wp2_with fail
  refine (l_move g k _ _ _ _ _ _ _ w1 HO.out).mono ?_
  rintro e w2 ⟨vt', vc', vr', rfl, ho2, lt2, lc2, lr2, ht2⟩
  have htt : Touch (OA g k V.vc) w w2 := (H4.out.mono (fun i hi => Or.inl (Or.inr (Or.inl hi)))).trans (ht2.mono fun i hi => Or.inl hi)
  have ltt : Loc w V.vt vt' := fun b hb => by
    rcases lt2 b hb with q | q
    · exact .inl q
    · exact .inr (Nat.le_trans H4.out.size q)
  obtain ⟨hV', hl', hT'⟩ := H.out.out_act2 ho2 htt ltt (fun b hb => .inl (lc2 ▸ hb)) (fun b hb => .inl (lr2 ▸ hb)) (fun b hb hb' => H.out.cr b (lc2 ▸ hb) (lr2 ▸ hb'))
  have hbk : Blk w2 g2 5 (u8s (L.o.ring.take (pk n L.o.ring.length))).toArray := H2.out.touch ht2 fun hS => by
    have : g2 < w.heap.size := by
      rcases hS with rfl | rfl | rfl
      · exact H.out.out.blk.lt
      · exact H.out.out.ring.lt.1
      · exact H.out.out.ring.lt.2
    have := HG.out
    omega
  have hnf : ¬ LF g k { V with vt := vt', vc := vc', vr := vr' } g2 := fun hF => by
    have hold : ∀ b, LF g k V b → b < w.heap.size := fun b hb => H.out.lt hb
    have hg := HG.out
    unfold LF at hF
    rcases hF with hF | hF | hF | hF | hF | hF | hF | hF | hF | hF | hF
    · have := hold g (by simp [LF]); omega
    · have := hold k.sg (by simp [LF]); omega
    · have := hold k.mg (by simp [LF]); omega
    · have := hold k.mcu (by simp [LF]); omega
    · have := hold k.rg (by simp [LF]); omega
    · have := hold k.rb (by simp [LF]); omega
    · have := hold g2 (by simp [LF]; exact .inr (.inr (.inr (.inr (.inr (.inr (.inl hF))))))); omega
    · have := hold g2 (by simp [LF]; exact .inr (.inr (.inr (.inr (.inr (.inr (.inr (.inl hF)))))))); omega
    · rcases lt2 g2 hF with q | q
      · have := hold g2 (by simp [LF]; exact .inr (.inr (.inr (.inr (.inr (.inr (.inr (.inr (.inl q))))))))); omega
      · omega
    · have hF2 : V.vc.ownBlock = some g2 := lc2 ▸ hF
      have := hold g2 (by simp [LF]; exact .inr (.inr (.inr (.inr (.inr (.inr (.inr (.inr (.inr (.inl hF2)))))))))); omega
    · have hF2 : V.vr.ownBlock = some g2 := lr2 ▸ hF
      have := hold g2 (by simp [LF]; exact .inr (.inr (.inr (.inr (.inr (.inr (.inr (.inr (.inr (.inr hF2)))))))))); omega
  have HNF := Lib.hid hnf
  have HV := Lib.hid hV'
  have HLC := Lib.hid hl'
  have HTT := Lib.hid hT'
  have HBK := Lib.hid hbk
  clear ho2 htt ltt hV' hl' hT' hbk lt2 lc2 lr2 ht2 hnf
  go_wp2_with fail
  go_ret
  refine ⟨g2, rfl, HG.out, HBK.out, ⟨_, HV.out, HLC.out, HNF.out⟩, HTT.out⟩
/-- All but E may have changed. -/
def Non (E : Nat → Prop) (b : Nat) : Prop := ¬ E b
/-- Both legs; no block of E is theirs. -/
def Legs (E : Nat → Prop) (w : World) (gl : Bool → Nat) (k : Bool → Lk) (L : Bool → Lg) : Prop :=
  ∃ V : Bool → LV, (∀ i, IsL w (gl i) (k i) (L i) (V i)) ∧ (∀ b, LF (gl false) (k false) (V false) b → ¬ LF (gl true) (k true) (V true) b) ∧ (∀ i b, LF (gl i) (k i) (V i) b → ¬ E b) ∧ (∀ b, E b → b < w.heap.size)
def upd {α : Type} (f : Bool → α) (i : Bool) (x : α) : Bool → α := fun j => if j = i then x else f j
theorem upd_same {α : Type} (f : Bool → α) (i : Bool) (x : α) : upd f i x i = x := if_pos rfl
theorem upd_other {α : Type} (f : Bool → α) (i : Bool) (x : α) : upd f i x (!i) = f (!i) := if_neg (by cases i <;> decide)
section
variable {E : Nat → Prop} {w w' w0 : World} {gl : Bool → Nat} {k : Bool → Lk} {L : Bool → Lg}
theorem Legs.two (h : LgTwo w0 w (gl false) (k false) (L false) (gl true) (k true) (L true)) : Legs (fun b => b < w0.heap.size) w gl k L := by
  obtain ⟨V1, V2, i1, i2, hd, f1, f2, t⟩ := h
  refine ⟨fun i => if i = true then V2 else V1, fun i => ?_, hd, fun i b hb he => ?_, fun b hb => Nat.lt_of_lt_of_le hb t.size⟩
  · cases i
    · exact i1
    · exact i2
  · cases i
    · have := f1 b hb
      omega
    · have := f2 b hb
      omega
theorem Legs.apart {V : Bool → LV} (h : ∀ b, LF (gl false) (k false) (V false) b → ¬ LF (gl true) (k true) (V true) b) (i : Bool) : ∀ b, LF (gl i) (k i) (V i) b → ¬ LF (gl (!i)) (k (!i)) (V (!i)) b := by
  cases i
  · exact h
  · exact fun b h1 h2 => h b h2 h1
/-- One of them does something. -/
theorem Legs.act {V : Bool → LV} (hi : ∀ i, IsL w (gl i) (k i) (L i) (V i)) (hd : ∀ b, LF (gl false) (k false) (V false) b → ¬ LF (gl true) (k true) (V true) b) (hE : ∀ i b, LF (gl i) (k i) (V i) b → ¬ E b) (hl : ∀ b, E b → b < w.heap.size)
    (i : Bool) {L1 : Lg} (a : LAct w w' (gl i) (k i) (V i) L1) : Legs E w' gl k (upd L i L1) ∧ Touch (Non E) w w' := by
  obtain ⟨V', j, l, t⟩ := a
  have hd' := Legs.apart hd i
  have hother : IsL w' (gl (!i)) (k (!i)) (L (!i)) (V (!i)) := (hi (!i)).touch t fun b hb hs => hd' b hs hb
  have hnew : ∀ b, LF (gl i) (k i) V' b → LF (gl i) (k i) (V i) b ∨ w.heap.size ≤ b := fun b hb => LF_loc l hb
  have hap : ∀ b, LF (gl i) (k i) V' b → ¬ LF (gl (!i)) (k (!i)) (V (!i)) b := fun b hb hb2 => by
    rcases hnew b hb with h | h
    · exact hd' b h hb2
    · have := (hi (!i)).lt hb2
      omega
  have hEn : ∀ b, LF (gl i) (k i) V' b → ¬ E b := fun b hb he => by
    rcases hnew b hb with h | h
    · exact hE i b h he
    · have := hl b he
      omega
  refine ⟨⟨upd V i V', fun m => ?_, ?_, fun m b hb => ?_, fun b hb => Nat.lt_of_lt_of_le (hl b hb) t.size⟩, t.mono fun b hb => hE i b hb⟩
  · cases i <;> cases m
    · exact j
    · exact hother
    · exact hother
    · exact j
  · cases i
    · exact hap
    · exact fun b h1 h2 => hap b h2 h1
  · cases i <;> cases m
    · exact hEn b hb
    · exact hE true b hb
    · exact hE false b hb
    · exact hEn b hb
theorem Legs.no (h : Legs E w gl k L) (t : Touch NoS w w') : Legs E w' gl k L := by
  obtain ⟨V, hi, hd, hE, hl⟩ := h
  exact ⟨V, fun i => (hi i).no t, hd, hE, fun b hb => Nat.lt_of_lt_of_le (hl b hb) t.size⟩
/-- What is made anew is not theirs. -/
theorem Legs.grow (h : Legs E w gl k L) (t : Touch NoS w w') : Legs (fun b => E b ∨ (w.heap.size ≤ b ∧ b < w'.heap.size)) w' gl k L := by
  obtain ⟨V, hi, hd, hE, hl⟩ := h
  refine ⟨V, fun i => (hi i).no t, hd, fun i b hb he => ?_, fun b hb => ?_⟩
  · rcases he with he | he
    · exact hE i b hb he
    · have := (hi i).lt hb
      omega
  · rcases hb with hb | hb
    · exact Nat.lt_of_lt_of_le (hl b hb) t.size
    · exact hb.2
theorem Legs.less {E' : Nat → Prop} (h : Legs E w gl k L) (he : ∀ b, E' b → E b) : Legs E' w gl k L := by
  obtain ⟨V, hi, hd, hE, hl⟩ := h
  exact ⟨V, hi, hd, fun i b hb h => hE i b hb (he b h), fun b hb => hl b (he b hb)⟩
theorem Legs.outer {S : Nat → Prop} (h : Legs E w gl k L) (t : Touch S w w') (hS : ∀ b, S b → ∃ t cs, Blk w b t cs ∧ Outer t) : Legs E w' gl k L := by
  obtain ⟨V, hi, hd, hE, hl⟩ := h
  refine ⟨V, fun i => (hi i).touch t fun b hb hs => ?_, hd, hE, fun b hb => Nat.lt_of_lt_of_le (hl b hb) t.size⟩
  obtain ⟨t', cs, hc, ho⟩ := hS b hs
  exact (hi i).outer hc ho hb
theorem Legs.lt (h : Legs E w gl k L) {b : Nat} (hb : E b) : b < w.heap.size := by
  obtain ⟨V, hi, hd, hE, hl⟩ := h
  exact hl b hb
variable (i : Bool)
theorem lb_feed (h : Legs E w gl k L) (hk : (k i).message ≤ 65536) (hok : (L i).ok (k i)) (b : List Int) (A2 : Option Addr) (n cap : Nat) (hn : b.length = n) (hr : Rd w A2 (u8s b)) (hin : bytesIn b) (hc : (L i).o.ctl.length + (L i).part.length + n ≤ 900000) :
    Calls Tryz.prog 59 #[.pointer (some ⟨gl i, 0, none⟩), .slice A2 n cap] w fun e w' => ∃ A c, e = .returned (.slice A ((L i).feed (k i) b).2.length c) ∧ w'.ownsRow w.heap.size 37 3 (.slice A ((L i).feed (k i) b).2.length c) ((L i).feed (k i) b).2.length (evCells ((L i).feed (k i) b).2) ∧ Legs E w' gl k (upd L i ((L i).feed (k i) b).1) ∧ Touch (Non E) w w' ∧ ByT LegT w w' := by
  obtain ⟨V, hi, hd, hE, hl⟩ := h
  refine (l_feed (hi i) hk hok b A2 n cap hn hr hin hc).mono ?_
  rintro e w' ⟨A, c, rfl, ho, a⟩
  obtain ⟨q1, q2⟩ := Legs.act hi hd hE hl i a
  exact ⟨A, c, rfl, ho, q1, q2, a.byT (hi i)⟩
theorem lb_take (h : Legs E w gl k L) (n : Int) : Calls Tryz.prog 41 #[.pointer (some ⟨gl i, 0, none⟩), .int .i64 n] w fun e w' =>
    ∃ g, e = .returned (.slice (some ⟨g, 0, none⟩) (pk n (L i).o.ring.length) (pk n (L i).o.ring.length)) ∧ w.heap.size ≤ g ∧ Blk w' g 5 (u8s ((L i).o.ring.take (pk n (L i).o.ring.length))).toArray ∧ Legs (fun b => E b ∨ b = g) w' gl k (upd L i ((L i).take (k i) n)) ∧ Touch (Non E) w w' ∧ ByT LegT w w' := by
  obtain ⟨V, hi, hd, hE, hl⟩ := h
  refine (l_take2 (hi i) n).mono ?_
  rintro e w' ⟨g2, rfl, q1, q2, ⟨V', q3, q4, q5⟩, t⟩
  have hlt := q2.lt
  have hd' := Legs.apart hd i
  have hother : IsL w' (gl (!i)) (k (!i)) (L (!i)) (V (!i)) := (hi (!i)).touch t fun b hb hs => hd' b hs hb
  have hnew : ∀ b, LF (gl i) (k i) V' b → LF (gl i) (k i) (V i) b ∨ w.heap.size ≤ b := fun b hb => LF_loc q4 hb
  have hap : ∀ b, LF (gl i) (k i) V' b → ¬ LF (gl (!i)) (k (!i)) (V (!i)) b := fun b hb hb2 => by
    rcases hnew b hb with h | h
    · exact hd' b h hb2
    · have := (hi (!i)).lt hb2
      omega
  have hEn : ∀ b, LF (gl i) (k i) V' b → ¬ (E b ∨ b = g2) := fun b hb he => by
    rcases he with he | he
    · rcases hnew b hb with h | h
      · exact hE i b h he
      · have := hl b he
        omega
    · subst he
      exact q5 hb
  have hEo : ∀ b, LF (gl (!i)) (k (!i)) (V (!i)) b → ¬ (E b ∨ b = g2) := fun b hb he => by
    rcases he with he | he
    · exact hE (!i) b hb he
    · have := (hi (!i)).lt hb
      omega
  refine ⟨g2, rfl, q1, q2, ⟨upd V i V', fun m => ?_, ?_, fun m b hb => ?_, fun b hb => ?_⟩, t.mono fun b hb => hE i b hb, LAct.byT ⟨V', q3, q4, t⟩ (hi i)⟩
  · cases i <;> cases m
    · exact q3
    · exact hother
    · exact hother
    · exact q3
  · cases i
    · exact hap
    · exact fun b h1 h2 => hap b h2 h1
  · cases i <;> cases m
    · exact hEn b hb
    · exact hEo b hb
    · exact hEo b hb
    · exact hEn b hb
  · rcases hb with hb | hb
    · exact Nat.lt_of_lt_of_le (hl b hb) t.size
    · rw [hb]
      exact hlt
theorem lb_send (h : Legs E w gl k L) (op code : Int) (s : ByteArray) (hs : s.size ≤ maxLen) (hk : (k i).message ≤ 65536) (hf1 : 1 ≤ (k i).frame) (hf2 : (k i).frame ≤ 65536) :
    Calls Tryz.prog 68 #[.pointer (some ⟨gl i, 0, none⟩), .agg #[.int .i64 op, .int .i64 code, .string s]] w fun e w' => e = .returned (.bool ((L i).send (k i) op s).2) ∧ Legs E w' gl k (upd L i ((L i).send (k i) op s).1) ∧ Touch (Non E) w w' ∧ ByT LegT w w' := by
  obtain ⟨V, hi, hd, hE, hl⟩ := h
  refine (l_send (hi i) op code s hs hk hf1 hf2).mono ?_
  rintro e w' ⟨rfl, a⟩
  obtain ⟨q1, q2⟩ := Legs.act hi hd hE hl i a
  exact ⟨rfl, q1, q2, a.byT (hi i)⟩
theorem lb_close (h : Legs E w gl k L) (code : Int) (s : ByteArray) (hz : s.size ≤ maxLen) (hn : (L i).o.ctl.length ≤ 1000000) :
    Calls Tryz.prog 70 #[.pointer (some ⟨gl i, 0, none⟩), .int .i64 code, .string s] w fun e w' => e = .returned (.bool ((L i).close (k i) code s).2) ∧ Legs E w' gl k (upd L i ((L i).close (k i) code s).1) ∧ Touch (Non E) w w' ∧ ByT LegT w w' := by
  obtain ⟨V, hi, hd, hE, hl⟩ := h
  refine (l_close (hi i) code s hz hn).mono ?_
  rintro e w' ⟨rfl, a⟩
  obtain ⟨q1, q2⟩ := Legs.act hi hd hE hl i a
  exact ⟨rfl, q1, q2, a.byT (hi i)⟩
theorem lb_ping (h : Legs E w gl k L) (s : ByteArray) (hz : s.size ≤ maxLen) (hn : (L i).o.ctl.length ≤ 1000000) :
    Calls Tryz.prog 73 #[.pointer (some ⟨gl i, 0, none⟩), .string s] w fun e w' => e = .returned (.bool ((L i).ping (k i) s).2) ∧ Legs E w' gl k (upd L i ((L i).ping (k i) s).1) ∧ Touch (Non E) w w' ∧ ByT LegT w w' := by
  obtain ⟨V, hi, hd, hE, hl⟩ := h
  refine (l_ping (hi i) s hz hn).mono ?_
  rintro e w' ⟨rfl, a⟩
  obtain ⟨q1, q2⟩ := Legs.act hi hd hE hl i a
  exact ⟨rfl, q1, q2, a.byT (hi i)⟩
/-- What only reads. -/
theorem lb_side (h : Legs E w gl k L) : ∃ w0, LgAt w0 w (gl i) (k i) (L i) := by
  obtain ⟨V, hi, -⟩ := h
  refine ⟨{ w with heap := #[] }, V i, hi i, fun b _ => Nat.zero_le _, rfl, rfl, rfl, Nat.zero_le _, fun b hb => absurd hb (by simp)⟩
end
end Go.Proofs.YtlnabpoohnphiaaGreat
/- The queue's small functions: Len, Size, Room, New, first. -/
namespace Go.Proofs.YtlnabpoohnphiaaGreat
open Go.RowKit
set_option linter.unusedSimpArgs false
set_option linter.unusedVariables false

structure Qm where
  count : Int
  bytes : Int
  l : List Ev

/-- The queue at block g: what waits is q.l; its array lies in no block of N. -/
def IsQN (N : Nat → Prop) (w : World) (g : Nat) (q : Qm) : Prop :=
  ∃ A c, Blk w g 119 #[.int .i64 q.count, .int .i64 q.bytes, .slice A q.l.length c, .int .i64 (evSize q.l)] ∧ q.l.length ≤ c ∧ Row w 37 A (evCells q.l) ∧
    q.l.length ≤ 1024 ∧ evSize q.l ≤ 4194304 ∧ 0 ≤ q.count ∧ q.count ≤ 1024 ∧ 0 ≤ q.bytes ∧ q.bytes ≤ 4194304 ∧ ∀ a : Addr, A = some a → q.l ≠ [] → ¬ N a.block
abbrev IsQ := IsQN NoS
variable {N : Nat → Prop}

theorem len_at (g : Nat) (c b : Int) (A : Option Addr) (n cap : Nat) (s : Int) (w : World) (h : Blk w g 119 #[.int .i64 c, .int .i64 b, .slice A n cap, .int .i64 s]) :
    Calls Tryz.prog 51 #[.pointer (some ⟨g, 0, none⟩)] w fun e w' => e = .returned (.int .i64 n) ∧ w = w' := by
  have h2 := h.cell 2
  simp at h2
  go_enter Tryz.func51, Tryz.ntmps51
  go_wp2
  go_ret
  exact ⟨rfl, rfl⟩

theorem size_at (g : Nat) (c b : Int) (A : Option Addr) (n cap : Nat) (s : Int) (w : World) (h : Blk w g 119 #[.int .i64 c, .int .i64 b, .slice A n cap, .int .i64 s]) :
    Calls Tryz.prog 52 #[.pointer (some ⟨g, 0, none⟩)] w fun e w' => e = .returned (.int .i64 s) ∧ w = w' := by
  have h2 := h.cell 3
  simp at h2
  go_enter Tryz.func52, Tryz.ntmps52
  go_wp2
  go_ret
  exact ⟨rfl, rfl⟩

def roomB (c b : Int) (n : Nat) (s x : Int) : Bool := decide ((n : Int) < c) && (decide (0 ≤ x) && decide (x ≤ b - s))

set_option maxHeartbeats 400000 in
theorem room_at (g : Nat) (c b : Int) (A : Option Addr) (n cap : Nat) (s x : Int) (w : World) (h : Blk w g 119 #[.int .i64 c, .int .i64 b, .slice A n cap, .int .i64 s])
    (b0 : 0 ≤ b) (b1 : b ≤ 4194304) (s0 : 0 ≤ s) (s1 : s ≤ 4194304) :
    Calls Tryz.prog 39 #[.pointer (some ⟨g, 0, none⟩), .int .i64 x] w fun e w' => e = .returned (.bool (roomB c b n s x)) ∧ ∃ k, w' = w.drewN k := by
  have h0 := h.cell 0
  have h1 := h.cell 1
  have h2 := h.cell 2
  have h3 := h.cell 3
  simp at h0 h1 h2 h3
  by_cases t1 : (n : Int) < c
  · by_cases t2 : 0 ≤ x
    · have hr : roomB c b n s x = decide (x ≤ b - s) := by simp [roomB, t1, t2]
      rw [hr]
      clear hr
      go_enter Tryz.func39, Tryz.ntmps39
      go_wp2
      go_quiet ((go_at_call 51; refine Calls.quiet_of_same ((len_at g c b A n cap s _ ?_).mono fun _ _ h => ⟨h.1, h.2.symm⟩); exact h))
      go_wp2
      go_ret
      exact ⟨rfl, _, rfl⟩
    · have hr : roomB c b n s x = false := by simp [roomB, t1, t2]
      rw [hr]
      clear hr
      have t2' : decide (0 ≤ x) = false := by simpa using t2
      go_enter Tryz.func39, Tryz.ntmps39
      go_wp2
      go_quiet ((go_at_call 51; refine Calls.quiet_of_same ((len_at g c b A n cap s _ ?_).mono fun _ _ h => ⟨h.1, h.2.symm⟩); exact h))
      go_wp2
      go_ret
      exact ⟨rfl, _, rfl⟩
  · have hr : roomB c b n s x = false := by simp [roomB, t1]
    rw [hr]
    clear hr
    have t1' : decide ((n : Int) < c) = false := by simpa using t1
    go_enter Tryz.func39, Tryz.ntmps39
    go_wp2
    go_quiet ((go_at_call 51; refine Calls.quiet_of_same ((len_at g c b A n cap s _ ?_).mono fun _ _ h => ⟨h.1, h.2.symm⟩); exact h))
    go_wp2
    go_ret
    exact ⟨rfl, _, rfl⟩

theorem new_bad (c b : Int) (w : World) (h : ¬ (1 ≤ c ∧ c ≤ 1024 ∧ 1 ≤ b ∧ b ≤ 4194304)) :
    Calls Tryz.prog 33 #[.int .i64 c, .int .i64 b] w fun e w' => e = .returned (.tuple #[.pointer none, .int .i64 140]) ∧ w = w' := by
  by_cases h1 : c < 1
  · go_enter Tryz.func33, Tryz.ntmps33
    go_wp2
    go_ret2
    exact ⟨rfl, rfl⟩
  by_cases h2 : 1024 < c
  · go_enter Tryz.func33, Tryz.ntmps33
    go_wp2
    go_ret2
    exact ⟨rfl, rfl⟩
  by_cases h3 : b < 1
  · go_enter Tryz.func33, Tryz.ntmps33
    go_wp2
    go_ret2
    exact ⟨rfl, rfl⟩
  have h4 : 4194304 < b := by omega
  go_enter Tryz.func33, Tryz.ntmps33
  go_wp2
  go_ret2
  exact ⟨rfl, rfl⟩

theorem new_good (c b : Int) (w : World) (h1 : 1 ≤ c) (h2 : c ≤ 1024) (h3 : 1 ≤ b) (h4 : b ≤ 4194304) :
    Calls Tryz.prog 33 #[.int .i64 c, .int .i64 b] w fun e w' => e = .returned (.tuple #[.pointer (some ⟨w.heap.size, 0, none⟩), .int .i64 0]) ∧ IsQN N w' w.heap.size ⟨c, b, []⟩ ∧ Touch NoS w w' := by
  go_enter Tryz.func33, Tryz.ntmps33
  go_wp2
  go_ret2
  exact ⟨rfl, ⟨none, 0, Blk.new _ _ _, by simp, Row.nil_ _ _ _, by simp, by simp [evSize], by simp; omega, h2, by simp; omega, h4, fun a h => by cases h⟩, (Touch.refl _ _).alloc _⟩

theorem first_none (g : Nat) (c b : Int) (A : Option Addr) (cap : Nat) (s : Int) (w : World) (h : Blk w g 119 #[.int .i64 c, .int .i64 b, .slice A 0 cap, .int .i64 s]) :
    Calls Tryz.prog 89 #[.pointer (some ⟨g, 2, none⟩)] w fun e w' => e = .returned (.tuple #[Ev.zero.val, .bool false]) ∧ Touch NoS w w' := by
  have h2 := h.cell 2
  have hg := h.lt
  simp at h2
  go_enter Tryz.func89, Tryz.ntmps89
  go_wp2
  exact bodyPost_ret (v := .tuple #[Ev.zero.val, .bool false]) (by simp [results, Tryz.results89, go_sem, Ev.val, Ev.zero]) rfl ⟨rfl, ((Touch.refl _ _).alloc _).alloc _⟩

theorem first_some (g : Nat) (c b : Int) (A : Option Addr) (n cap : Nat) (s : Int) (e0 : Ev) (l : List Ev) (w : World) (h : Blk w g 119 #[.int .i64 c, .int .i64 b, .slice A n cap, .int .i64 s])
    (hl : l.length + 1 = n) (hr : Row w 37 A (evCells (e0 :: l))) :
    Calls Tryz.prog 89 #[.pointer (some ⟨g, 2, none⟩)] w fun e w' => e = .returned (.tuple #[e0.val, .bool true]) ∧ Touch NoS w w' := by
  have h2 := h.cell 2
  have hg := h.lt
  simp at h2
  obtain ⟨g', off, cs, rfl, hb, hc⟩ := hr (by simp [evCells, Ev.cs])
  have c0 := (hb.cell off).trans (hc 0 (.int .i64 e0.op) (by simp [evCells, Ev.cs]))
  have c1 := (hb.cell (off + 1)).trans (hc 1 (.int .i64 e0.code) (by simp [evCells, Ev.cs]))
  have c2 := (hb.cell (off + 2)).trans (hc 2 (.string e0.data) (by simp [evCells, Ev.cs]))
  have hg' := hb.lt
  have hn : ((n : Int) == 0) = false := by simp; omega
  have hn0 : 0 < n := by omega
  clear hc hl
  go_enter Tryz.func89, Tryz.ntmps89
  go_wp2
  exact bodyPost_ret (v := .tuple #[e0.val, .bool true]) (by simp [results, Tryz.results89, go_sem, Ev.val]) rfl ⟨rfl, ((Touch.refl _ _).alloc _).alloc _⟩

theorem push_at (g : Nat) (c b : Int) (A : Option Addr) (cap : Nat) (s : Int) (l : List Ev) (x : Ev) (w : World) (h : Blk w g 119 #[.int .i64 c, .int .i64 b, .slice A l.length cap, .int .i64 s])
    (hlc : l.length ≤ cap) (hl : l.length ≤ 1024) (hr : Row w 37 A (evCells l)) :
    Calls Tryz.prog 84 #[.pointer (some ⟨g, 2, none⟩), x.val] w fun e w' => e = .returned (.tuple #[]) ∧ Touch (At g) w w' ∧
      ∃ A' c', Blk w' g 119 #[.int .i64 c, .int .i64 b, .slice A' (l ++ [x]).length c', .int .i64 s] ∧ (l ++ [x]).length ≤ c' ∧ Row w' 37 A' (evCells (l ++ [x])) ∧ ∀ a : Addr, A' = some a → w.heap.size ≤ a.block := by
  obtain ⟨i0, hi, hz0, hz1, hz2⟩ := info_parts info_ev
  have h2 := h.cell 2
  have hg := h.lt
  simp at h2
  unfold Ev.val
  go_enter Tryz.func84, Tryz.ntmps84
  have H2 : Hid (∀ W, Touch NoS w W → ∀ b, A = some b → ∀ j u, (evCells l)[j]? = some u → W.cell? (b.add j) = some u) := fun W hW => hr.cells hW
  have H3 : Hid (∀ (W : World) (n : Nat), n = W.heap.size → ∀ j u, x.cs[j]? = some u → (W.alloc (.cells #[.int .i64 x.op, .int .i64 x.code, .string x.data] 37)).drew.cell? ((⟨n, 0, none⟩ : Addr).add j) = some u) := fun W n hn => new_cells W _ x.cs _ hn
  have H4 : Hid (∀ u ∈ x.cs, u.oneCell' = true) := by unfold Hid; have := evCells_one [x]; simpa [evCells] using this
  have H5 : Hid (evCells l ++ x.cs = evCells (l ++ [x])) := by simp [Hid, evCells]
  have H1 : Hid (A = none → l.length = 0 ∧ l.length = 0) := by
    intro hA
    have : l.length = 0 := by
      rcases l with _ | ⟨e, l⟩
      · rfl
      · obtain ⟨g', off, cs, h', _⟩ := hr (by simp [evCells, Ev.cs])
        rw [hA] at h'
        cases h'
    exact ⟨this, this⟩
  have HL : Hid (∀ W, Touch NoS w W → Blk W g 119 #[.int .i64 c, .int .i64 b, .slice A l.length cap, .int .i64 s]) := fun W hW => h.touch hW (fun h => h)
  clear h hr
  go_wp2
  go_region_law (first
    | (refine step_append_grows rfl (.tmp 17) (.tmp 19) 24 rfl 37 i0 _ 3 32 Tryz.underlying24 hi hz0 hz1 hz2 rfl (by decide) A l.length l.length (evCells l) (by simp [Act.eval, Act.put]) H1.out (evCells_length l) (H2.out _ ((((Touch.refl _ _).alloc _).alloc _).drew)) ⟨w.heap.size + 1, 0, none⟩ 1 1 x.cs (by simp [Act.eval, Act.put]) rfl (H3.out _ _ (by simp)) H4.out (by omega) (by unfold maxLen; omega) (by omega) ?_
       intro v' w1 hown hgrow
       obtain ⟨g1, cap1, rfl, hcap, hg1⟩ := own_out hown (by omega)
       have ht : Touch NoS w w1 := (((Touch.refl _ _).alloc _).alloc _).drew.grown hgrow (by intro k hk; cases hk)
       have hbl := HL.out _ ht
       have k2 := hbl.cell 2
       simp at k2
       have f2 := hbl.frozen 2
       have HO := Lib.hid hown
       have HT := Lib.hid ht
       have HB := Lib.hid hbl
       clear hown hgrow ht hbl))
  all_goals
    go_wp2
    go_end0
    refine ⟨rfl, HT.out.of_no.setAt _ _, some ⟨g1, 0, none⟩, cap1, ?_, by simpa using hcap, ?_⟩
    · have := HB.out.set_ 2 (.slice (some ⟨g1, 0, none⟩) (l.length + 1) cap1)
      simpa using this
    · have hro := Row.of_own HO.out
      rw [H5.out] at hro
      exact ⟨hro.touch_at ((Touch.refl (At g) _).setAt _ _) HB.out (by decide), fun a ha => by injection ha with ha; subst ha; simp at hg1; show w.heap.size ≤ g1; omega⟩
end Go.Proofs.YtlnabpoohnphiaaGreat
