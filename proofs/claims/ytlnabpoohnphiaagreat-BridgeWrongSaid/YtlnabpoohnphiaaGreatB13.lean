/- stream: Feed. | stream: with its part's place. | Events, as plain data. | close: Valid, Across; ref11: Valid, Across. | The checker of letters (utf), as a plain function. -/
import Derived.Test.YtlnabpoohnphiaaGreatB12
import Derived.Test.YtlnabpoohnphiaaGreatB11
import Derived.Test.YtlnabpoohnphiaaGreatB04
import Derived.Test.YtlnabpoohnphiaaGreatB01
import Derived.Test.YtlnabpoohnphiaaGreatB02
import Derived.OwnWalk
/- stream: Feed. -/
namespace Go.Proofs.YtlnabpoohnphiaaGreat
open Go.RowKit
set_option linter.unusedSimpArgs false
set_option linter.unusedVariables false

set_option maxHeartbeats 3200000 in
set_option maxRecDepth 100000 in
theorem s_feed_err (g : Nat) (mk : Bool) (most : Int) (v : Value) (er : Int) (he : er ≠ 0) (A2 : Option Addr) (n cap : Nat) (w : World) (hb : Blk w g 139 (stCells mk most v er)) :
    Calls Tryz.prog 81 #[.pointer (some ⟨g, 0, none⟩), .slice A2 n cap] w fun e w' => e = .returned (.tuple #[.slice none 0 0, .int .i64 er]) ∧ Touch NoS w w' := by
  have b3 := hb.cell 3
  simp [stCells] at b3
  have glt := hb.lt
  have q1 : (er != 0) = true := by rw [bne_iff_ne]; exact he
  clear hb
  go_enter Tryz.func81, Tryz.ntmps81
  go_wp2_with fail
  go_quiet (fail)
  go_wp2
  go_ret2
  exact ⟨rfl, ((Touch.refl _ _).alloc _).drewN _⟩

def lenAt (w : World) (g : Nat) : Nat := match w.cell? ⟨g, 2, none⟩ with
  | some (.slice _ n _) => n
  | _ => 0
theorem Fed.len {w0 : World} {S : Nat → Prop} {base g B1 B2 : Nat} {mk : Bool} {most : Int} {w : World} {fs : List Fr} {part : List Int} {er : Int} (h : Fed w0 S base g B1 B2 mk most w fs part er) : lenAt w g = part.length := by
  obtain ⟨v, hb, ho, _⟩ := h.st
  obtain ⟨A, c, rfl, _⟩ := own_cases ho
  have b2 := hb.cell 2
  simp [stCells] at b2
  unfold lenAt
  rw [b2]
theorem scan_in (mk : Bool) (most : Int) : ∀ (n : Nat) (l : List Int), l.length ≤ n → bytesIn l → l.length ≤ maxLen → bytesIn (scan mk most l).2.1 ∧ (scan mk most l).2.1.length ≤ l.length ∧ (scan mk most l).1.length ≤ l.length := by
  intro n
  induction n with
  | zero =>
    intro l hl hb _
    obtain rfl : l = [] := List.eq_nil_of_length_eq_zero (by omega)
    exact ⟨hb, Nat.le_refl _, Nat.le_refl _⟩
  | succ n ih =>
    intro l hl hb hm
    rw [scan_eq mk most l hb hm]
    by_cases h : (slook mk most l).2.2 = 0
    · rw [if_pos h]
      have h2 := slook_two hb hm h
      have := ih (l.drop (slook mk most l).2.1) (by rw [List.length_drop]; omega) (hb.drop _) (by rw [List.length_drop]; omega)
      rw [List.length_drop] at this
      refine ⟨this.1, by simp only; omega, ?_⟩
      simp only [List.length_cons]
      omega
    · rw [if_neg h]
      split
      · exact ⟨hb, Nat.le_refl _, Nat.zero_le _⟩
      · exact ⟨fun x hx => (by cases hx), Nat.zero_le _, Nat.zero_le _⟩

set_option maxHeartbeats 6400000 in
set_option maxRecDepth 100000 in
theorem s_feed (g base : Nat) (mk : Bool) (most : Int) (hm : (Lit.int .i64 most).wf = true) (v : Value) (part b : List Int) (A2 : Option Addr) (n cap : Nat) (hn : b.length = n) (w : World)
    (hb : Blk w g 139 (stCells mk most v 0)) (ho : w.ownsRow base 5 1 v part.length (u8s part)) (hbs : base ≤ w.heap.size) (hr : Rd w A2 (u8s b)) (hin : bytesIn (part ++ b)) (hl : part.length + n ≤ 1000000) :
    Calls Tryz.prog 81 #[.pointer (some ⟨g, 0, none⟩), .slice A2 n cap] w fun e w' => ∃ v2 v', e = .returned (.tuple #[v2, .int .i64 (scan mk most (part ++ b)).2.2]) ∧
      w'.ownsRow w.heap.size 42 8 v2 (scan mk most (part ++ b)).1.length (frs (scan mk most (part ++ b)).1) ∧
      Blk w' g 139 (stCells mk most v' (scan mk most (part ++ b)).2.2) ∧ w'.ownsRow base 5 1 v' (scan mk most (part ++ b)).2.1.length (u8s (scan mk most (part ++ b)).2.1) ∧
      Loc w v v' ∧ Touch (fun k => k = g ∨ v.ownBlock = some k) w w' := by
  obtain ⟨A, c, rfl, hlc, hcm, hrd, _, _⟩ := own_cases ho
  obtain ⟨N, hN⟩ : ∃ N, N = part.length := ⟨_, rfl⟩
  rw [← hN] at hb ho hl
  have HN := Lib.hid hN
  obtain ⟨S, hSd⟩ : ∃ S : Nat → Prop, S = fun k => k = g ∨ (Value.slice A N c).ownBlock = some k := ⟨_, rfl⟩
  rw [← hN, ← hSd]
  have hSg : S g := by rw [hSd]; exact .inl rfl
  have HSO : Hid (∀ k, (Value.slice A N c).ownBlock = some k → S k) := fun k hk => by rw [hSd]; exact .inr hk
  have HSD : Hid (∀ k, S k → k = g ∨ (Value.slice A N c).ownBlock = some k) := fun k hk => by rw [hSd] at hk; exact hk
  obtain ⟨all, hall⟩ : ∃ all, all = part ++ b := ⟨_, rfl⟩
  rw [← hall] at hin ⊢
  have HALL : Hid (u8s part ++ u8s b = u8s all) := by show u8s part ++ u8s b = u8s all; rw [hall, u8s_append]
  have hallz : all.length = N + n := by rw [hall, List.length_append, hN, hn]
  have HAZ := Lib.hid hallz
  have HIN := Lib.hid hin
  have HM := Lib.hid hm
  have b2 := hb.cell 2
  have b3 := hb.cell 3
  have glt := hb.lt
  simp [stCells] at b2 b3
  have HB := Lib.hid hb
  have HO := Lib.hid ho
  have HR := Lib.hid hr
  have HNN := Lib.hid hn
  obtain ⟨j, hj, hy0, hy1, hy2⟩ := info_u8
  have hmf : ∀ (fn : Fn) (first cap : Array Value) (w : World), (Instr.makeFunc fn first cap).run Tryz.prog w = .ok (.func fn first cap) w := fun _ _ _ _ => rfl
  clear hb ho hrd hN hSd hall hallz hin hm hr hn hlc hcm
  go_enter Tryz.func81, Tryz.ntmps81
  go_upto_region 3 with (fail)
  go_cut [] (fun wx => Blk wx w.heap.size 103 #[.pointer (some ⟨g, 0, none⟩)] ∧ (∃ v, Blk wx g 139 (stCells mk most v 0) ∧ wx.ownsRow base 5 1 v (N + n) (u8s all) ∧ (∀ b, v.ownBlock = some b → S b ∨ w.heap.size ≤ b)) ∧ Touch S w wx)
  case first =>
    obtain ⟨w1, hw1⟩ : ∃ w1, w1 = w.alloc (.cells #[.pointer (some ⟨g, 0, none⟩)] 103) := ⟨_, rfl⟩
    rw [← hw1]
    have hp1 : Blk w1 w.heap.size 103 #[.pointer (some ⟨g, 0, none⟩)] := by rw [hw1]; exact Blk.new _ _ _
    have hb1 : Blk w1 g 139 (stCells mk most (.slice A N c) 0) := by rw [hw1]; exact HB.out.alloc _
    have HT1 : Hid (Touch S w w1) := by rw [hw1]; exact (Touch.refl _ _).alloc _
    have HO1 : Hid (w1.drew.ownsRow base 5 1 (.slice A N c) N (u8s part)) := by rw [hw1]; exact own_no HO.out ((Touch.refl _ _).alloc _).drew
    have HR1 : Hid (Rd w1.drew A2 (u8s b)) := by rw [hw1]; exact HR.out.touch_no ((Touch.refl _ _).alloc _).drew
    have hs1 : base ≤ w1.heap.size := Nat.le_trans hbs HT1.out.size
    have p0 := hp1.cell 0
    have b2 := hb1.cell 2
    have f2 := hb1.frozen 2
    have plt := hp1.lt
    have glt := hb1.lt
    simp [stCells] at p0 b2
    have HP1 := Lib.hid hp1
    have HB1 := Lib.hid hb1
    clear hw1 hp1 hb1 b3 hmf
    go_region_law (first
      | (refine step_app_row _ rfl (.tmp 21) (.tmp 22) 43 rfl base 5 j _ 1 1 Tryz.underlying43 hj hy0 hy1 hy2 rfl (by decide) (.slice A N c) N (u8s part) (by simp [Act.eval, Act.put]) HO1.out A2 n cap (u8s b) (by simp [Act.eval, Act.put]) (by rw [u8s_length, HNN.out, Nat.mul_one]) HR1.out (u8s_one _) (by unfold maxLen; omega) (by omega) (by simp; omega) ?_
         intro v' w4 ho hgr hloc
         have HLC := Lib.hid hloc
         obtain ⟨A4, c4, rfl, _, _, _, _, _⟩ := own_cases ho
         have hb4 := HB1.out.drew.grown hgr (own_ne HO1.out HB1.out.drew (by decide))
         have hp4 := HP1.out.drew.grown hgr (own_ne HO1.out HP1.out.drew (by decide))
         have p0 := hp4.cell 0
         have b2 := hb4.cell 2
         have f2 := hb4.frozen 2
         have plt := hp4.lt
         have glt := hb4.lt
         simp [stCells] at p0 b2
         have HB4 := Lib.hid hb4
         have HP4 := Lib.hid hp4
         have HO4 := Lib.hid ho
         have HT4 := Lib.hid (HT1.out.drew.grown hgr (fun k hk _ => HSO.out k hk))
         clear hb4 hp4 ho hgr hloc))
    all_goals
      go_wp2_with fail
      go_meet
      have hn3 : w.heap.size ≠ g := HP4.out.ne_ HB4.out (by decide)
      refine ⟨HP4.out.far hn3 _, ⟨.slice A4 (N + n) c4, HB4.out.set_ 2 _, ?_, ?_⟩, HT4.out.setCell (p := ⟨g, 2, none⟩) (fun _ => hSg) _⟩
      · have h := own_far HO4.out HB4.out (by decide) 2 (.slice A4 (N + n) c4)
        rw [HALL.out] at h
        exact h
      · intro b hb
        rcases HLC.out with h | h
        · exact .inl (HSO.out b (h.symm.trans hb))
        · have h2 := h.symm.trans hb
          injection h2 with h2
          have h3 : w1.heap.size = b := h2
          exact .inr (by have := HT1.out.size; omega)
  case rest =>
    obtain ⟨hp, ⟨v', hb, ho, hlo⟩, ht⟩ := hcut
    have HLO := Lib.hid hlo
    clear hlo
    have HP1 := Lib.hid hp
    have HB1 := Lib.hid hb
    have HO1 := Lib.hid ho
    have HT1 := Lib.hid ht
    have hs1 : w.heap.size ≤ wc.heap.size := ht.size
    clear hp hb ho ht b2 b3 glt HB HO HR
    go_wp2_with fail
    go_loopw [] (fun wr => ∃ (fs : List Fr) (part' : List Int), Fed w S base g w.heap.size wc.heap.size mk most wr fs part' 0 ∧ Hid (scan mk most all = (fs ++ (scan mk most part').1, (scan mk most part').2)) ∧ bytesIn part' ∧ fs.length + part'.length ≤ 1000000) (fun wr => lenAt wr g)
    case atStart =>
      have HIN2 := HIN.out
      refine ⟨[], all, ⟨HP1.out.alloc _, ⟨v', HB1.out.alloc _, ?_, HLO.out⟩, ⟨.slice none 0 0, Blk.new _ _ _, own_nil _ _ _ _⟩, HT1.out.alloc _⟩, rfl, HIN.out, ?_⟩
      · rw [HAZ.out]; exact own_no HO1.out ((Touch.refl _ _).alloc _)
      · rw [HAZ.out]; simp; omega
    case round =>
      obtain ⟨fs, part', hfed, hscan, hin', hz'⟩ := hrel
      have HF := Lib.hid hfed
      have HSC := Lib.hid hscan
      have HI := Lib.hid hin'
      have hzp : part'.length ≤ 1000000 := by omega
      have hzf : fs.length ≤ 1000000 := by omega
      have hm1 : part'.length ≤ maxLen := by unfold maxLen; omega
      have HM1 := Lib.hid hm1
      have HZ := Lib.hid hz'
      have HP := Lib.hid hzp
      have HZF := Lib.hid hzf
      have hse := scan_eq mk most part' hin' hm1
      obtain ⟨f, k, e, hS⟩ : ∃ f k e, slook mk most part' = (f, k, e) := ⟨_, _, _, rfl⟩
      rw [hS] at hse
      simp only at hse
      have HSE := Lib.hid hse
      have HS := Lib.hid hS
      clear hfed hscan hin' hz' hm1 hzp hzf hse hS HP1 HB1 HO1 HT1
      by_cases he : e = 0
      · subst he
        have HS0 : Hid (scan mk most part' = (f :: (scan mk most (part'.drop k)).1, (scan mk most (part'.drop k)).2)) := by
          have h := HSE.out
          rw [if_pos rfl] at h
          exact h
        clear HSE
        go_wp2_with fail
        refine (s_take_ok w S base g w.heap.size wc.heap.size hSg hs1 hbs mk most HM.out wr fs part' HI.out HP.out HZF.out HF.out f k HS.out).mono ?_
        rintro e w5 ⟨rfl, hfed⟩
        have HF5 := Lib.hid hfed
        clear hfed
        go_wp2_with fail
        have h2 := slook_two HI.out HM1.out (show (slook mk most part').2.2 = 0 by rw [HS.out])
        rw [HS.out] at h2
        simp only at h2
        go_roundw
        · refine ⟨fs ++ [f], part'.drop k, HF5.out, ?_, HI.out.drop _, ?_⟩
          · show scan mk most all = _
            have h := HSC.out
            rw [HS0.out] at h
            rw [h]
            simp
          · have := HZ.out
            rw [List.length_append, List.length_drop]
            simp
            omega
        · rw [HF5.out.len, HF.out.len, List.length_drop]
          omega
      · have HE := Lib.hid he
        obtain ⟨rest, er, hres, hcalls⟩ : ∃ rest er, scan mk most part' = ([], rest, er) ∧ Calls Tryz.prog 103 #[.pointer (some ⟨w.heap.size, 0, none⟩), .pointer (some ⟨wc.heap.size, 0, none⟩)] wr fun e w' => e = .returned (.bool false) ∧ Fed w S base g w.heap.size wc.heap.size mk most w' fs rest er := by
          by_cases he9 : e = 90
          · subst he9
            exact ⟨part', 0, by rw [HSE.out, if_neg HE.out, if_pos rfl], s_take_more w S base g w.heap.size wc.heap.size mk most HM.out wr fs part' HI.out HP.out HF.out (by rw [HS.out])⟩
          · exact ⟨[], e, by rw [HSE.out, if_neg HE.out, if_neg he9], s_take_bad w S base g w.heap.size wc.heap.size hSg mk most HM.out wr fs part' HI.out HP.out HF.out e (by rw [HS.out]) HE.out he9⟩
        have HRES := Lib.hid hres
        have HC := Lib.hid hcalls
        clear he hres hcalls HE
        go_wp2_with fail
        refine HC.out.mono ?_
        rintro e' w5 ⟨rfl, hfed⟩
        obtain ⟨hp5, ⟨v5, hb5, ho5, hlo5⟩, ⟨v6, hb6, ho6⟩, ht5⟩ := hfed
        have HLO5 := Lib.hid hlo5
        clear hlo5
        obtain ⟨A6, c6, rfl, _, _, _, _, _⟩ := own_cases ho6
        have p0 := hp5.cell 0
        have b3 := hb5.cell 3
        have q0 := hb6.cell 0
        have plt := hp5.lt
        have glt := hb5.lt
        have qlt := hb6.lt
        simp [stCells] at p0 b3 q0
        have HB5 := Lib.hid hb5
        have HO5 := Lib.hid ho5
        have HO6 := Lib.hid ho6
        have HT5 := Lib.hid ht5
        clear hp5 hb5 ho5 hb6 ho6 ht5 HF HC
        go_wp2_with fail
        go_quiet (fail)
        go_wp2
        go_ret2
        have hR : scan mk most all = (fs, rest, er) := by
          have h := HSC.out
          rw [HRES.out] at h
          rw [h, List.append_nil]
        rw [hR]
        exact ⟨_, v5, rfl, own_no HO6.out ((Touch.refl _ _).drewN _), HB5.out.drewN _, own_no HO5.out ((Touch.refl _ _).drewN _), fun b hb => (HLO5.out b hb).imp (fun h => (HSD.out b h).resolve_left (fun h => own_ne HO5.out HB5.out (by decide) (h ▸ hb))) id, HT5.out.drewN _⟩
end Go.Proofs.YtlnabpoohnphiaaGreat
/- stream: with its part's place. -/
namespace Go.Proofs.YtlnabpoohnphiaaGreat
open Go.RowKit
set_option linter.unusedSimpArgs false
set_option linter.unusedVariables false

/-- A stream, its part's slice being v. -/
def IsStv (w : World) (base g : Nat) (mk : Bool) (most : Int) (part : List Int) (er : Int) (v : Value) : Prop :=
  Blk w g 139 (stCells mk most v er) ∧ w.ownsRow base 5 1 v part.length (u8s part)
/-- What a stream may write: itself, its part's row. -/
def SO (g : Nat) (v : Value) (k : Nat) : Prop := k = g ∨ v.ownBlock = some k
section
variable {w w' w0 : World} {base g : Nat} {mk : Bool} {most er : Int} {part : List Int} {v : Value}
theorem IsStv.no (h : IsStv w base g mk most part er v) (k : Touch NoS w w') : IsStv w' base g mk most part er v := ⟨h.1.touch k (fun h => h), own_no h.2 k⟩
theorem IsStv.lt (h : IsStv w base g mk most part er v) : g < w.heap.size := h.1.lt
theorem IsStv.row_lt (h : IsStv w base g mk most part er v) {b : Nat} (hb : v.ownBlock = some b) : base ≤ b ∧ b < w.heap.size := by
  obtain ⟨cs, hc⟩ := own_type h.2 hb
  exact ⟨own_base h.2 hb, hc.lt⟩
theorem IsStv.touch {S : Nat → Prop} (h : IsStv w base g mk most part er v) (k : Touch S w w') (h1 : ¬ S g) (h2 : ∀ b, v.ownBlock = some b → ¬ S b) : IsStv w' base g mk most part er v := ⟨h.1.touch k h1, own_touch h.2 k h2⟩
theorem IsStv.lower {base' : Nat} (h : IsStv w base g mk most part er v) (hb : base' ≤ base) : IsStv w base' g mk most part er v := ⟨h.1, own_lower h.2 hb⟩
theorem SO_keep {b : Nat} {t : TypeId} {cs : Array Value} (h : Blk w b t cs) (hs : IsStv w base g mk most part er v) (k : Touch (SO g v) w w') (h1 : t ≠ 5) (h2 : t ≠ 139) : Blk w' b t cs :=
  h.touch k fun hS => by
    rcases hS with hS | hv
    · exact h.ne_ hs.1 h2 hS
    · obtain ⟨cs', hc⟩ := own_type hs.2 hv
      exact h.ne_ hc h1 rfl
theorem SO_own {b0 n size : Nat} {e : TypeId} {u : Value} {xs : List Value} (h : w.ownsRow b0 e size u n xs) (hs : IsStv w base g mk most part er v) (k : Touch (SO g v) w w') (h1 : e ≠ 5) (h2 : e ≠ 139) : w'.ownsRow b0 e size u n xs :=
  own_touch h k fun b hb hS => by
    rcases hS with rfl | hv
    · exact own_ne h hs.1 h2 hb
    · obtain ⟨cs, hc⟩ := own_type hs.2 hv
      exact own_ne h hc h1 hb
theorem SO_old (h : Touch NoS w0 w) (hs : IsStv w base g mk most part er v) (k : Touch (SO g v) w w') (hb : w0.heap.size ≤ base) (hg : w0.heap.size ≤ g) : Touch NoS w0 w' :=
  h.then_new k fun i hS => by
    rcases hS with rfl | hv
    · exact .inl hg
    · have := own_base hs.2 hv
      exact .inl (by omega)
theorem stv_feed (h : IsStv w base g mk most part 0 v) (hm : (Lit.int .i64 most).wf = true) (hbs : base ≤ w.heap.size) (b : List Int) (A2 : Option Addr) (n cap : Nat) (hn : b.length = n) (hr : Rd w A2 (u8s b)) (hin : bytesIn (part ++ b)) (hl : part.length + n ≤ 1000000)
    (fs : List Fr) (rest : List Int) (e1 : Int) (hsc : scan mk most (part ++ b) = (fs, rest, e1)) :
    Calls Tryz.prog 81 #[.pointer (some ⟨g, 0, none⟩), .slice A2 n cap] w fun e w' => ∃ A c2 v1, e = .returned (.tuple #[.slice A fs.length c2, .int .i64 e1]) ∧
      w'.ownsRow w.heap.size 42 8 (.slice A fs.length c2) fs.length (frs fs) ∧ IsStv w' base g mk most rest e1 v1 ∧ Loc w v v1 ∧ Touch (SO g v) w w' := by
  refine (s_feed g base mk most hm v part b A2 n cap hn w h.1 h.2 hbs hr hin hl).mono ?_
  rintro e w' ⟨v2, v', rfl, h1, h2, h3, h4, h5⟩
  rw [hsc] at h1 h2 h3 ⊢
  simp only at h1 h2 h3 ⊢
  obtain ⟨A3, c3, rfl, _⟩ := own_cases h1
  exact ⟨A3, c3, v', rfl, h1, ⟨h2, h3⟩, h4, h5⟩
end
theorem stv_new (mk : Bool) (most : Int) (h1 : 125 ≤ most) (h2 : most ≤ 65536) (w : World) : Calls Tryz.prog 54 #[.bool mk, .int .i64 most] w fun e w' =>
    e = .returned (.tuple #[.pointer (some ⟨w.heap.size, 0, none⟩), .int .i64 0]) ∧ IsStv w' w.heap.size w.heap.size mk most [] 0 (.slice none 0 0) ∧ Touch NoS w w' := by
  refine (s_new mk most w).mono ?_
  rintro e w' ⟨_, h⟩
  obtain ⟨rfl, hb, ht⟩ := h h1 h2
  exact ⟨rfl, ⟨hb, own_nil _ _ _ _⟩, ht⟩
end Go.Proofs.YtlnabpoohnphiaaGreat
/- Events, as plain data. -/
namespace Go.Proofs.YtlnabpoohnphiaaGreat
set_option linter.unusedSimpArgs false
set_option linter.unusedVariables false

structure Ev where
  op : Int
  code : Int
  data : ByteArray
def Ev.zero : Ev := ⟨0, 0, ⟨#[]⟩⟩
def Ev.cs (e : Ev) : List Value := [.int .i64 e.op, .int .i64 e.code, .string e.data]
def Ev.val (e : Ev) : Value := .agg #[.int .i64 e.op, .int .i64 e.code, .string e.data]
def evCells (l : List Ev) : List Value := l.flatMap Ev.cs
def evSize (l : List Ev) : Nat := (l.map fun e => e.data.size).sum

end Go.Proofs.YtlnabpoohnphiaaGreat
/- close: Valid, Across; ref11: Valid, Across. -/
namespace Go.Proofs.YtlnabpoohnphiaaGreat
open Go.RowKit
set_option linter.unusedSimpArgs false
set_option linter.unusedVariables false

/-- May a code be sent? -/
def valid11 (n : Int) : Bool := decide ((1000 ≤ n ∧ n ≤ 1003) ∨ (1007 ≤ n ∧ n ≤ 1011) ∨ (3000 ≤ n ∧ n ≤ 4999))
set_option maxRecDepth 100000 in
theorem c_in (a b n : Int) (r : Bool) (hr : decide (a ≤ n ∧ n ≤ b) = r) (g : Nat) (w : World) (hb : Blk w g 3 #[.int .i64 n]) :
    Calls Tryz.prog 108 #[.int .i64 a, .int .i64 b, .pointer (some ⟨g, 0, none⟩)] w fun e w' => e = .returned (.bool r) ∧ w = w' := by
  have b0 := hb.cell 0
  simp at b0
  have hlt := hb.lt
  clear hb
  by_cases h : a ≤ n
  · by_cases h2 : n ≤ b
    · obtain rfl : r = true := by rw [← hr]; exact decide_eq_true ⟨h, h2⟩
      clear hr
      go_enter Tryz.func108, Tryz.ntmps108
      go_wp2
      go_ret
      exact ⟨rfl, rfl⟩
    · obtain rfl : r = false := by rw [← hr]; exact decide_eq_false (fun h' => h2 h'.2)
      clear hr
      go_enter Tryz.func108, Tryz.ntmps108
      go_wp2
      go_ret
      exact ⟨rfl, rfl⟩
  · obtain rfl : r = false := by rw [← hr]; exact decide_eq_false (fun h' => h h'.1)
    clear hr
    go_enter Tryz.func108, Tryz.ntmps108
    go_wp2
    go_ret
    exact ⟨rfl, rfl⟩

set_option maxHeartbeats 1600000 in
set_option maxRecDepth 100000 in
theorem c_valid (n : Int) (w : World) : Calls Tryz.prog 85 #[.int .i64 n] w fun e w' => e = .returned (.bool (valid11 n)) ∧ Touch NoS w w' := by
  have hmf : ∀ (fn : Fn) (first cap : Array Value) (w : World), (Instr.makeFunc fn first cap).run Tryz.prog w = .ok (.func fn first cap) w := fun _ _ _ _ => rfl
  have HI := Lib.hid (fun a b r hr => c_in a b n r hr w.heap.size (w.alloc (.cells #[.int .i64 n] 3)) (Blk.new _ _ _))
  have HT : Hid (Touch NoS w (w.alloc (.cells #[.int .i64 n] 3))) := (Touch.refl _ _).alloc _
  by_cases h1 : 1000 ≤ n ∧ n ≤ 1003
  · rw [show valid11 n = true from decide_eq_true (.inl h1)]
    have H1 := Lib.hid (decide_eq_true h1)
    clear h1
    go_enter Tryz.func85, Tryz.ntmps85
    go_wp2_with fail
    refine (HI.out 1000 1003 true H1.out).mono ?_
    rintro e w2 ⟨rfl, rfl⟩
    go_wp2
    go_ret
    exact ⟨rfl, HT.out⟩
  by_cases h2 : 1007 ≤ n ∧ n ≤ 1011
  · rw [show valid11 n = true from decide_eq_true (.inr (.inl h2))]
    have H1 := Lib.hid (decide_eq_false h1)
    have H2 := Lib.hid (decide_eq_true h2)
    clear h1 h2
    go_enter Tryz.func85, Tryz.ntmps85
    go_wp2_with fail
    refine (HI.out 1000 1003 false H1.out).mono ?_
    rintro e w2 ⟨rfl, rfl⟩
    go_wp2_with fail
    refine (HI.out 1007 1011 true H2.out).mono ?_
    rintro e w2 ⟨rfl, rfl⟩
    go_wp2
    go_ret
    exact ⟨rfl, HT.out⟩
  obtain ⟨r, hr⟩ : ∃ r, r = decide (3000 ≤ n ∧ n ≤ 4999) := ⟨_, rfl⟩
  have hv : valid11 n = r := by
    unfold valid11
    rw [hr]
    by_cases h3 : 3000 ≤ n ∧ n ≤ 4999
    · rw [decide_eq_true h3, decide_eq_true (.inr (.inr h3))]
    · rw [decide_eq_false h3, decide_eq_false (by omega)]
  rw [hv]
  have H1 := Lib.hid (decide_eq_false h1)
  have H2 := Lib.hid (decide_eq_false h2)
  have H3 := Lib.hid hr.symm
  clear h1 h2 hr hv
  go_enter Tryz.func85, Tryz.ntmps85
  go_wp2_with fail
  refine (HI.out 1000 1003 false H1.out).mono ?_
  rintro e w2 ⟨rfl, rfl⟩
  go_wp2_with fail
  refine (HI.out 1007 1011 false H2.out).mono ?_
  rintro e w2 ⟨rfl, rfl⟩
  go_wp2_with fail
  refine (HI.out 3000 4999 r H3.out).mono ?_
  rintro e w2 ⟨rfl, rfl⟩
  go_wp2
  go_ret
  exact ⟨rfl, HT.out⟩

end Go.Proofs.YtlnabpoohnphiaaGreat
/- The checker of letters (utf), as a plain function. -/
namespace Go.Proofs.YtlnabpoohnphiaaGreat
set_option linter.unusedSimpArgs false
set_option linter.unusedVariables false

structure Uc where
  left : Int
  lo : Int
  hi : Int
  count : Int
  bad : Bool
deriving DecidableEq
def Uc.new : Uc := ⟨0, 0, 0, 0, false⟩
def ubegin (c : Uc) (b : Int) : Uc × Bool :=
  if b < 128 then (⟨c.left, 128, 191, c.count + 1, c.bad⟩, true)
  else if 194 ≤ b ∧ b ≤ 223 then (⟨1, 128, 191, c.count, c.bad⟩, true)
  else if 224 ≤ b ∧ b ≤ 239 then (⟨2, if b = 224 then 160 else 128, if b = 237 then 159 else 191, c.count, c.bad⟩, true)
  else if 240 ≤ b ∧ b ≤ 244 then (⟨3, if b = 240 then 144 else 128, if b = 244 then 143 else 191, c.count, c.bad⟩, true)
  else (⟨c.left, 128, 191, c.count, c.bad⟩, false)
def utake (c : Uc) (b : Int) : Uc × Bool :=
  if c.left = 0 then ubegin c b
  else if b < c.lo ∨ c.hi < b then (c, false)
  else (⟨c.left - 1, 128, 191, if c.left = 1 then c.count + 1 else c.count, c.bad⟩, true)
def ufeed : Uc → List Int → Uc × Nat
  | c, [] => (c, 0)
  | c, b :: l => if c.bad = true then (c, 0) else if (utake c b).2 = true then ((ufeed (utake c b).1 l).1, (ufeed (utake c b).1 l).2 + 1) else ({ (utake c b).1 with bad := true }, 0)
def Uc.whole (c : Uc) : Bool := !c.bad && decide (c.left = 0)
def Uc.ok (c : Uc) : Prop := 0 ≤ c.left ∧ c.left ≤ 3 ∧ 0 ≤ c.lo ∧ c.lo ≤ 255 ∧ 0 ≤ c.hi ∧ c.hi ≤ 255 ∧ 0 ≤ c.count

theorem ubegin_ok {c : Uc} (h : c.ok) (b : Int) (hb : c.left = 0) : (ubegin c b).1.ok ∧ (ubegin c b).1.count ≤ c.count + 1 ∧ c.count ≤ (ubegin c b).1.count := by
  unfold ubegin Uc.ok at *
  split
  · simp; omega
  · split
    · simp; omega
    · split
      · simp; refine ⟨⟨?_, ?_, ?_, ?_, ?_⟩, ?_⟩ <;> (try split) <;> omega
      · split
        · simp; refine ⟨⟨?_, ?_, ?_, ?_, ?_⟩, ?_⟩ <;> (try split) <;> omega
        · simp; omega
theorem utake_ok {c : Uc} (h : c.ok) (b : Int) : (utake c b).1.ok ∧ (utake c b).1.count ≤ c.count + 1 ∧ c.count ≤ (utake c b).1.count := by
  unfold utake
  split
  · rename_i h0; exact ubegin_ok h b h0
  · split
    · exact ⟨h, by show c.count ≤ _; omega, Int.le_refl _⟩
    · unfold Uc.ok at *
      simp
      split <;> omega
theorem ufeed_ok (l : List Int) : ∀ {c : Uc}, c.ok → (ufeed c l).1.ok ∧ (ufeed c l).1.count ≤ c.count + l.length ∧ c.count ≤ (ufeed c l).1.count ∧ (ufeed c l).2 ≤ l.length := by
  induction l with
  | nil => intro c h; simp [ufeed, h]
  | cons b l ih =>
    intro c h
    unfold ufeed
    split
    · exact ⟨h, by simp; omega, by simp, by simp⟩
    · obtain ⟨h1, h2, h3⟩ := utake_ok h b
      split
      · obtain ⟨r1, r2, r3, r4⟩ := ih h1
        refine ⟨r1, ?_, ?_, ?_⟩ <;> simp <;> omega
      · refine ⟨?_, ?_, ?_, ?_⟩
        · unfold Uc.ok at *; simpa using h1
        · simp; omega
        · simpa using h3
        · simp
end Go.Proofs.YtlnabpoohnphiaaGreat
