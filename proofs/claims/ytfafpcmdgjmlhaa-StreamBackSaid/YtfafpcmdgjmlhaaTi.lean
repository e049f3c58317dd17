/- law10: a stream as the laws see it; awake. -/
import Derived.Test.YtfafpcmdgjmlhaaTg
import Derived.Test.YtfafpcmdgjmlhaaTh
namespace Go.Proofs.Ytfafpcmdgjmlhaa
open Go.RowKit
set_option linter.unusedSimpArgs false
set_option linter.unusedVariables false

/-- A stream, what it keeps, what is wrong. -/
def IsSt (w : World) (base g : Nat) (mk : Bool) (most : Int) (part : List Int) (er : Int) : Prop :=
  ∃ v, Blk w g 76 (stCells mk most v er) ∧ w.ownsRow base 5 1 v part.length (u8s part)
/-- What Feed may write. -/
def SF (w : World) (base g : Nat) (k : Nat) : Prop := k = g ∨ (base ≤ k ∧ ∃ cs, Blk w k 5 cs)
section
variable {w w' w0 : World} {base g : Nat} {mk : Bool} {most er : Int} {part : List Int}
theorem IsSt.no (h : IsSt w base g mk most part er) (k : Touch NoS w w') : IsSt w' base g mk most part er := by
  obtain ⟨v, hb, ho⟩ := h
  exact ⟨v, hb.touch k (fun h => h), own_no ho k⟩
theorem IsSt.lt (h : IsSt w base g mk most part er) : g < w.heap.size := by
  obtain ⟨v, hb, _⟩ := h
  exact hb.lt
theorem IsSt.grown {b0 n size : Nat} {e : TypeId} {v : Value} {xs : List Value} (h : IsSt w base g mk most part er) (hu : w.ownsRow b0 e size v n xs) (h1 : 5 ≠ e) (h2 : e ≠ 76) (hg : w.grownBy w' v.ownBlock) : IsSt w' base g mk most part er := by
  obtain ⟨v', hb, ho⟩ := h
  exact ⟨v', hb.grown hg (own_ne hu hb h2), own_apart ho hu h1 hg⟩
theorem SF_own {b0 n size : Nat} {e : TypeId} {v : Value} {xs : List Value} (h : w.ownsRow b0 e size v n xs) (hs : IsSt w base g mk most part er) (k : Touch (SF w base g) w w') (h1 : e ≠ 5) (h2 : e ≠ 76) : w'.ownsRow b0 e size v n xs :=
  own_touch h k fun b hb hS => by
    obtain ⟨v', hbs, _⟩ := hs
    rcases hS with rfl | ⟨_, cs, hc⟩
    · exact own_ne h hbs h2 hb
    · exact own_ne h hc h1 hb
theorem SF_blk {b : Nat} {t : TypeId} {cs : Array Value} (h : Blk w b t cs) (k : Touch (SF w base g) w w') (h1 : t ≠ 5) (h2 : b ≠ g) : Blk w' b t cs :=
  h.touch k fun hS => by
    rcases hS with hS | ⟨_, cs', hc⟩
    · exact h2 hS
    · exact h.ne_ hc h1 rfl
theorem SF_old (h : Touch NoS w0 w) (k : Touch (SF w base g) w w') (hb : w0.heap.size ≤ base) (hg : w0.heap.size ≤ g) : Touch NoS w0 w' :=
  h.then_new k fun i hS => by
    rcases hS with rfl | ⟨hb', _⟩
    · exact .inl hg
    · exact .inl (by omega)
theorem st_feed (h : IsSt w base g mk most part 0) (hm : (Lit.int .i64 most).wf = true) (hbs : base ≤ w.heap.size) (b : List Int) (A2 : Option Addr) (n cap : Nat) (hn : b.length = n) (hr : Rd w A2 (u8s b)) (hin : bytesIn (part ++ b)) (hl : part.length + n ≤ 1000000)
    (fs : List Fr) (rest : List Int) (e1 : Int) (hsc : scan mk most (part ++ b) = (fs, rest, e1)) :
    Calls Try.prog 25 #[.pointer (some ⟨g, 0, none⟩), .slice A2 n cap] w fun e w' => ∃ v2 c2, e = .returned (.tuple #[.slice v2 fs.length c2, .int .i64 e1]) ∧
      w'.ownsRow w.heap.size 43 8 (.slice v2 fs.length c2) fs.length (frs fs) ∧ IsSt w' base g mk most rest e1 ∧ Touch (SF w base g) w w' := by
  obtain ⟨v, hb, ho⟩ := h
  refine (s_feed g base mk most hm v part b A2 n cap hn w hb ho hbs hr hin hl).mono ?_
  rintro e w' ⟨v2, v', rfl, h1, h2, h3, h4⟩
  rw [hsc] at h1 h2 h3 ⊢
  simp only at h1 h2 h3 ⊢
  obtain ⟨A3, c3, rfl, _⟩ := own_cases h1
  refine ⟨A3, c3, rfl, h1, ⟨v', h2, h3⟩, h4.mono fun k hk => ?_⟩
  rcases hk with rfl | hk
  · exact .inl rfl
  · exact .inr ⟨own_base ho hk, own_type ho hk⟩
theorem st_feed_err (h : IsSt w base g mk most part er) (he : er ≠ 0) (A2 : Option Addr) (n cap : Nat) :
    Calls Try.prog 25 #[.pointer (some ⟨g, 0, none⟩), .slice A2 n cap] w fun e w' => e = .returned (.tuple #[.slice none 0 0, .int .i64 er]) ∧ IsSt w' base g mk most part er ∧ Touch NoS w w' := by
  obtain ⟨v, hb, ho⟩ := h
  refine (s_feed_err g mk most v er he A2 n cap w hb).mono ?_
  rintro e w' ⟨rfl, ht⟩
  exact ⟨rfl, ⟨v, hb.touch ht (fun h => h), own_no ho ht⟩, ht⟩
theorem st_err (h : IsSt w base g mk most part er) : Calls Try.prog 27 #[.pointer (some ⟨g, 0, none⟩)] w fun e w' => e = .returned (.int .i64 er) ∧ w = w' := by
  obtain ⟨v, hb, _⟩ := h
  exact s_err g mk most v er w hb
theorem st_part (h : IsSt w base g mk most part er) (n : Nat) (hn : part.length = n) : Calls Try.prog 28 #[.pointer (some ⟨g, 0, none⟩)] w fun e w' => e = .returned (.int .i64 n) ∧ w = w' := by
  obtain ⟨v, hb, ho⟩ := h
  obtain ⟨A, c, rfl, _⟩ := own_cases ho
  rw [hn] at hb
  exact s_part g mk most A n c er w hb
end
theorem st_new (mk : Bool) (most : Int) (h1 : 125 ≤ most) (h2 : most ≤ 65536) (w : World) : Calls Try.prog 22 #[.bool mk, .int .i64 most] w fun e w' =>
    e = .returned (.tuple #[.pointer (some ⟨w.heap.size, 0, none⟩), .int .i64 0]) ∧ IsSt w' w.heap.size w.heap.size mk most [] 0 ∧ Touch NoS w w' := by
  refine (s_new mk most w).mono ?_
  rintro e w' ⟨_, h⟩
  obtain ⟨rfl, hb, ht⟩ := h h1 h2
  exact ⟨rfl, ⟨_, hb, own_nil _ _ _ _⟩, ht⟩

theorem aw10_1 : scan false 200 ([] ++ [129]) = ([], [129], 0) := by kernel_rfl
theorem aw10_2 : scan false 200 ([129] ++ [2, 72]) = ([], [129, 2, 72], 0) := by kernel_rfl
theorem aw10_3 : scan false 200 ([129, 2, 72] ++ [105]) = ([⟨true, 1, false, 0, 0, 0, 0, ⟨#[72, 105]⟩⟩], [], 0) := by kernel_rfl
theorem in_lit (l : List Int) (h : l.all (fun x => decide (0 ≤ x ∧ x ≤ 255)) = true) : bytesIn l := fun x hx => of_decide_eq_true (List.all_eq_true.1 h x hx)
set_option maxHeartbeats 6400000 in
set_option maxRecDepth 100000 in
theorem aw10 (w : World) : Calls Try.prog 23 #[] w fun e w' => e = .returned (.bool true) ∧ Touch NoS w w' := by
  go_enter Try.func23, Try.ntmps23
  go_wp2_with fail
  refine (st_new false 200 (by omega) (by omega) _).mono ?_
  rintro e w1 ⟨rfl, hs, ht⟩
  have HS1 := Lib.hid hs
  have HT1 := Lib.hid ht
  clear hs ht
  have hs1 : w.heap.size ≤ w1.heap.size := HT1.out.size
  have hwf : (Lit.int .i64 200).wf = true := wf_i64 (by omega) (by omega)
  have HWF := Lib.hid hwf
  clear hwf
  go_wp2_with fail
  refine (st_feed (HS1.out.no ((Touch.refl _ _).alloc _)) HWF.out (by simp; omega) [129] (some ⟨w1.heap.size, 0, none⟩) 1 1 rfl (Rd.new w1 (u8s [129]) 5 (0, 0)) (in_lit _ rfl) (by simp) _ _ _ aw10_1).mono ?_
  rintro e w2 ⟨A2, c2, rfl, _, hs, ht⟩
  have HS2 := Lib.hid hs
  have HT2 := Lib.hid (SF_old (HT1.out.alloc _) ht (Nat.le_refl _) (Nat.le_refl _))
  have hs2 : w.heap.size ≤ w2.heap.size := HT2.out.size
  clear hs ht HS1 HT1
  go_wp2_with fail
  refine (st_feed (HS2.out.no ((Touch.refl _ _).alloc _)) HWF.out (by simp; omega) [2, 72] (some ⟨w2.heap.size, 0, none⟩) 2 2 rfl (Rd.new w2 (u8s [2, 72]) 5 (0, 0)) (in_lit _ rfl) (by simp) _ _ _ aw10_2).mono ?_
  rintro e w3 ⟨A3, c3, rfl, _, hs, ht⟩
  have HS3 := Lib.hid hs
  have HT3 := Lib.hid (SF_old (HT2.out.alloc _) ht (Nat.le_refl _) (Nat.le_refl _))
  have hs3 : w.heap.size ≤ w3.heap.size := HT3.out.size
  clear hs ht HS2 HT2
  go_wp2_with fail
  refine (st_part HS3.out 3 rfl).mono ?_
  rintro e w3' ⟨rfl, rfl⟩
  go_wp2_with fail
  refine (st_feed (HS3.out.no ((Touch.refl _ _).alloc _)) HWF.out (by simp; omega) [105] (some ⟨w3.heap.size, 0, none⟩) 1 1 rfl (Rd.new w3 (u8s [105]) 5 (0, 0)) (in_lit _ rfl) (by simp) _ _ _ aw10_3).mono ?_
  rintro e w4 ⟨A4, c4, rfl, ho, hs, ht⟩
  have HS4 := Lib.hid hs
  have HO4 := Lib.hid ho
  have HT4 := Lib.hid (SF_old (HT3.out.alloc _) ht (Nat.le_refl _) (Nat.le_refl _))
  clear hs ht ho HS3 HT3
  go_wp2_with fail
  obtain ⟨A5, c5, hv5, _, _, hrd, _, _⟩ := own_cases (own_no HO4.out ((Touch.refl _ _).alloc (.cells (Fr.cl ⟨true, 1, false, 0, 0, 0, 0, ⟨#[72, 105]⟩⟩).toArray 43)))
  injection hv5 with e5 _ e6
  subst e5 e6
  refine (r10_same _ (some ⟨w4.heap.size, 0, none⟩) [⟨true, 1, false, 0, 0, 0, 0, ⟨#[72, 105]⟩⟩] [⟨true, 1, false, 0, 0, 0, 0, ⟨#[72, 105]⟩⟩] 1 1 _ 1 rfl rfl _ hrd (Rd.new w4 (Fr.cl ⟨true, 1, false, 0, 0, 0, 0, ⟨#[72, 105]⟩⟩) 43 (0, 0)) (by omega) (by omega)).mono ?_
  rintro e w5 ⟨rfl, ht⟩
  rw [show decide (([⟨true, 1, false, 0, 0, 0, 0, ⟨#[72, 105]⟩⟩] : List Fr) = [⟨true, 1, false, 0, 0, 0, 0, ⟨#[72, 105]⟩⟩]) = true from decide_eq_true rfl]
  have HS5 := Lib.hid ((HS4.out.no ((Touch.refl _ _).alloc (.cells (Fr.cl ⟨true, 1, false, 0, 0, 0, 0, ⟨#[72, 105]⟩⟩).toArray 43))).no ht)
  have HT5 := Lib.hid ((HT4.out.alloc (.cells (Fr.cl ⟨true, 1, false, 0, 0, 0, 0, ⟨#[72, 105]⟩⟩).toArray 43)).trans ht)
  clear ht hrd HS4 HT4 HO4
  go_wp2_with fail
  refine (st_part HS5.out 0 rfl).mono ?_
  rintro e w5' ⟨rfl, rfl⟩
  go_wp2_with fail
  refine (st_err HS5.out).mono ?_
  rintro e w5' ⟨rfl, rfl⟩
  go_wp2
  go_ret
  exact ⟨rfl, HT5.out⟩
end Go.Proofs.Ytfafpcmdgjmlhaa
