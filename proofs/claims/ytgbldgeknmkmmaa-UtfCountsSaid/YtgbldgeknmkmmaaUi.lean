/- The law UtfAscii: the walk. -/
import Derived.Test.YtgbldgeknmkmmaaUg
import Derived.Lib.SlBytesRow
import Derived.DataShut
namespace Go.Proofs.Ytgbldgeknmkmmaa
open Go.RowKit
set_option linter.unusedSimpArgs false
set_option linter.unusedVariables false

theorem conv_one (w : World) (b : Int) (t : TypeId) (fr : Nat × Nat) (cap : Nat) :
    (convert 48 9 (.slice (some ⟨w.heap.size, 0, none⟩) 1 cap)).run Try.prog (w.alloc (.cells #[.int .u8 b] t fr)) = .ok (.string (Go.strOfNums [b])) (w.alloc (.cells #[.int .u8 b] t fr)) :=
  Go.run_convert_bytes_arg (P := Try.prog) _ 48 5 Try.underlying48 Try.underlying5 w.heap.size 0 1 cap [b] rfl (fun i hi => by
    have : i = 0 := by omega
    subst this
    unfold World.cell?
    rw [heap_alloc_new]
    rfl) 9 Try.underlying9
theorem sb_one (b : Int) (h0 : 0 ≤ b) (h1 : b ≤ 255) : sb (Go.strOfNums [b]) = [b] := by
  simp [sb, Go.strOfNums]
  omega
theorem ufeed_ascii (l : List Int) (h : ∀ x ∈ l, x ≤ 127) : ∀ (c : Uc), c.left = 0 → c.bad = false → (ufeed c l).1.left = 0 ∧ (ufeed c l).1.bad = false ∧ (ufeed c l).1.count = c.count + l.length := by
  induction l with
  | nil => intro c h0 hb; exact ⟨h0, hb, by simp [ufeed]⟩
  | cons x l ih =>
    intro c h0 hb
    have hx := h x (by simp)
    have ht : utake c x = (⟨c.left, 128, 191, c.count + 1, c.bad⟩, true) := by
      unfold utake ubegin
      rw [if_pos h0, if_pos (by omega)]
    obtain ⟨r1, r2, r3⟩ := ih (fun y hy => h y (by simp [hy])) ⟨c.left, 128, 191, c.count + 1, c.bad⟩ h0 hb
    have hu : (ufeed c (x :: l)).1 = (ufeed ⟨c.left, 128, 191, c.count + 1, c.bad⟩ l).1 := by
      simp only [ufeed, hb, ht, Bool.false_eq_true, if_false, if_true]
    rw [hu]
    exact ⟨r1, r2, by rw [r3]; simp only [List.length_cons]; omega⟩
theorem ucount_ascii (l : List Int) (h : ∀ x ∈ l, x ≤ 127) : ucount l = ((l.length : Int), true) := by
  obtain ⟨h1, h2, h3⟩ := ufeed_ascii l h Uc.new rfl rfl
  unfold ucount Uc.whole
  rw [h1, h2, h3]
  simp [Uc.new]
theorem ucount_one (b : Int) : (ucount [b]).2 = decide (b < 128) := by
  unfold ucount
  by_cases hb : b < 128
  · simp [ufeed, utake, ubegin, Uc.new, hb, Uc.whole]
  · simp only [ufeed, utake, Uc.new, ubegin, hb, if_false, if_true, Bool.false_eq_true]
    simp only [decide_false]
    repeat (first | split | simp_all [Uc.whole] | rfl)

theorem u8_bounds {b : Int} (h : (Lit.int .u8 b).wf = true) : 0 ≤ b ∧ b ≤ 255 := by
  obtain ⟨h1, h2⟩ := (Lit.wf_int_iff .u8 b).1 h
  rw [show IntKind.u8.min = 0 from rfl] at h1
  rw [show IntKind.u8.max = 255 from rfl] at h2
  exact ⟨h1, h2⟩
theorem u_validg (s : ByteArray) (n cap g : Nat) (hn : s.size = n) (w : World) (hg : w.heap.size = g) (hl : n ≤ 4611686018427387904) :
    Calls Try.prog 35 #[.slice (some ⟨g, 0, none⟩) n cap] (Lib.bytesWorld w 5 s) fun e w' => e = .returned (.bool (ucount (sb s)).2) ∧ Touch NoS w w' := by
  subst hg
  exact u_validc s n cap hn w hl
set_option maxHeartbeats 1600000 in
theorem ascii_row (w : World) (s : ByteArray) (hs : s.size ≤ maxLen) (b : Int) (hb : (Lit.int .u8 b).wf = true) :
    Calls Try.prog 13 #[.string s, .int .u8 b] w fun e w' => e = .returned (.bool true) ∧ Touch NoS w w' := by
  have kv := fun (W : World) (s : ByteArray) => Lib.run_convert_string_bytes (P := Try.prog) W 9 48 5 s Try.underlying9 Try.underlying48 Try.underlying5
  have ko := conv_one
  unfold maxLen at hs
  have hb2 := u8_bounds hb
  obtain ⟨hb0, hb1⟩ := hb2
  have hz1 : (Go.strOfNums [b]).size = 1 := Go.strOfNums_size [b]
  go_enter Try.func13, Try.ntmps13
  go_wp2_with fail
  refine (u_awake _).mono ?_
  rintro e w1 ⟨rfl, ht⟩
  have HT := Lib.hid ht
  clear ht
  by_cases h100 : 100 < s.size
  · go_wp2_with fail
    refine (u_awake _).mono ?_
    rintro e w2 ⟨rfl, ht⟩
    have HT2 := Lib.hid (HT.out.trans ht)
    clear ht
    go_wp2
    go_ret
    exact ⟨rfl, HT2.out⟩
  go_wp2_with fail
  go_loopw [5] (fun i wr => ∃ k : Nat, k ≤ s.size ∧ i = .int .i64 k ∧ (∀ x ∈ (sb s).take k, x ≤ 127) ∧ wr = w1) (fun i _ => s.size - (intOf i).toNat)
  case atStart => exact ⟨0, by omega, rfl, by simp, rfl⟩
  case round =>
    obtain ⟨k, hk, rfl, ha, rfl⟩ := hrel
    by_cases hlt : k < s.size
    · have hget : (sb s)[k]? = some ((s[k].toNat : Nat) : Int) := by
        simp only [sb, List.getElem?_map]
        rw [show s.data.toList[k]? = some s[k] from by simp [hlt]; rfl]
        rfl
      by_cases hx : (127 : Int) < (s[k].toNat : Int)
      · clear hget
        go_wp2
        go_ret
        exact ⟨rfl, HT.out⟩
      · have hx' : (s[k].toNat : Int) ≤ 127 := by omega
        have hk1 : ∀ x ∈ (sb s).take (k + 1), x ≤ 127 := by
          intro x hxm
          rw [List.take_add_one, hget] at hxm
          rcases List.mem_append.1 hxm with h | h
          · exact ha x h
          · simp at h
            omega
        have HK := Lib.hid hk1
        clear hget hk1 ha
        go_wp2_with fail
        go_roundw
        · exact ⟨k + 1, by omega, by go_num, HK.out, trivial⟩
        · simp [intOf]; omega
    · have hall : ∀ x ∈ sb s, x ≤ 127 := by
        rw [List.take_of_length_le (by rw [sb_length]; omega)] at ha
        exact ha
      have hc := ucount_ascii _ hall
      rw [sb_length] at hc
      have HC := Lib.hid hc
      clear hc hall ha
      go_wp2_with fail
      refine (u_countc s _ _ rfl _ (by omega)).mono ?_
      rintro e w2 ⟨rfl, ht⟩
      have HT2 := Lib.hid (HT.out.trans ht)
      clear ht HT
      rw [HC.out]
      go_wp2_with fail
      by_cases h128 : b < 128
      · have e1 : (ucount [b]).2 = true := by rw [ucount_one]; simp [h128]
        have e2 : (ucount (sb (s ++ Go.strOfNums [b]))).2 = true := by
          rw [sb_append, sb_one b hb0 hb1, (ucount_join _ _ (by rw [HC.out])).1, e1]
        have E2 := Lib.hid e2
        clear e2
        refine (u_valid_ _ [b] 1 true e1 _ (Rd.new w2 (u8s [b]) _ _) (by simp [bytesIn]; omega) (by intro a ha; injection ha with ha; subst ha; simp) (by simp)).mono ?_
        rintro e w3 ⟨rfl, ht⟩
        have HT3 := Lib.hid ((HT2.out.alloc _).trans ht)
        clear ht HT2
        go_wp2_with fail
        refine (u_validg (s ++ Go.strOfNums [b]) (s.size + 1) _ (w3.heap.size + 1) (by rw [ByteArray.size_append, hz1]) (w3.alloc (.cells #[.int .u8 b] 5)) (by simp) (by omega)).mono ?_
        rintro e w4 ⟨rfl, ht⟩
        have HT4 := Lib.hid ((HT3.out.alloc _).trans ht)
        clear ht HT3
        rw [E2.out]
        go_wp2
        go_ret
        exact ⟨rfl, HT4.out⟩
      · have e1 : (ucount [b]).2 = false := by rw [ucount_one]; simp [h128]
        have e2 : (ucount (sb (s ++ Go.strOfNums [b]))).2 = false := by
          rw [sb_append, sb_one b hb0 hb1, (ucount_join _ _ (by rw [HC.out])).1, e1]
        have E2 := Lib.hid e2
        clear e2
        refine (u_valid_ _ [b] 1 false e1 _ (Rd.new w2 (u8s [b]) _ _) (by simp [bytesIn]; omega) (by intro a ha; injection ha with ha; subst ha; simp) (by simp)).mono ?_
        rintro e w3 ⟨rfl, ht⟩
        have HT3 := Lib.hid ((HT2.out.alloc _).trans ht)
        clear ht HT2
        go_wp2_with fail
        refine (u_validg (s ++ Go.strOfNums [b]) (s.size + 1) _ (w3.heap.size + 1) (by rw [ByteArray.size_append, hz1]) (w3.alloc (.cells #[.int .u8 b] 5)) (by simp) (by omega)).mono ?_
        rintro e w4 ⟨rfl, ht⟩
        have HT4 := Lib.hid ((HT3.out.alloc _).trans ht)
        clear ht HT3
        rw [E2.out]
        go_wp2
        go_ret
        refine ⟨?_, HT4.out⟩
        show Ending.returned (.bool !decide (b < 128)) = _
        simp [h128]
end Go.Proofs.Ytgbldgeknmkmmaa
