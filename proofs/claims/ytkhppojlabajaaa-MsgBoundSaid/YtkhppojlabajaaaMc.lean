/- mask: Put. -/
import Derived.Test.YtkhppojlabajaaaMb
namespace Go.Proofs.Ytkhppojlabajaaa
open Go.RowKit
set_option linter.unusedSimpArgs false
set_option linter.unusedVariables false

/-- A length's bytes. -/
def lenB (n : Nat) : List Int := if n < 126 then [(n : Int)] else if n < 65536 then 126 :: be 2 n else 127 :: be 8 n
theorem lenB_in (n : Nat) : bytesIn (lenB n) := by
  unfold lenB
  split
  · intro x hx; simp at hx; omega
  split
  · intro x hx; rcases List.mem_cons.1 hx with rfl | hx
    · omega
    · exact be_in _ _ x hx
  · intro x hx; rcases List.mem_cons.1 hx with rfl | hx
    · omega
    · exact be_in _ _ x hx
theorem lenB_length (n : Nat) : (lenB n).length = if n < 126 then 1 else if n < 65536 then 3 else 9 := by
  unfold lenB
  split
  · rfl
  split <;> simp [be_length]

set_option maxHeartbeats 1600000 in
set_option maxRecDepth 100000 in
theorem m_put (n : Nat) (hn : n < 9223372036854775808) (w : World) :
    Calls Try.prog 55 #[.int .u64 n] w fun e w' =>
      ∃ v, e = .returned (.tuple #[v, .int .i64 0]) ∧ w'.ownsRow w.heap.size 5 1 v (lenB n).length (u8s (lenB n)) ∧ Touch NoS w w' := by
  by_cases h1 : n < 126
  · have hl : lenB n = [(n : Int)] := by unfold lenB; rw [if_pos h1]
    rw [hl]
    clear hl
    go_enter Try.func55, Try.ntmps55
    go_wp2
    go_ret2
    exact ⟨_, rfl, own_blk (Blk.new w _ #[.int .u8 n]) rfl (Nat.le_refl _) (by simp [maxLen]), (Touch.refl _ _).alloc _⟩
  by_cases h2 : n < 65536
  · have hl : lenB n = 126 :: be 2 n := by unfold lenB; rw [if_neg h1, if_pos h2]
    rw [hl]
    obtain ⟨x, hx⟩ : ∃ x : Int, x = (n : Int) := ⟨_, rfl⟩
    have g1 : 126 ≤ x := by omega
    have g2 : x < 65536 := by omega
    have hn2 : n < 18446744073709551616 := by omega
    have HX := Lib.hid hx
    have HN := Lib.hid hn2
    rw [← hx]
    clear hl h1 h2 hn hx hn2
    go_enter Try.func55, Try.ntmps55
    go_wp2_with fail
    rw [HX.out]
    refine (m_number_ n 2 2 (by decide) HN.out (by omega) _).mono ?_
    rintro e w1 ⟨g, rfl, hg, hb, ht⟩
    have H0 : (w.alloc (.cells #[.int .u8 126] 5)).ownsRow w.heap.size 5 1 (.slice (some ⟨w.heap.size, 0, none⟩) 1 1) 1 [.int .u8 126] := own_blk (Blk.new w _ _) rfl (Nat.le_refl _) (by simp [maxLen])
    have H1 := Lib.hid (own_no H0 ht)
    have HB := Lib.hid hb
    have HT := Lib.hid (((Touch.refl NoS w).alloc (.cells #[.int .u8 126] 5)).trans ht)
    clear hb ht H0
    obtain ⟨i, hi, hz0, hz1, hz2⟩ := info_u8
    go_wp2_with (at_builtin; refine wpList_app_row _ rfl (.tmp 16) (.tmp 18) 36 rfl w.heap.size 5 i _ 1 1 Try.underlying36 hi hz0 hz1 hz2 rfl (by decide) _ 1 [.int .u8 126] rfl H1.out (some ⟨g, 0, none⟩) 2 2 (u8s (be 2 n)) rfl (by simp [u8s, be_length]) (fun _ => ⟨g, 0, rfl, HB.out.lt, fun j u hu => by rw [Nat.zero_add, HB.out.cell]; simpa using hu⟩) (u8s_one _) (by simp [maxLen]) (by omega) (by have := HT.out.size; omega) ?_)
    intro v' w' ho hgr _
    have HO := Lib.hid ho
    have HT2 := Lib.hid (HT.out.grown hgr (fun k hk hl => by simp [Value.ownBlock] at hk; omega))
    clear ho hgr hi hz0 hz1 hz2
    go_wp2
    go_ret2
    refine ⟨v', rfl, ?_, HT2.out⟩
    have := HO.out
    simpa [be_length, u8s] using this
  · have hl : lenB n = 127 :: be 8 n := by unfold lenB; rw [if_neg h1, if_neg h2]
    rw [hl]
    obtain ⟨x, hx⟩ : ∃ x : Int, x = (n : Int) := ⟨_, rfl⟩
    have g1 : 65536 ≤ x := by omega
    have g2 : x < 9223372036854775808 := by omega
    have hn2 : n < 18446744073709551616 := by omega
    have HX := Lib.hid hx
    have HN := Lib.hid hn2
    rw [← hx]
    clear hl h1 h2 hn hx hn2
    go_enter Try.func55, Try.ntmps55
    go_wp2_with fail
    rw [HX.out]
    refine (m_number_ n 8 8 (by decide) HN.out (by omega) _).mono ?_
    rintro e w1 ⟨g, rfl, hg, hb, ht⟩
    have H0 : (w.alloc (.cells #[.int .u8 127] 5)).ownsRow w.heap.size 5 1 (.slice (some ⟨w.heap.size, 0, none⟩) 1 1) 1 [.int .u8 127] := own_blk (Blk.new w _ _) rfl (Nat.le_refl _) (by simp [maxLen])
    have H1 := Lib.hid (own_no H0 ht)
    have HB := Lib.hid hb
    have HT := Lib.hid (((Touch.refl NoS w).alloc (.cells #[.int .u8 127] 5)).trans ht)
    clear hb ht H0
    obtain ⟨i, hi, hz0, hz1, hz2⟩ := info_u8
    go_wp2_with (at_builtin; refine wpList_app_row _ rfl (.tmp 20) (.tmp 22) 36 rfl w.heap.size 5 i _ 1 1 Try.underlying36 hi hz0 hz1 hz2 rfl (by decide) _ 1 [.int .u8 127] rfl H1.out (some ⟨g, 0, none⟩) 8 8 (u8s (be 8 n)) rfl (by simp [u8s, be_length]) (fun _ => ⟨g, 0, rfl, HB.out.lt, fun j u hu => by rw [Nat.zero_add, HB.out.cell]; simpa using hu⟩) (u8s_one _) (by simp [maxLen]) (by omega) (by have := HT.out.size; omega) ?_)
    intro v' w' ho hgr _
    have HO := Lib.hid ho
    have HT2 := Lib.hid (HT.out.grown hgr (fun k hk hl => by simp [Value.ownBlock] at hk; omega))
    clear ho hgr hi hz0 hz1 hz2
    go_wp2
    go_ret2
    refine ⟨v', rfl, ?_, HT2.out⟩
    have := HO.out
    simpa [be_length, u8s] using this
end Go.Proofs.Ytkhppojlabajaaa
