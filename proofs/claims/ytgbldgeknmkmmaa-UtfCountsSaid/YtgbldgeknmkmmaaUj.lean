/- The law UtfCuts: the walk. -/
import Derived.Test.YtgbldgeknmkmmaaUi
namespace Go.Proofs.Ytgbldgeknmkmmaa
open Go.RowKit
set_option linter.unusedSimpArgs false
set_option linter.unusedVariables false

def glue (l : List ByteArray) : ByteArray := ⟨(l.flatMap fun s => s.data.toList).toArray⟩
theorem glue_add (l : List ByteArray) (k : Nat) (hk : k < l.length) : glue (l.take k) ++ l[k] = glue (l.take (k + 1)) := by
  apply ByteArray.ext
  apply Array.toList_inj.1
  rw [show l.take (k + 1) = l.take k ++ [l[k]] from by rw [List.take_add_one, List.getElem?_eq_getElem hk]; rfl]
  generalize l.take k = q
  simp [glue]
theorem glue_nil : glue [] = ⟨#[]⟩ := rfl
theorem str_at {w : World} {A : Option Addr} {l : List ByteArray} (h : Rd w A (l.flatMap fun x => [.string x])) (k : Nat) (hk : k < l.length) : ∃ g off, A = some ⟨g, off, none⟩ ∧ g < w.heap.size ∧ w.cell? ⟨g, off + k, none⟩ = some (.string l[k]) := by
  have hf : ∀ l : List ByteArray, (l.flatMap fun x => [Value.string x]) = l.map Value.string := fun l => by induction l <;> simp_all
  rw [hf] at h
  obtain ⟨g, off, rfl, hg, hc⟩ := h (by intro h0; simp at h0; rw [h0] at hk; exact absurd hk (by simp))
  exact ⟨g, off, rfl, hg, hc k _ (by simp [hk])⟩
theorem ufeed_glue (l : List ByteArray) (k : Nat) (hk : k < l.length) (c : Uc) : ufeed c (sb (glue (l.take (k + 1)))) = ((ufeed (ufeed c (sb (glue (l.take k)))).1 (sb l[k])).1, (ufeed c (sb (glue (l.take k)))).2 + (ufeed (ufeed c (sb (glue (l.take k)))).1 (sb l[k])).2) := by
  rw [← glue_add l k hk, sb_append]
  exact Prod.ext (ufeed_append _ _ c).1 (ufeed_append _ _ c).2

set_option maxHeartbeats 1600000 in
theorem cuts_row (w : World) (A : Option Addr) (l : List ByteArray) (cap : Nat) (hr : Rd w A (l.flatMap fun x => [.string x])) (hg : ∀ x ∈ l, x.size ≤ maxLen) (hlc : l.length ≤ cap) (hc : cap ≤ maxLen) :
    Calls Try.prog 14 #[.slice A l.length cap] w fun e w' => e = .returned (.bool true) ∧ Touch NoS w w' := by
  have kv := fun (W : World) (s : ByteArray) => Lib.run_convert_string_bytes (P := Try.prog) W 9 48 5 s Try.underlying9 Try.underlying48 Try.underlying5
  have HR := Lib.hid hr
  have HG := Lib.hid hg
  clear hr hg
  unfold maxLen at hc
  go_enter Try.func14, Try.ntmps14
  go_wp2_with fail
  refine (u_new _).mono ?_
  rintro e w1 ⟨g, rfl, hgw, hu, ht⟩
  have HU := Lib.hid hu
  have HT := Lib.hid ht
  clear hu ht
  go_wp2_with fail
  refine (u_awake _).mono ?_
  rintro e w2 ⟨rfl, ht⟩
  have HU2 := Lib.hid (HU.out.no ht)
  have HT2 := Lib.hid (HT.out.trans ht)
  clear ht HU HT
  by_cases h20 : 20 < l.length
  · go_wp2_with fail
    refine (u_awake _).mono ?_
    rintro e w3 ⟨rfl, ht⟩
    have HT3 := Lib.hid (HT2.out.trans ht)
    clear ht
    go_wp2
    go_ret
    exact ⟨rfl, HT3.out⟩
  go_wp2_with fail
  go_loopw [6, 4, 5] (fun i a n wr => ∃ k : Nat, k ≤ l.length ∧ i = .int .i64 k ∧ a = .string (glue (l.take k)) ∧ n = .int .i64 (ufeed Uc.new (sb (glue (l.take k)))).2 ∧ (glue (l.take k)).size ≤ 50 * k ∧ IsU wr g (ufeed Uc.new (sb (glue (l.take k)))).1 ∧ Touch NoS w wr) (fun i _ _ _ => l.length - (intOf i).toNat)
  case atStart => exact ⟨0, by omega, rfl, rfl, rfl, by simp [glue, ByteArray.size], HU2.out, HT2.out⟩
  case round =>
    obtain ⟨k, hk, rfl, rfl, rfl, hz, hu, ht⟩ := hrel
    have HU := Lib.hid hu
    have HT := Lib.hid ht
    clear hu ht HU2 HT2
    by_cases hlt : k < l.length
    · obtain ⟨gA, off, rfl, hgA, ca⟩ := str_at (HR.out.touch_no HT.out) k hlt
      obtain ⟨x, hx⟩ : ∃ x, x = l[k] := ⟨_, rfl⟩
      have hxz : x.size ≤ 2 ^ 63 - 1 := by rw [hx]; exact HG.out _ (List.getElem_mem hlt)
      rw [← hx] at ca
      obtain ⟨p, hp⟩ : ∃ p, p = glue (l.take k) := ⟨_, rfl⟩
      have hnext : glue (l.take (k + 1)) = p ++ x := by rw [hp, hx, glue_add]
      have hfeed := ufeed_glue l k hlt Uc.new
      rw [hnext, ← hp, ← hx] at hfeed
      rw [← hp] at hz HU ⊢
      have HN := Lib.hid hnext
      have HF := Lib.hid hfeed
      clear hx hp hnext hfeed
      by_cases h50 : 50 < x.size
      · go_wp2
        go_ret
        exact ⟨rfl, HT.out⟩
      have hps : p.size ≤ 1000 := by omega
      have hok := ufeed_ok (sb p) new_ok
      have hok1 := hok.1
      have hcnt : (ufeed Uc.new (sb p)).1.count ≤ 1000 := by
        have := hok.2.1
        rw [sb_length] at this
        simp only [Uc.new, Int.zero_add] at this ⊢
        omega
      obtain ⟨n, hn⟩ : ∃ n, n = (ufeed Uc.new (sb p)).2 := ⟨_, rfl⟩
      have hnb : n ≤ 1000 := by
        have := hok.2.2.2
        rw [sb_length] at this
        omega
      rw [← hn] at HF ⊢
      obtain ⟨m, hm⟩ : ∃ m, m = (ufeed (ufeed Uc.new (sb p)).1 (sb x)).2 := ⟨_, rfl⟩
      have hmb : m ≤ 1000 := by
        have := (ufeed_ok (sb x) hok1).2.2.2
        rw [sb_length] at this
        omega
      have HM := Lib.hid hm
      have HOK := Lib.hid hok1
      have HC := Lib.hid hcnt
      clear hok hn hm hok1 hcnt
      go_wp2_with fail
      refine (u_feedc g _ x _ _ rfl _ HU.out HOK.out (by have := HC.out; omega)).mono ?_
      rintro e w3 ⟨rfl, hu, ht⟩
      have HU3 := Lib.hid hu
      have HT3 := Lib.hid (HT.out.at_new ht hgw)
      clear hu ht
      rw [← HM.out]
      go_wp2_with fail
      go_roundw
      · refine ⟨k + 1, by omega, by go_num, by rw [HN.out], by rw [HN.out, HF.out, ← HM.out]; go_num, by rw [HN.out, ByteArray.size_append]; omega, ?_, HT3.out⟩
        rw [HN.out, HF.out]
        exact HU3.out
      · simp [intOf]; omega
    · have hkl : k = l.length := by omega
      subst hkl
      rw [List.take_length] at hz HU ⊢
      obtain ⟨p, hp⟩ : ∃ p, p = glue l := ⟨_, rfl⟩
      rw [← hp] at hz HU ⊢
      clear hp HR HG
      have hps : p.size ≤ 1000 := by omega
      have hok := ufeed_ok (sb p) new_ok
      obtain ⟨n, hn⟩ : ∃ n, n = (ufeed Uc.new (sb p)).2 := ⟨_, rfl⟩
      have hnb : n ≤ 1000 := by
        have := hok.2.2.2
        rw [sb_length] at this
        omega
      rw [← hn]
      have HN := Lib.hid hn
      clear hn hok
      obtain ⟨c, hc⟩ : ∃ c, c = (ufeed Uc.new (sb p)).1 := ⟨_, rfl⟩
      rw [← hc] at HU
      have HC := Lib.hid hc
      clear hc
      go_wp2_with fail
      refine (u_new _).mono ?_
      rintro e w3 ⟨d, rfl, hdw, hu, ht⟩
      have HD3 := Lib.hid hu
      have HU3 := Lib.hid (HU.out.no ht)
      have hgd : g ≠ d := by have := HU.out.lt; omega
      have hdw' : w.heap.size ≤ d := by have := HT.out.size; omega
      have HT3 := Lib.hid (HT.out.trans ht)
      clear hu ht HU HT
      go_wp2_with fail
      refine (u_feedc d _ p _ _ rfl _ HD3.out new_ok (by simp [Uc.new]; omega)).mono ?_
      rintro e w4 ⟨rfl, hu, ht⟩
      have HD4 := Lib.hid hu
      have HU4 := Lib.hid (Blk.touch HU3.out ht hgd)
      have HT4 := Lib.hid (HT3.out.at_new ht hdw')
      clear hu ht HU3 HT3 HD3
      rw [← HC.out] at HD4
      rw [← HN.out]
      go_wp2_with fail
      refine (u_right d _ _ HD4.out).mono ?_
      rintro e w5 ⟨rfl, rfl⟩
      go_wp2_with fail
      refine (u_right g _ _ HU4.out).mono ?_
      rintro e w5 ⟨rfl, rfl⟩
      have hb1 : ((!c.bad) != (!c.bad)) = false := by simp
      go_wp2_with fail
      refine (u_whole d _ _ HD4.out).mono ?_
      rintro e w5 ⟨rfl, rfl⟩
      go_wp2_with fail
      refine (u_whole g _ _ HU4.out).mono ?_
      rintro e w5 ⟨rfl, rfl⟩
      have hb2 : (c.whole != c.whole) = false := by simp
      go_wp2_with fail
      refine (u_reset g _ _ HU4.out).mono ?_
      rintro e w5 ⟨rfl, hu, ht⟩
      have HU5 := Lib.hid hu
      have HT5 := Lib.hid (HT4.out.at_new ht hgw)
      clear hu ht HD4 HU4 HT4
      go_wp2_with fail
      refine (u_right g _ _ HU5.out).mono ?_
      rintro e w6 ⟨rfl, rfl⟩
      rw [show (!Uc.new.bad) = true from rfl]
      go_wp2_with fail
      refine (u_whole g _ _ HU5.out).mono ?_
      rintro e w6 ⟨rfl, rfl⟩
      rw [show Uc.new.whole = true from rfl]
      go_wp2_with fail
      refine (u_feedc g _ p _ _ rfl _ HU5.out new_ok (by simp [Uc.new]; omega)).mono ?_
      rintro e w6 ⟨rfl, hu, ht⟩
      have HT6 := Lib.hid (HT5.out.at_new ht hgw)
      clear hu ht HU5 HT5
      rw [← HN.out]
      go_wp2
      go_ret
      exact ⟨rfl, HT6.out⟩
end Go.Proofs.Ytgbldgeknmkmmaa
