/- bridge: an end comes; plain Lean. -/
import Derived.Test.YtlnabpoohnphiaaGreatB45
namespace Go.Proofs.YtlnabpoohnphiaaGreat
open Go.RowKit
set_option linter.unusedSimpArgs false
set_option linter.unusedVariables false

section
variable {K : Bk} {M : Nat} {d : Int}
theorem ctl8_fits {D : ByteArray} (hD : D.size ≤ 125) {k : Lk} (hk : k.masks = true) : fits (!k.masks) (most16 k) (ctlF 8 D) ∧ (fput (ctlF 8 D)).length ≤ 139 ∧ form9 (ctlF 8 D) = true ∧ (ctlF 8 D).good ∧ bytesIn (fput (ctlF 8 D)) := by
  have hc : okC (ctlF 8 D) := okC.ctl (.inl rfl) hD
  obtain ⟨h1, h2, h3, h4⟩ := fits_C hc
  have hf : fits (!k.masks) (most16 k) (ctlF 8 D) := ⟨h1, h2, by rw [hk]; rfl, by show (D.size : Int) ≤ _; unfold most16; omega⟩
  refine ⟨hf, ?_, h2, h1, ?_⟩
  · rw [fput_length]
    have := size9_le (ctlF 8 D)
    have h5 : (ctlF 8 D).data = D := rfl
    rw [h5] at this
    omega
  · have := fits_in [ctlF 8 D] (fun g hg => by simp at hg; rw [hg]; exact hf)
    simpa using this
theorem new_calm (M : Nat) (d : Int) : Calm (Br.new M d) := ⟨fun _ => rfl, fun _ => rfl, fun _ => rfl, fun _ => rfl⟩
theorem end_feed (ho : ∀ j, 139 ≤ (K.k j).out) (hr : roomL K [] K.message = true) (hk : (K.k true).masks = true) {D : ByteArray} (hD : D.size ≤ 125) (hg : (cget D).2.2 = 0) (hw : (cget D).2.1 = ⟨#[]⟩) :
    ∃ B', (Br.new M d).feed K true (fput (ctlF 8 D)) = (B', (fput (ctlF 8 D)).length) ∧ Both17 K B' true true 0 d d D D := by
  obtain ⟨h1, h2, -⟩ := ctl8_fits hD hk
  have hl : (fput (ctlF 8 D)).length ≤ maxLen := by unfold maxLen; omega
  exact ⟨_, bare_feed (K := K) (i := true) (M := M) (d := d) (new_calm M d) rfl h1 hl hr, end_hear (K := K) (i := true) (M := M) (di := d) (d2 := d) (new_calm M d) rfl rfl ho h1 hl rfl hg hw⟩
theorem end_feed_bad (ho : ∀ j, 139 ≤ (K.k j).out) (hr : roomL K [] K.message = true) (hk : (K.k true).masks = true) {D : ByteArray} (hD : D.size ≤ 125) (hg : (cget D).2.2 = 110) :
    ∃ B', (Br.new M d).feed K true (fput (ctlF 8 D)) = (B', (fput (ctlF 8 D)).length) ∧ Both17 K B' true false 110 d d ⟨#[3, 234]⟩ ⟨#[3, 233]⟩ := by
  obtain ⟨h1, h2, -⟩ := ctl8_fits hD hk
  have hl : (fput (ctlF 8 D)).length ≤ maxLen := by unfold maxLen; omega
  obtain ⟨m', hfd⟩ := feed_end_bad (k := K.k true) (M := M) (d := d) (ho true) h1 rfl hg (by decide) hl
  exact ⟨_, bare_feed (K := K) (i := true) (M := M) (d := d) (new_calm M d) rfl h1 hl hr, bad_hear (K := K) (B := Br.new M d) (i := true) (M := M) (di := d) (d2 := d) (new_calm M d) rfl (ho false) (xi := ⟨#[3, 234]⟩) hfd rfl rfl rfl (show (110 : Int) ≠ 0 by decide) rfl⟩
theorem cget_code {c : Int} (h0 : 0 ≤ c) (h1 : c ≤ 65535) : cget (Go.strOfNums [c / 256, c % 256]) = if valid11 c = false then (0, ⟨#[]⟩, 110) else (c, ⟨#[]⟩, 0) := by
  have hg := cget_two c h0 h1 ⟨#[]⟩ (by decide)
  have hn : Go.strOfNums [c / 256, c % 256] ++ (⟨#[]⟩ : ByteArray) = Go.strOfNums [c / 256, c % 256] := by
    apply ByteArray.ext
    simp
  rw [hn, lets_nil, if_neg (show ¬ (true = false) by simp)] at hg
  exact hg
end
end Go.Proofs.YtlnabpoohnphiaaGreat
