/- Events as arguments. -/
import Derived.Test.YtgbldgeknmkmmaaArg
import Derived.Test.YtgbldgeknmkmmaaQa
namespace Go.Proofs.Ytgbldgeknmkmmaa
open Go.RowKit
set_option linter.unusedSimpArgs false
set_option linter.unusedVariables false
def Ev.good (e : Ev) : Prop := (Lit.int .i64 e.op).wf = true ∧ (Lit.int .i64 e.code).wf = true ∧ e.data.size ≤ maxLen
instance : Inhabited Ev := ⟨Ev.zero⟩
theorem dec_ev : Dec 32 Ev.cs Ev.good :=
  (dec_trip 1 1 1 Try.underlying32 rfl rfl rfl (by kernel_rfl) (by kernel_rfl) (by kernel_rfl) (by kernel_rfl) (dec_int Try.underlying3) (dec_int Try.underlying3) (dec_string Try.underlying9)).iso
    (fun x => ⟨x.1, x.2.1, x.2.2⟩) (fun _ => rfl) (fun _ h => h)
theorem open_evs {H : Type} {enc : TypeId × Value → H} {w : World} {base : Nat} {spare : Nat → Bool} {held : Bool} {A : Option Addr} {len cap : Nat} {d : DataW H} {p : List MemPlace}
    (h : DataW.Trod enc Try.prog w base spare held 28 (.slice A len cap) d p) : ∃ l : List Ev, l.length = len ∧ Rd w A (evCells l) ∧ (∀ x ∈ l, x.good) ∧ len ≤ cap ∧ cap ≤ maxLen :=
  open_rd 3 (fun _ => rfl) (by omega) Try.underlying28 (by kernel_rfl) dec_ev h
end Go.Proofs.Ytgbldgeknmkmmaa
