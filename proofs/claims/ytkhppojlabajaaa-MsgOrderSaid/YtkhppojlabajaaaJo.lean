/- What the rows ask of the program as a whole, once. -/
import Derived.Test.YtkhppojlabajaaaRows
import Derived.ProofKit
import Derived.OpenShut
import Derived.JoinedOf
namespace Go.Proofs.Ytkhppojlabajaaa
set_option linter.unusedSimpArgs false
set_option linter.unusedVariables false
def row0 : OpenClaim := { program := "", sum := "", func := "", spec := "" }
set_option maxRecDepth 100000 in
theorem seat_facts : (Try.prog.stopsHeard && Try.prog.mayEnter && (row0.lifted == Try.prog.liftsFinal) && (Try.prog.make == some row0.make)) = true := by kernel_rfl
set_option maxRecDepth 100000 in
theorem seat_fact5 : (laidOutB Try.prog && mapsRowed Try.prog) = true := by kernel_rfl
set_option maxRecDepth 100000 in
theorem seat_fact6 : (row0.plainKeys == Try.prog.plainKeys) = true := by kernel_rfl
set_option maxRecDepth 100000 in
theorem joined_mk (f : FuncId) (fn : Func) (s : ChangeSpec) (c : OpenClaim)
    (h1 : (c.wf (OpenSpec.ofChange s)) = true) (h2 : (fn.params.all (Try.prog.readableRec ·) && namedTie Try.prog c.named s.vars && (c.stops == []) && (Try.prog.stops == []) && (c.knobs == []) && (Try.prog.stopKnobs == [])) = true)
    (h3 : (c.inPlace == Try.prog.inPlace f) = true) (h4 : (c.unfollowed == Try.prog.unfollowed f) = true) (h5 : (c.recurses == Try.prog.recurses f) = true) (h6 : (c.named == Try.prog.varsNamed f) = true)
    (h7 : ((c.maps == (fn.params.toList ++ s.plain.varTypes Try.prog).any (Try.prog.mapsRec ·)) && (c.ifaces == (fn.params.toList ++ s.plain.varTypes Try.prog).any (Try.prog.ifacesRec ·)) && (c.mapsOut == Try.prog.mapsAmong fn.resultTypes.toList) &&
      (c.loops == (fn.params.toList ++ s.plain.varTypes Try.prog).any (Try.prog.loopsFrom ·)) && (c.wideKeys == (fn.params.toList ++ s.plain.varTypes Try.prog ++ fn.resultTypes.toList).any (Try.prog.wideKeysFrom ·)) &&
      s.vars.all (Try.prog.varReadable ·) && fn.resultTypes.all (fun t => Try.prog.readableRec t && decide (t < Try.prog.types.size)) && (c.ifacesOut == fn.resultTypes.toList.any (Try.prog.ifacesRec ·)) && (c.loopsOut == fn.resultTypes.toList.any (Try.prog.loopsFrom ·))) = true)
    (h8 : c.plainKeys = row0.plainKeys) (h9 : c.shortTexts.isNone = true) (h10 : c.lifted = row0.lifted) (h11 : c.make = row0.make)
    (h12 : ((c.kinds == (if c.domain.isEmpty then [] else fn.params.toList.map fun t => match Try.prog.underlying t with | some (.int k) => some k | _ => none)) && (c.pinned == c.pinnedBy) &&
      (c.veiled == (fn.params.toList ++ s.plain.varTypes Try.prog ++ fn.resultTypes.toList).any (Try.prog.veiledRec ·)) && c.veiledFits Try.prog fn.params.toList (fn.params.toList ++ s.plain.varTypes Try.prog ++ fn.resultTypes.toList)) = true) :
    joinedFacts Try.prog f fn s c = true := by
  have sf := seat_facts
  rw [Bool.and_eq_true, Bool.and_eq_true, Bool.and_eq_true] at sf
  obtain ⟨⟨⟨s1, s2⟩, s3⟩, s4⟩ := sf
  have s5 := seat_fact5
  have s6 := seat_fact6
  rw [← h8] at s6
  rw [← h10] at s3
  rw [← h11] at s4
  unfold joinedFacts
  simp only [Bool.and_eq_true] at *
  obtain ⟨t1, t2⟩ := s5
  obtain ⟨⟨⟨⟨⟨a1, a2⟩, a3⟩, a4⟩, a5⟩, a6⟩ := h2
  obtain ⟨⟨⟨⟨⟨⟨⟨⟨b1, b2⟩, b3⟩, b4⟩, b5⟩, b6⟩, b7⟩, b8⟩, b9⟩ := h7
  obtain ⟨⟨⟨d1, d2⟩, d3⟩, d4⟩ := h12
  refine ⟨⟨⟨⟨⟨⟨⟨⟨⟨⟨⟨⟨⟨⟨⟨⟨⟨⟨⟨⟨⟨⟨⟨⟨⟨⟨⟨⟨⟨⟨⟨h1, t1⟩, t2⟩, a1⟩, a2⟩, a3⟩, a4⟩, a5⟩, a6⟩, h3⟩, h4⟩, h5⟩, h6⟩, b1⟩, b2⟩, b3⟩, b4⟩, b5⟩, b6⟩, b7⟩, b8⟩, b9⟩, s6⟩, h9⟩, s1⟩, s2⟩, s3⟩, s4⟩, d1⟩, d2⟩, d3⟩, d4⟩
end Go.Proofs.Ytkhppojlabajaaa
