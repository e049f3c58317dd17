/- ref10: Same, Few, Text. -/
import Derived.Test.YtpadlcllcmodaaaY21
namespace Go.Proofs.Ytpadlcllcmodaaa
open Go.RowKit
set_option linter.unusedSimpArgs false
set_option linter.unusedVariables false

instance : DecidableEq Fr := fun f g => decidable_of_iff (f.same g = true) (Fr.same_iff f g)
end Go.Proofs.Ytpadlcllcmodaaa
