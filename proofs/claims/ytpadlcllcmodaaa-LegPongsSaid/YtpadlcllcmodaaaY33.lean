/- ref13: Frames. -/
import Derived.Test.YtpadlcllcmodaaaY32
import Derived.Test.YtpadlcllcmodaaaY02
import Derived.Deep.RegionLawGrows
/- ref13: Frames. -/
namespace Go.Proofs.Ytpadlcllcmodaaa
open Go.RowKit
set_option linter.unusedSimpArgs false
set_option linter.unusedVariables false

end Go.Proofs.Ytpadlcllcmodaaa
