/- slices.Repeat of one number. -/
import Derived.Test.YtemkpimngbbpkaaGreatRows
import Derived.Laws.CopyOwn
import Derived.Deep.RegionLaw
import Derived.Laws.IdiomCopy
import Derived.StillTailTactics
import Derived.Test.YtemkpimngbbpkaaGreatQs01
namespace Go.Proofs.YtemkpimngbbpkaaGreat
set_option linter.unusedVariables false
set_option linter.unusedSimpArgs false
open Go.RowKit
end Go.Proofs.YtemkpimngbbpkaaGreat
