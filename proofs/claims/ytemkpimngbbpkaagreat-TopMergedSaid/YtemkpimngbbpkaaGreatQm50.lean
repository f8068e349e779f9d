/- TopMerged: what the row says of the program, reckoned. -/
import Derived.Test.YtemkpimngbbpkaaGreatRows
import Derived.ProofKit
import Derived.JoinedOf
namespace Go.Proofs.YtemkpimngbbpkaaGreat
set_option linter.unusedVariables false
set_option linter.unusedSimpArgs false
set_option linter.unusedVariables false
open Go.ChangeShapes Go.WideShapes Go.ChangeAt Go.RowKit

set_option maxRecDepth 100000 in
theorem topMerged_joined : joinedFacts Tryz.pinned.checked.prog 4 Tryz.f4 Rows.topMergedSpec Rows.topMergedRow = true := by kernel_rfl
end Go.Proofs.YtemkpimngbbpkaaGreat
