/- TopConverges: what the row says of the program, reckoned. -/
import Derived.Test.YtemkpimngbbpkaaGreatRows
import Derived.ProofKit
import Derived.JoinedOf
namespace Go.Proofs.YtemkpimngbbpkaaGreat
set_option linter.unusedVariables false
set_option linter.unusedSimpArgs false
open Go.ChangeShapes Go.WideShapes Go.ChangeAt Go.RowKit
set_option maxRecDepth 100000 in
theorem topConverges_joined : joinedFacts Tryz.pinned.checked.prog 5 Tryz.f5 Rows.topConvergesSpec Rows.topConvergesRow = true := by kernel_rfl
end Go.Proofs.YtemkpimngbbpkaaGreat
