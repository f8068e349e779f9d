/- TopTrees: what the row says of the program, reckoned. · TopTrees: the function's name in the program. -/
import Derived.Test.YtemkpimngbbpkaaGreatRows
import Derived.ProofKit
import Derived.JoinedOf
namespace Go.Proofs.YtemkpimngbbpkaaGreat
set_option linter.unusedVariables false
set_option linter.unusedSimpArgs false
section
open Go.ChangeShapes Go.WideShapes Go.ChangeAt Go.RowKit
set_option maxRecDepth 100000 in
theorem topTrees_joined : joinedFacts Tryz.pinned.checked.prog 6 Tryz.f6 Rows.topTreesSpec Rows.topTreesRow = true := by kernel_rfl
end
section
open Go.ChangeShapes Go.WideShapes Go.ChangeAt Go.RowKit
set_option maxRecDepth 100000 in
theorem topTrees_named : Tryz.pinned.checked.prog.funcNamed Rows.topTreesRow.func = some 6 := by kernel_rfl
end
end Go.Proofs.YtemkpimngbbpkaaGreat
