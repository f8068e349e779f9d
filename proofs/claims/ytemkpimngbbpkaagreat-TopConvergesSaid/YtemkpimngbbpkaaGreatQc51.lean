/- TopConverges: the function's name in the program. -/
import Derived.Test.YtemkpimngbbpkaaGreatRows
import Derived.ProofKit
import Derived.JoinedOf
namespace Go.Proofs.YtemkpimngbbpkaaGreat
set_option linter.unusedVariables false
set_option linter.unusedSimpArgs false
open Go.ChangeShapes Go.WideShapes Go.ChangeAt Go.RowKit
set_option maxRecDepth 100000 in
theorem topConverges_named : Tryz.pinned.checked.prog.funcNamed Rows.topConvergesRow.func = some 5 := by kernel_rfl
end Go.Proofs.YtemkpimngbbpkaaGreat
