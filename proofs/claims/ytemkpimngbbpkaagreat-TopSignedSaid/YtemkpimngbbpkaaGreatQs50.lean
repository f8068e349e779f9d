/- TopSigned: what the row says of the program, reckoned: unfollowed. · TopSigned: what the row says of the program, reckoned: named. · TopSigned: the function's name in the program. -/
import Derived.Test.YtemkpimngbbpkaaGreatRows
import Derived.ProofKit
import Derived.JoinedOf
namespace Go.Proofs.YtemkpimngbbpkaaGreat
set_option linter.unusedVariables false
set_option linter.unusedSimpArgs false
section
open Go.ChangeShapes Go.WideShapes Go.ChangeAt Go.RowKit
set_option maxRecDepth 100000 in
theorem topSigned_j_unfollowed : (Rows.topSignedRow.unfollowed == Tryz.pinned.checked.prog.unfollowed 7) = true := by kernel_rfl
end
section
open Go.ChangeShapes Go.WideShapes Go.ChangeAt Go.RowKit
set_option maxRecDepth 100000 in
theorem topSigned_j_named : (Rows.topSignedRow.named == Tryz.pinned.checked.prog.varsNamed 7) = true := by kernel_rfl
end
section
open Go.ChangeShapes Go.WideShapes Go.ChangeAt Go.RowKit
set_option maxRecDepth 100000 in
theorem topSigned_named : Tryz.pinned.checked.prog.funcNamed Rows.topSignedRow.func = some 7 := by kernel_rfl
end
end Go.Proofs.YtemkpimngbbpkaaGreat
