/- TopSigned: what the row says of the program, reckoned: inPlace. · TopSigned: what the row says of the program, reckoned: recurses. · TopSigned: what the row says of the program, reckoned. -/
import Derived.Test.YtemkpimngbbpkaaGreatRows
import Derived.ProofKit
import Derived.JoinedOf
import Derived.Test.YtemkpimngbbpkaaGreatQs50
namespace Go.Proofs.YtemkpimngbbpkaaGreat
set_option linter.unusedVariables false
set_option linter.unusedSimpArgs false
section
open Go.ChangeShapes Go.WideShapes Go.ChangeAt Go.RowKit
set_option maxRecDepth 100000 in
theorem topSigned_j_inPlace : (Rows.topSignedRow.inPlace == Tryz.pinned.checked.prog.inPlace 7) = true := by kernel_rfl
end
section
open Go.ChangeShapes Go.WideShapes Go.ChangeAt Go.RowKit
set_option maxRecDepth 100000 in
theorem topSigned_j_recurses : (Rows.topSignedRow.recurses == Tryz.pinned.checked.prog.recurses 7) = true := by kernel_rfl
end
section
open Go.ChangeShapes Go.WideShapes Go.ChangeAt Go.RowKit
theorem and_tt {a b : Bool} (h : a = true) (k : b = true) : (a && b) = true := by rw [h, k]; rfl
set_option maxRecDepth 100000 in
theorem topSigned_joined : joinedFacts Tryz.pinned.checked.prog 7 Tryz.f7 Rows.topSignedSpec Rows.topSignedRow = true := by
 unfold joinedFacts
 iterate 31 refine and_tt ?_ (by first | with_reducible exact topSigned_j_inPlace | with_reducible exact topSigned_j_unfollowed | with_reducible exact topSigned_j_recurses | with_reducible exact topSigned_j_named | kernel_rfl)
 kernel_rfl
end
end Go.Proofs.YtemkpimngbbpkaaGreat
