/- Update: the table of newest changes (keys: names). -/
import Derived.DeepKeys4
import Derived.Maps.Own
import Derived.Maps.OwnOps
import Derived.Maps.OwnSet
import Derived.Test.YtemkpimngbbpkaaGreatQt37
namespace Go.Proofs.YtemkpimngbbpkaaGreat
set_option linter.unusedVariables false
set_option linter.unusedSimpArgs false
open Go.RowKit Go.Shelf Go.Sort
theorem laidOutZ : laidOutB Tryz.prog = true := by kernel_rfl
theorem nameRow : (244 : TypeId) < Tryz.prog.types.size := of_decide_eq_true (by kernel_rfl)
theorem nameLaw : WideMaps.KeyLaw Tryz.prog 244 := deep_law_laid laidOutZ (m := 2) (by omega) nameRow (by kernel_rfl) (by kernel_rfl)
theorem nameKeyed : Maps.Keyed Tryz.prog 244 := Maps.Keyed.of_law nameLaw
end Go.Proofs.YtemkpimngbbpkaaGreat
