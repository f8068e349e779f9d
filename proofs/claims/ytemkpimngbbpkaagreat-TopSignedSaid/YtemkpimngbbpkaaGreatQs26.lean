/- slices.Sort at []int: the library's contract, laid at this seat by the kit's lay-shelf.mjs and lay-plain.mjs. -/
import Derived.Sort.OwnSortedInts
import Derived.Shelf.Sort.Plain
import Derived.Shelf.Slices.In.SortNone
import Derived.Test.YtemkpimngbbpkaaGreatProg
import Derived.Test.YtemkpimngbbpkaaGreatQs01
namespace Go.Proofs
set_option linter.unusedVariables false
set_option linter.unusedSimpArgs false
open Go.Shelf
end Go.Proofs
namespace Go.Proofs.YtemkpimngbbpkaaGreat
set_option linter.unusedVariables false
set_option linter.unusedSimpArgs false
open Go.RowKit Go.Sort
end Go.Proofs.YtemkpimngbbpkaaGreat
