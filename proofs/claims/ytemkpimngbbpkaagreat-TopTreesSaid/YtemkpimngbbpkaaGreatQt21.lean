/- Layer 25 (latest): the walks of begin and of the closures. · Layer 25 (latest): the walks of times and of its closures. · Layer 25 (latest): the walks of both functions times. · Layer 25 (latest): the walks of request, Latest, of, Slack. -/
import Derived.Laws.EntriesVeiled
import Derived.Test.YtemkpimngbbpkaaGreatQt01
import Derived.Test.YtemkpimngbbpkaaGreatQt02
import Derived.Test.YtemkpimngbbpkaaGreatQt05
namespace Go.Proofs.YtemkpimngbbpkaaGreat
set_option linter.unusedVariables false
set_option linter.unusedSimpArgs false
section
open Go.RowKit Go.Shelf
end
section
open Go.RowKit Go.Shelf
end
section
open Go.RowKit Go.Shelf
theorem info_int : (Tryz.prog.info? 3).map (fun i => (i.zero, i.size, i.bytes)) = some (some (.int .i64 0), 1, 8) := by kernel_rfl
end
section
open Go.RowKit Go.Shelf
end
end Go.Proofs.YtemkpimngbbpkaaGreat
