
/- Layer 24 (journey): the walk of valid. -/
import Derived.Test.YtbgdglcnminbaaaGreatJrW1
import Derived.Test.YtbgdglcnminbaaaGreatReqW1
namespace Go.Proofs.YtbgdglcnminbaaaGreat
set_option linter.unusedVariables false
set_option linter.unusedSimpArgs false
open Go.RowKit Go.Shelf

end Go.Proofs.YtbgdglcnminbaaaGreat
