
/- Layer 24 (journey): the walk of valid. · Layer 24 (journey): the walks of slices.Contains of numbers and of Check. -/
import Derived.Test.YtbgdglcnminbaaaGreatJrW1
import Derived.Test.YtbgdglcnminbaaaGreatReqW1
import Derived.Test.YtbgdglcnminbaaaGreatJrA
namespace Go.Proofs.YtbgdglcnminbaaaGreat
set_option linter.unusedVariables false
set_option linter.unusedSimpArgs false
open Go.RowKit Go.Shelf

end Go.Proofs.YtbgdglcnminbaaaGreat

namespace Go.Proofs.YtbgdglcnminbaaaGreat
set_option linter.unusedVariables false
set_option linter.unusedSimpArgs false
open Go.RowKit Go.Shelf

theorem chkL_step {cons : List Con} {n dest D a now : Int} {seen : List Int} {l : List Hp} {j : Nat} {y : Hp} (h : j < l.length) (hy : l[j] = y) :
    chkL cons n dest D a now seen (l.drop j) = chkL cons n dest D a now seen (y :: l.drop (j + 1)) := by
  rw [List.drop_eq_getElem_cons h, hy]
theorem fitsR_ok {c : Con} {b n : Int} (h : c.Ok) (hn : 1 ≤ n ∧ n ≤ 65536) : c.fitsR b n = c.fitsB b n := by
  unfold Con.fitsR
  rw [Con.arg_ok.2 ⟨h, hn⟩]
  simp

end Go.Proofs.YtbgdglcnminbaaaGreat
