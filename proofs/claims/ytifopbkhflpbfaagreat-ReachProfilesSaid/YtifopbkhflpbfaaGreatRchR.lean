
/- Layer 26 (reach): the reference's matrix. -/
import Derived.Test.YtifopbkhflpbfaaGreatRchC
namespace Go.Proofs.YtifopbkhflpbfaaGreat
set_option linter.unusedVariables false
set_option linter.unusedSimpArgs false
open Go.RowKit Go.Shelf

/-- What the reference's Matrix returns, in memory. -/
theorem Pln.row_take (p : Pln) (src r d n : Int) {j : Nat} (h : j < p.quo.length) : (p.row src r d n).take (j + 1) = (p.row src r d n).take j ++ [p.rch src (j : Int) r d n] := by
  have e : (p.row src r d n)[j]? = some (p.rch src (j : Int) r d n) := by
    unfold Pln.row
    simp only [List.getElem?_map, List.getElem?_range h, Option.map_some]
  rw [List.take_add_one, e]
  rfl

end Go.Proofs.YtifopbkhflpbfaaGreat
