
/- Layer 22 (plan): the walk of the reference's Check, and of Great. -/
import Derived.Test.YtbgdglcnminbaaaPlnW1
namespace Go.Proofs.Ytbgdglcnminbaaa
set_option linter.unusedVariables false
open Go.RowKit Go.Shelf

def Pln.great (p : Pln) : Bool := decide (20 < p.quo.length) || ((decide (12 < p.cons.length) && decide (p.cons.length ≤ 64)) || decide (70 < p.cons.length))

end Go.Proofs.Ytbgdglcnminbaaa
