
/- Layer 25 (latest): the walks of both functions Slack. -/
import Derived.Test.YtifopbkhflpbfaaLatW5
namespace Go.Proofs.Ytifopbkhflpbfaa
set_option linter.unusedVariables false
open Go.RowKit Go.Shelf

theorem Pln.ofE_zero {p : Pln} {q : Req} (h : p.ofE q = 0) : p.chk = 0 ∧ q.okB p.quo.length = true ∧ q.ready ≤ gi (p.fixT q) q.src := by
  unfold Pln.ofE at h
  split at h
  · rename_i h0
    split at h
    · rename_i h1
      split at h
      · cases h
      · exact ⟨h0, h1, by omega⟩
    · cases h
  · cases h
theorem Pln.fix_inv {p : Pln} {q : Req} (h : p.chk = 0) (hq : q.okB p.quo.length = true) : LInv p.quo.length q.dead q.dst (p.fixT q) ∧ LFix q.dst q.size p.cons (p.fixT q) := Pln.times_inv (Pln.ok_of h) (Req.argB hq)
def Pln.slackT (p : Pln) (q : Req) : Int := if p.ofE q = 0 then gi (p.fixT q) q.src - q.ready else 0

end Go.Proofs.Ytifopbkhflpbfaa
