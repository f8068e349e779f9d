
/- Layer 26 (reach): the walks of valid (with ContainsFunc at numbers), of the law's fine, and of the reference's check and Great. -/
import Derived.Test.YtmaengcmhopmbaaGreatPlnA
import Derived.Test.YtmaengcmhopmbaaGreatPlnW
namespace Go.Proofs.YtmaengcmhopmbaaGreat
set_option linter.unusedVariables false
set_option linter.unusedSimpArgs false
open Go.RowKit Go.Shelf

/-- A function value that answers p of a number, and makes memory at most. -/
structure PredI (w0 : World) (f : FuncId) (cs : Array Value) (p : Int → Bool) : Prop where
  enters : ∀ args w, (callFunc f args).run Tryz.prog w = .ok (.enter f args) w
  says : ∀ (x : Int) (w : World), Ext w0 w → Calls Tryz.prog f (#[.int .i64 x] ++ cs) w fun e w' => e = .returned (.bool (p x)) ∧ Ext w w'

/-- A node that is none. -/
def noNode (N : Nat) (x : Int) : Bool := decide (x < 0) || decide ((N : Int) ≤ x)
theorem noNode_any {N : Nat} {l : List Int} : l.any (noNode N) = !decide (∀ x ∈ l, 0 ≤ x ∧ x < N) := by
  rw [Bool.eq_iff_iff]
  simp only [List.any_eq_true, noNode, Bool.or_eq_true, decide_eq_true_eq, Bool.not_eq_true', decide_eq_false_iff_not]
  constructor
  · rintro ⟨x, hx, h⟩ hh
    have := hh x hx
    omega
  · intro hh
    apply Classical.byContradiction
    intro hn
    apply hh
    intro x hx
    apply Classical.byContradiction
    intro h2
    exact hn ⟨x, hx, by omega⟩
end Go.Proofs.YtmaengcmhopmbaaGreat
