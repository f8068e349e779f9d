
/- Layer 24 (journey): the walk of valid. -/
import Derived.Test.YtbgdglcnminbaaaJrW1
import Derived.Test.YtbgdglcnminbaaaReqW1
namespace Go.Proofs.Ytbgdglcnminbaaa
set_option linter.unusedVariables false
set_option linter.unusedSimpArgs false
open Go.RowKit Go.Shelf

set_option maxRecDepth 100000 in
set_option maxHeartbeats 4000000 in
theorem valid_any (Aq : Option Addr) (cq : Nat) (Ac : Option Addr) (cc : Nat) (p : Pln) (q : Req) (w : World) (hn : p.quo.length ≤ 1000000) :
    Calls Try.prog 40 #[p.val Aq cq Ac cc, q.val] w fun e w' => e = .returned (.bool (q.okB p.quo.length)) ∧ Ext w w' := by
  obtain ⟨W, hW, hB, hk, hk2, hlt, hlt2⟩ := box2 w #[.slice Aq p.quo.length cq, .slice Ac p.cons.length cc] q.cells 25 31
  simp only [Req.cells] at hW hk2
  have hc := hk.cell
  have hc2 := hk2.cell
  cases hq : q.okB p.quo.length
  · have hq2 := hq
    simp only [Req.okB, decide_eq_false_iff_not] at hq2
    have Hq := Lib.hid hq2
    have Hq3 := Lib.hid hq
    clear hq hq2
    unfold Pln.val Req.val
    go_enter Try.func40, Try.ntmps40
    go_wp2
    all_goals go_ret
    all_goals refine ⟨ret_bool ?_, hB⟩
    all_goals (try rfl)
    all_goals first
      | (exfalso; apply Hq.out; clear hc hc2 hk hk2 hW hB Hq Hq3; (try simp_all); (try omega); done)
      | (clear hc hc2 hk hk2 hW hB; (by_cases h9 : q.prio ≤ 2) <;> first | (exfalso; apply Hq.out; clear Hq Hq3; (try simp_all); (try omega); done) | (simp [h9]; done))
  · have hq2 := hq
    simp only [Req.okB, decide_eq_true_eq] at hq2
    obtain ⟨a1, a2, a3, a4, a5, a6, a7, a8, a9, a10, a11, a12⟩ := hq2
    have ad : (q.src == q.dst) = false := by simpa using a5
    have Hq3 := Lib.hid hq
    clear hq a5
    unfold Pln.val Req.val
    go_enter Try.func40, Try.ntmps40
    go_wp2
    go_ret
    exact ⟨rfl, hB⟩

end Go.Proofs.Ytbgdglcnminbaaa
