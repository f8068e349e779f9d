
/- Layer 25 (latest): the walks of request, Latest, of, Slack. -/
import Derived.Test.YtmaengcmhopmbaaGreatLatWA
import Derived.Test.YtmaengcmhopmbaaGreatReqW1
namespace Go.Proofs.YtmaengcmhopmbaaGreat
set_option linter.unusedVariables false
open Go.RowKit Go.Shelf

set_option maxRecDepth 100000 in
set_option maxHeartbeats 4000000 in
theorem lrequest_any (Aq : Option Addr) (cq : Nat) (Ac : Option Addr) (cc : Nat) (p : Pln) (q : Req) (w : World) (hn : p.quo.length ≤ 1000000) :
    Calls Tryz.prog 47 #[p.val Aq cq Ac cc, q.val] w fun e w' => e = .returned (.bool (q.okB p.quo.length)) ∧ Ext w w' := by
  obtain ⟨W, hW, hB, hk, hk2, hlt, hlt2⟩ := box2 w #[.slice Aq p.quo.length cq, .slice Ac p.cons.length cc] q.cells 25 27
  simp only [Req.cells] at hW hk2
  have hc := hk.cell
  have hc2 := hk2.cell
  cases hq : q.okB p.quo.length
  · have hq2 := hq
    simp only [Req.okB, decide_eq_false_iff_not] at hq2
    have Hq := Lib.hid hq2
    have Hq3 := Lib.hid hq
    clear hq hq2
    unfold Pln.val Req.val
    go_enter Tryz.func47, Tryz.ntmps47
    go_wp2
    all_goals go_ret
    all_goals refine ⟨ret_bool ?_, hB⟩
    all_goals (try rfl)
    all_goals first
      | (exfalso; apply Hq.out; clear hc hc2 hk hk2 hW hB Hq Hq3; (try simp_all); (try omega); done)
      | (clear hc hc2 hk hk2 hW hB; (by_cases h9 : q.prio ≤ 2) <;> first | (exfalso; apply Hq.out; clear Hq Hq3; (try simp_all); (try omega); done) | (simp [h9]; done))
  · have hq2 := hq
    simp only [Req.okB, decide_eq_true_eq] at hq2
    obtain ⟨a1, a2, a3, a4, a5, a6, a7, a8, a9, a10, a11, a12⟩ := hq2
    have ad : (q.src != q.dst) = true := by simpa using a5
    have Hq3 := Lib.hid hq
    clear hq a5
    unfold Pln.val Req.val
    go_enter Tryz.func47, Tryz.ntmps47
    go_wp2
    go_ret
    exact ⟨rfl, hB⟩

def Pln.latE (p : Pln) (dest D size : Int) : Int := if p.chk = 0 then (if p.argB dest D size then 0 else 2) else 1
def Pln.latT (p : Pln) (dest D size : Int) : List Int := if p.latE dest D size = 0 then p.times dest D size else []
theorem Pln.times_len {p : Pln} {dest D size : Int} (h : p.Ok) (ha : p.argB dest D size = true) : (p.times dest D size).length = p.quo.length := (Pln.times_inv h ha).1.len

set_option maxRecDepth 100000 in
set_option maxHeartbeats 4000000 in
theorem Latest_any (Aq : Option Addr) (cq : Nat) (Ac : Option Addr) (cc : Nat) (p : Pln) (dest D size : Int) (w : World) (h : PlnRd w Aq cq Ac cc p) :
    Calls Tryz.prog 8 #[p.val Aq cq Ac cc, .int .i64 dest, .int .i64 D, .int .i64 size] w (RetA EInt w (p.latT dest D size) (p.latE dest D size)) := by
  obtain ⟨W, hW, hB, hk, hlt⟩ := box1 w #[.slice Aq p.quo.length cq, .slice Ac p.cons.length cc] 25
  have hc := hk.cell
  have hqm := h.qm
  have hW2 := Lib.hid hW
  have hpc := pcheck_any Aq cq Ac cc p W (h.ext hB)
  by_cases h0 : p.chk = 0
  · have hok := Pln.ok_of h0
    cases ha : p.argB dest D size
    · have HE := Lib.hid (show p.latE dest D size = 2 by unfold Pln.latE; rw [if_pos h0, ha]; rfl)
      have HT := Lib.hid (show p.latT dest D size = [] by unfold Pln.latT; rw [HE.out]; rfl)
      simp only [Pln.argB, decide_eq_false_iff_not] at ha
      have Ha := Lib.hid ha
      rw [h0] at hpc
      have H0 := Lib.hid h0
      clear ha h0
      unfold Pln.val at hpc ⊢
      go_enter Tryz.func8, Tryz.ntmps8
      go_wp2_with fail
      clear hW
      refine hpc.mono ?_
      rintro e w1 ⟨rfl, hb1⟩
      have hc1 := (hk.ext hb1).cell
      clear hpc
      go_wp2_with fail
      all_goals first
        | (go_ret2; rw [HE.out, HT.out]; exact ⟨none, 0, rfl, Rd.nil, hB.trans hb1, Nat.le_refl _⟩)
        | (exfalso; apply Ha.out; (try simp_all); (try omega))
    · have HE := Lib.hid (show p.latE dest D size = 0 by unfold Pln.latE; rw [if_pos h0, ha]; rfl)
      have HT := Lib.hid (show p.latT dest D size = p.times dest D size by unfold Pln.latT; rw [HE.out]; rfl)
      have ha2 := ha
      simp only [Pln.argB, decide_eq_true_eq] at ha2
      obtain ⟨a1, a2, a3, a4, a5, a6⟩ := ha2
      have Ha := Lib.hid ha
      rw [h0] at hpc
      have H0 := Lib.hid h0
      clear ha h0
      unfold Pln.val at hpc ⊢
      go_enter Tryz.func8, Tryz.ntmps8
      go_wp2_with fail
      clear hW
      refine hpc.mono ?_
      rintro e w1 ⟨rfl, hb1⟩
      have hc1 := (hk.ext hb1).cell
      clear hpc
      go_wp2_with fail
      refine (ltimes_any Aq cq Ac cc p dest D size w1 ((h.ext hB).ext hb1) hok Ha.out).mono ?_
      rintro e w2 ⟨v, rfl, hv, hb2⟩
      obtain ⟨A2, c2, rfl, hR2⟩ := hv.form
      go_wp2
      go_ret2
      rw [HE.out, HT.out]
      exact ⟨A2, c2, rfl, hR2, (hB.trans hb1).trans hb2, hv.cap⟩
  · have HE := Lib.hid (show p.latE dest D size = 1 by unfold Pln.latE; rw [if_neg h0])
    have HT := Lib.hid (show p.latT dest D size = [] by unfold Pln.latT; rw [HE.out]; rfl)
    have hd : (p.chk != 0) = true := by simpa using h0
    have H0 := Lib.hid h0
    clear h0
    unfold Pln.val at hpc ⊢
    go_enter Tryz.func8, Tryz.ntmps8
    go_wp2_with fail
    clear hW
    refine hpc.mono ?_
    rintro e w1 ⟨rfl, hb1⟩
    go_wp2
    go_ret2
    rw [HE.out, HT.out]
    exact ⟨none, 0, rfl, Rd.nil, hB.trans hb1, Nat.le_refl _⟩

end Go.Proofs.YtmaengcmhopmbaaGreat
