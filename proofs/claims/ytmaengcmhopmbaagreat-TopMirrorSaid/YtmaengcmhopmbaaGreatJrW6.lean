
/- Layer 24 (journey): the walks of valid, CheckRequest, Foremost. -/
import Derived.Test.YtmaengcmhopmbaaGreatJrW5
import Derived.Test.YtmaengcmhopmbaaGreatJrW3
import Derived.Test.YtmaengcmhopmbaaGreatJrVC
namespace Go.Proofs.YtmaengcmhopmbaaGreat
set_option linter.unusedVariables false
set_option linter.unusedSimpArgs false
open Go.RowKit Go.Shelf

def fineQ (p : Pln) (q : Req) : Bool := decide (p.chk = 0) && q.okB p.quo.length
set_option maxRecDepth 100000 in
set_option maxHeartbeats 4000000 in
theorem Foremost_any (Aq : Option Addr) (cq : Nat) (Ac : Option Addr) (cc : Nat) (p : Pln) (src t0 n : Int) (w : World) (h : PlnRd w Aq cq Ac cc p) :
    Calls Tryz.prog 7 #[p.val Aq cq Ac cc, .int .i64 src, .int .i64 t0, .int .i64 n] w (RetA EInt w (p.forT src t0 n) (p.forE src t0 n)) := by
  obtain ⟨W, hW, hB, hk, hlt⟩ := box1 w #[.slice Aq p.quo.length cq, .slice Ac p.cons.length cc] 25
  have hc := hk.cell
  have hqm := h.qm
  have hW2 := Lib.hid hW
  have hpc := pcheck_any Aq cq Ac cc p W (h.ext hB)
  by_cases h0 : p.chk = 0
  · have hok := Pln.ok_of h0
    cases ha : p.argF src t0 n
    · have HE := Lib.hid (show p.forE src t0 n = 2 by unfold Pln.forE; rw [if_pos h0, ha]; rfl)
      have HT := Lib.hid (show p.forT src t0 n = [] by unfold Pln.forT; rw [HE.out]; rfl)
      simp only [Pln.argF, decide_eq_false_iff_not] at ha
      have Ha := Lib.hid ha
      rw [h0] at hpc
      have H0 := Lib.hid h0
      clear ha h0
      unfold Pln.val at hpc ⊢
      go_enter Tryz.func7, Tryz.ntmps7
      go_wp2_with fail
      clear hW
      refine hpc.mono ?_
      rintro e w1 ⟨rfl, hb1⟩
      have hc1 := (hk.ext hb1).cell
      clear hpc
      go_wp2_with fail
      all_goals first
        | (go_ret2; rw [HE.out, HT.out]; exact ⟨none, 0, rfl, Rd.nil, hB.trans hb1, Nat.le_refl _⟩)
        | (exfalso; apply Ha.out; (try simp_all); (try omega))
    · have HE := Lib.hid (show p.forE src t0 n = 0 by unfold Pln.forE; rw [if_pos h0, ha]; rfl)
      have HT := Lib.hid (show p.forT src t0 n = p.arrs src t0 n by unfold Pln.forT; rw [HE.out]; rfl)
      have ha2 := ha
      simp only [Pln.argF, decide_eq_true_eq] at ha2
      obtain ⟨a1, a2, a3, a4, a5, a6⟩ := ha2
      have Ha := Lib.hid ha
      rw [h0] at hpc
      have H0 := Lib.hid h0
      clear ha h0
      unfold Pln.val at hpc ⊢
      go_enter Tryz.func7, Tryz.ntmps7
      go_wp2_with fail
      clear hW
      refine hpc.mono ?_
      rintro e w1 ⟨rfl, hb1⟩
      have hc1 := (hk.ext hb1).cell
      clear hpc
      go_wp2_with fail
      refine (arrivals_any Aq cq Ac cc p src t0 n w1 ((h.ext hB).ext hb1) hok Ha.out).mono ?_
      rintro e w2 ⟨v, rfl, hv, hb2⟩
      obtain ⟨A2, c2, rfl, hR2⟩ := hv.form
      go_wp2
      go_ret2
      rw [HE.out, HT.out]
      exact ⟨A2, c2, rfl, hR2, (hB.trans hb1).trans hb2, hv.cap⟩
  · have HE := Lib.hid (show p.forE src t0 n = 1 by unfold Pln.forE; rw [if_neg h0])
    have HT := Lib.hid (show p.forT src t0 n = [] by unfold Pln.forT; rw [HE.out]; rfl)
    have hd : (p.chk != 0) = true := by simpa using h0
    have H0 := Lib.hid h0
    clear h0
    unfold Pln.val at hpc ⊢
    go_enter Tryz.func7, Tryz.ntmps7
    go_wp2_with fail
    clear hW
    refine hpc.mono ?_
    rintro e w1 ⟨rfl, hb1⟩
    go_wp2
    go_ret2
    rw [HE.out, HT.out]
    exact ⟨none, 0, rfl, Rd.nil, hB.trans hb1, Nat.le_refl _⟩

end Go.Proofs.YtmaengcmhopmbaaGreat
