
/- Layer 25 (latest): the walks of the reference's Latest, and of 'of'. -/
import Derived.Test.YtifopbkhflpbfaaGreatLatW4
namespace Go.Proofs.YtifopbkhflpbfaaGreat
set_option linter.unusedVariables false
open Go.RowKit Go.Shelf

set_option maxRecDepth 100000 in
set_option maxHeartbeats 4000000 in
theorem rLatest_any (Aq : Option Addr) (cq : Nat) (Ac : Option Addr) (cc : Nat) (p : Pln) (dest D size : Int) (w : World) (h : PlnRd w Aq cq Ac cc p) :
    Calls Tryz.prog 21 #[p.val Aq cq Ac cc, .int .i64 dest, .int .i64 D, .int .i64 size] w (RetA EInt w (p.latT dest D size) (p.latE dest D size)) := by
  obtain ⟨W, hW, hB, hk, hlt⟩ := box1 w #[.slice Aq p.quo.length cq, .slice Ac p.cons.length cc] 25
  have hc := hk.cell
  have hqm := h.qm
  have hW2 := Lib.hid hW
  have hpc := rpcheck_any Aq cq Ac cc p W (h.ext hB)
  by_cases h0 : p.chk = 0
  · have hok := Pln.ok_of h0
    cases ha : p.argB dest D size
    · have HE := Lib.hid (show p.latE dest D size = 2 by unfold Pln.latE; rw [if_pos h0, ha]; rfl)
      have HT := Lib.hid (show p.latT dest D size = [] by unfold Pln.latT; rw [HE.out]; rfl)
      simp only [Pln.argB, decide_eq_false_iff_not] at ha
      have Ha := Lib.hid ha
      rw [h0] at hpc
      have H0 := Lib.hid h0
      clear ha h0
      unfold Pln.val at hpc ⊢
      go_enter Tryz.func21, Tryz.ntmps21
      go_wp2_with fail
      clear hW
      refine hpc.mono ?_
      rintro e w1 ⟨rfl, hb1⟩
      have hc1 := (hk.ext hb1).cell
      clear hpc
      go_wp2_with fail
      all_goals first
        | (go_ret2; rw [HE.out, HT.out]; exact ⟨_, 0, rfl, Rd.nil, (hB.trans hb1).alloc _, Nat.le_refl _⟩)
        | (exfalso; apply Ha.out; (try simp_all); (try omega))
    · have HE := Lib.hid (show p.latE dest D size = 0 by unfold Pln.latE; rw [if_pos h0, ha]; rfl)
      have HT := Lib.hid (show p.latT dest D size = p.times dest D size by unfold Pln.latT; rw [HE.out]; rfl)
      have ha2 := ha
      simp only [Pln.argB, decide_eq_true_eq] at ha2
      obtain ⟨a1, a2, a3, a4, a5, a6⟩ := ha2
      have Ha := Lib.hid ha
      rw [h0] at hpc
      have H0 := Lib.hid h0
      clear ha h0
      unfold Pln.val at hpc ⊢
      go_enter Tryz.func21, Tryz.ntmps21
      go_wp2_with fail
      clear hW
      refine hpc.mono ?_
      rintro e w1 ⟨rfl, hb1⟩
      have hc1 := (hk.ext hb1).cell
      clear hpc
      go_wp2_with fail
      refine (rltimes_any Aq cq Ac cc p dest D size w1 ((h.ext hB).ext hb1) hok Ha.out).mono ?_
      rintro e w2 ⟨v, rfl, hv, hb2⟩
      obtain ⟨A2, c2, rfl, hR2⟩ := hv.form
      go_wp2
      go_ret2
      rw [HE.out, HT.out]
      exact ⟨A2, c2, rfl, hR2, (hB.trans hb1).trans hb2, hv.cap⟩
  · have HE := Lib.hid (show p.latE dest D size = 1 by unfold Pln.latE; rw [if_neg h0])
    have HT := Lib.hid (show p.latT dest D size = [] by unfold Pln.latT; rw [HE.out]; rfl)
    have hd : (p.chk != 0) = true := by simpa using h0
    have H0 := Lib.hid h0
    clear h0
    unfold Pln.val at hpc ⊢
    go_enter Tryz.func21, Tryz.ntmps21
    go_wp2_with fail
    clear hW
    refine hpc.mono ?_
    rintro e w1 ⟨rfl, hb1⟩
    go_wp2
    go_ret2
    rw [HE.out, HT.out]
    exact ⟨_, 0, rfl, Rd.nil, (hB.trans hb1).alloc _, Nat.le_refl _⟩

def Pln.fixT (p : Pln) (q : Req) : List Int := p.times q.dst q.dead q.size
def Pln.ofE (p : Pln) (q : Req) : Int := if p.chk = 0 then (if q.okB p.quo.length then (if gi (p.fixT q) q.src < q.ready then 18 else 0) else 1) else 1
def Pln.ofT (p : Pln) (q : Req) : List Int := if p.ofE q = 0 then p.fixT q else []
theorem Req.argB {p : Pln} {q : Req} (h : q.okB p.quo.length = true) : p.argB q.dst q.dead q.size = true := by
  simp only [Req.okB, decide_eq_true_eq] at h
  simp only [Pln.argB, decide_eq_true_eq]
  omega

end Go.Proofs.YtifopbkhflpbfaaGreat
