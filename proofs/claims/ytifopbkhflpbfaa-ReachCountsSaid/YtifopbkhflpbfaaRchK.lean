
/- Layer 26 (reach): the law's fine. -/
import Derived.Test.YtifopbkhflpbfaaRchC
namespace Go.Proofs.Ytifopbkhflpbfaa
set_option linter.unusedVariables false
set_option linter.unusedSimpArgs false
open Go.RowKit Go.Shelf

theorem PlnIn.rd26 {w : World} {Aq : Option Addr} {cq : Nat} {Ac : Option Addr} {cc : Nat} {p : Pln} (h : PlnIn w Aq cq Ac cc p) (hg : p.gr26 = false) : PlnRd w Aq cq Ac cc p :=
  h.rd (by unfold Pln.gr26 at hg; exact (Bool.or_eq_false_iff.1 hg).1)
/-- The law's fine. -/
def Pln.fine26 (p : Pln) (n : Int) (nodes : List Int) : Bool := !p.gr26 && decide (p.rv n nodes = 0)
set_option maxHeartbeats 1000000 in
theorem pred_lf {w0 : World} {g cq cc : Nat} {Aq Ac : Option Addr} {N M : Nat} (h : Blk w0 g 25 #[.slice Aq N cq, .slice Ac M cc]) (hN : N ≤ 1000000) : PredI w0 38 #[.pointer (some ⟨g, 0, none⟩)] (noNode N) where
  enters := enters_of Try.func38 (by kernel_rfl) rfl
  says := fun x w hw => by
    have hk := h.ext hw
    have hc := hk.cell
    have hl := hk.lt
    show Calls Try.prog 38 #[_, _] w _
    unfold noNode
    by_cases hx0 : x < 0
    all_goals
      by_cases hx1 : (N : Int) ≤ x
      all_goals
        first
          | (have d0 : decide (x < 0) = true := decide_eq_true hx0)
          | (have d0 : decide (x < 0) = false := decide_eq_false hx0)
        first
          | (have d1 : decide ((N : Int) ≤ x) = true := decide_eq_true hx1)
          | (have d1 : decide ((N : Int) ≤ x) = false := decide_eq_false hx1)
        rw [d0, d1]
        clear hx0 hx1
        go_enter Try.func38, Try.ntmps38
        go_wp2
        go_ret
        exact ⟨rfl, Ext.refl _⟩

set_option maxRecDepth 100000 in
set_option maxHeartbeats 4000000 in
theorem lfine_any (Aq : Option Addr) (cq : Nat) (Ac : Option Addr) (cc : Nat) (p : Pln) (n : Int) (An : Option Addr) (cn : Nat) (nodes : List Int) (w : World) (h : PlnIn w Aq cq Ac cc p) (hn : Rd EInt w An nodes) (hnl : nodes.length ≤ 1000) :
    Calls Try.prog 17 #[p.val Aq cq Ac cc, .int .i64 n, .slice An nodes.length cn] w fun e w' => e = .returned (.bool (p.fine26 n nodes)) ∧ Ext w w' := by
  obtain ⟨W, hW, hB, hk, hlt⟩ := box1 w #[.slice Aq p.quo.length cq, .slice Ac p.cons.length cc] 25
  have hc := hk.cell
  have hgr := great26_any Aq cq Ac cc p W (h.ext hB)
  cases hg : p.gr26
  case' true =>
    rw [hg] at hgr
    have Hr := Lib.hid (show p.fine26 n nodes = false by unfold Pln.fine26; rw [hg]; rfl)
    rw [Hr.out]
    clear hg
    unfold Pln.val at hgr ⊢
    go_enter Try.func17, Try.ntmps17
    go_wp2_with fail
    clear hW
    refine hgr.mono ?_
    clear hgr
    rintro e w1 ⟨rfl, hb1⟩
    go_wp2
    go_ret
    exact ⟨rfl, hB.trans hb1⟩
  rw [hg] at hgr
  have hrd := (h.rd26 hg).ext hB
  have hqm := hrd.qm
  have hpc := fun w1 (hb1 : Ext W w1) => rpcheck_any Aq cq Ac cc p w1 (hrd.ext hb1)
  have HF := Lib.hid (show p.fine26 n nodes = decide (p.rv n nodes = 0) by unfold Pln.fine26; rw [hg]; simp)
  clear hg
  by_cases h0 : p.chk = 0
  · rw [h0] at hpc
    have H0 := Lib.hid h0
    clear h0
    unfold Pln.val at hpc hgr ⊢
    by_cases hn1 : n < 1
    · have d1 : decide (1 ≤ n) = false := decide_eq_false (by omega)
      have Hr := Lib.hid (show p.fine26 n nodes = false by rw [HF.out]; unfold Pln.rv; rw [if_pos H0.out, if_neg]; · rfl
                                                           simp only [Pln.argR, decide_eq_true_eq]; omega)
      rw [Hr.out]
      clear hn1
      go_enter Try.func17, Try.ntmps17
      go_wp2_with fail
      clear hW
      refine hgr.mono ?_
      clear hgr
      rintro e w1 ⟨rfl, hb1⟩
      have hk1 := hk.ext hb1
      replace hc := hk1.cell
      go_wp2_with fail
      refine (hpc _ hb1).mono ?_
      rintro e w2 ⟨rfl, hb2⟩
      go_wp2
      go_ret
      exact ⟨rfl, (hB.trans hb1).trans hb2⟩
    have d1 : decide (1 ≤ n) = true := decide_eq_true (by omega)
    by_cases hn2 : 65536 < n
    · have d2 : decide (n ≤ 65536) = false := decide_eq_false (by omega)
      have Hr := Lib.hid (show p.fine26 n nodes = false by rw [HF.out]; unfold Pln.rv; rw [if_pos H0.out, if_neg]; · rfl
                                                           simp only [Pln.argR, decide_eq_true_eq]; omega)
      rw [Hr.out]
      clear hn1 hn2
      go_enter Try.func17, Try.ntmps17
      go_wp2_with fail
      clear hW
      refine hgr.mono ?_
      clear hgr
      rintro e w1 ⟨rfl, hb1⟩
      have hk1 := hk.ext hb1
      replace hc := hk1.cell
      go_wp2_with fail
      refine (hpc _ hb1).mono ?_
      rintro e w2 ⟨rfl, hb2⟩
      go_wp2
      go_ret
      exact ⟨rfl, (hB.trans hb1).trans hb2⟩
    have d2 : decide (n ≤ 65536) = true := decide_eq_true (by omega)
    have hany := noNode_any (N := p.quo.length) (l := nodes)
    cases hno : nodes.any (noNode p.quo.length)
    all_goals
      have Hr := Lib.hid (show p.fine26 n nodes = !(nodes.any (noNode p.quo.length)) by
        rw [HF.out]
        unfold Pln.rv
        rw [if_pos H0.out, hany]
        by_cases hh : ∀ x ∈ nodes, 0 ≤ x ∧ x < (p.quo.length : Int)
        · have e1 : p.argR n nodes = true := by simp only [Pln.argR, decide_eq_true_eq]; exact ⟨by omega, by omega, hh⟩
          rw [e1, decide_eq_true hh]; rfl
        · have e1 : p.argR n nodes = false := by simp only [Pln.argR, decide_eq_false_iff_not]; exact fun h => hh h.2.2
          rw [e1, decide_eq_false hh]; rfl)
      rw [Hr.out, hno]
      clear hn1 hn2 hany
      have hcf := fun w1 (hb1 : Ext W w1) => containsI_any An cn nodes 38 #[.pointer (some ⟨w.heap.size, 0, none⟩)] (noNode p.quo.length) w1 ((hn.ext hB).ext hb1) (by omega) (pred_lf (hk.ext hb1) hqm)
      rw [hno] at hcf
      clear hno
      go_enter Try.func17, Try.ntmps17
      go_wp2_with fail
      clear hW
      refine hgr.mono ?_
      clear hgr
      rintro e w1 ⟨rfl, hb1⟩
      have hk1 := hk.ext hb1
      replace hc := hk1.cell
      go_wp2_with fail
      refine (hpc _ hb1).mono ?_
      rintro e w2 ⟨rfl, hb2⟩
      go_wp2_with fail
      refine (hcf _ (hb1.trans hb2)).mono ?_
      rintro e w3 ⟨rfl, hb3⟩
      go_wp2
      go_ret
      exact ⟨rfl, ((hB.trans hb1).trans hb2).trans hb3⟩
  · have hd : (p.chk == 0) = false := by simpa using h0
    have Hr := Lib.hid (show p.fine26 n nodes = false by rw [HF.out]; unfold Pln.rv; rw [if_neg h0]; rfl)
    rw [Hr.out]
    clear h0
    unfold Pln.val at hpc hgr ⊢
    go_enter Try.func17, Try.ntmps17
    go_wp2_with fail
    clear hW
    refine hgr.mono ?_
    clear hgr
    rintro e w1 ⟨rfl, hb1⟩
    have hk1 := hk.ext hb1
    replace hc := hk1.cell
    go_wp2_with fail
    refine (hpc _ hb1).mono ?_
    rintro e w2 ⟨rfl, hb2⟩
    go_wp2
    go_ret
    exact ⟨rfl, (hB.trans hb1).trans hb2⟩

end Go.Proofs.Ytifopbkhflpbfaa
