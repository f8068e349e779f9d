/- Layer 24 (journey): the walk of JourneyForemost. -/
import Derived.Test.YtgmfnhianhngiaaJrAw
namespace Go.Proofs.Ytgmfnhianhngiaa
set_option linter.unusedVariables false
set_option linter.unusedSimpArgs false
open Go.RowKit Go.Shelf

/-- What is known of a plan that came in. -/
structure PlnIn (w : World) (Aq : Option Addr) (cq : Nat) (Ac : Option Addr) (cc : Nat) (p : Pln) : Prop where
  q : Rd EInt w Aq p.quo
  c : Rd ECon w Ac p.cons
  qc : p.quo.length ≤ cq
  ck : p.cons.length ≤ cc
  qm : cq ≤ maxLen
  cm : cc ≤ maxLen
def Pln.gr24 (p : Pln) : Bool := decide (8 < p.quo.length ∨ 12 < p.cons.length)
theorem PlnIn.rd {w : World} {Aq : Option Addr} {cq : Nat} {Ac : Option Addr} {cc : Nat} {p : Pln} (h : PlnIn w Aq cq Ac cc p) (hg : p.gr24 = false) : PlnRd w Aq cq Ac cc p := by
  simp only [Pln.gr24, decide_eq_false_iff_not] at hg
  exact ⟨h.q, h.c, by omega, by omega, h.qc, h.ck⟩
theorem PlnIn.le {w : World} {Aq : Option Addr} {cq : Nat} {Ac : Option Addr} {cc : Nat} {p : Pln} (h : PlnIn w Aq cq Ac cc p) : p.quo.length ≤ 9223372036854775807 ∧ p.cons.length ≤ 9223372036854775807 := by
  have h1 := h.qc
  have h2 := h.ck
  have h3 := h.qm
  have h4 := h.cm
  unfold maxLen at h3 h4
  omega
theorem great24_any (Aq : Option Addr) (cq : Nat) (Ac : Option Addr) (cc : Nat) (p : Pln) (w : World) (hq : p.quo.length ≤ 9223372036854775807) (hcn : p.cons.length ≤ 9223372036854775807) :
    Calls Try.prog 10 #[p.val Aq cq Ac cc] w fun e w' => e = .returned (.bool p.gr24) ∧ Ext w w' := by
  obtain ⟨W, hW, hB, hk, hlt⟩ := box1 w #[.slice Aq p.quo.length cq, .slice Ac p.cons.length cc] 25
  have hc := hk.cell
  have hl0 := hk.lt
  unfold Pln.val
  go_enter Try.func10, Try.ntmps10
  go_wp2
  all_goals go_ret
  all_goals refine ⟨ret_bool ?_, hB⟩
  all_goals clear hc hk hW hB hlt hl0
  all_goals rw [Bool.eq_iff_iff]
  all_goals simp_all [Pln.gr24]
  all_goals omega
theorem forT_len (p : Pln) (src t0 n : Int) (hq : p.quo.length ≤ 1000000) : (p.forT src t0 n).length ≤ 1000000 := by
  unfold Pln.forT
  split
  · unfold Pln.arrs
    have : ∀ (k : Nat), (rnds p.cons n (lstart p.quo.length src t0) k).length = p.quo.length := fun k => by
      rw [rnds_len, lstart_len]
    rw [this]; exact hq
  · simp

set_option maxRecDepth 100000 in
set_option maxHeartbeats 4000000 in
theorem foremost_walk (Aq : Option Addr) (cq : Nat) (Ac : Option Addr) (cc : Nat) (p : Pln) (src t0 n : Int) (w : World) (h : PlnIn w Aq cq Ac cc p) :
    Calls Try.prog 3 #[p.val Aq cq Ac cc, .int .i64 src, .int .i64 t0, .int .i64 n] w fun e w' => e = .returned (.bool true) ∧ Ext w w' := by
  obtain ⟨W, hW, hB, hk, hlt⟩ := box1 w #[.slice Aq p.quo.length cq, .slice Ac p.cons.length cc] 25
  have hc := hk.cell
  have hgr := great24_any Aq cq Ac cc p W h.le.1 h.le.2
  cases hg : p.gr24
  · rw [hg] at hgr
    have hrd := (h.rd hg).ext hB
    have hl1 := hrd.qm
    have hle := forT_len p src t0 n hl1
    clear hg
    have h1 := fun w h => Foremost_any Aq cq Ac cc p src t0 n w h
    have h2 := fun w h => rForemost_any Aq cq Ac cc p src t0 n w h
    unfold Pln.val at hgr h1 h2 ⊢
    go_enter Try.func3, Try.ntmps3
    go_wp2_with fail
    clear hW
    refine hgr.mono ?_
    clear hgr
    rintro e w1 ⟨rfl, hb1⟩
    have hk1 := hk.ext hb1
    replace hc := hk1.cell
    go_wp2_with fail
    refine (h1 _ (hrd.ext hb1)).mono ?_
    clear h1
    rintro e w2 ⟨A2, c2, rfl, hR2, hb2, _⟩
    have hk2 := hk1.ext hb2
    replace hc := hk2.cell
    go_wp2_with fail
    refine (h2 _ ((hrd.ext hb1).ext hb2)).mono ?_
    clear h2
    rintro e w3 ⟨A3, c3, rfl, hR3, hb3, _⟩
    go_wp2_with fail
    refine (equalInt_ex A2 A3 c2 c3 _ w3 (hR2.ext hb3) hR3 hle).mono ?_
    rintro e w4 ⟨rfl, hb4⟩
    go_wp2_with fail
    refine (awake_any _).mono ?_
    rintro e w5 ⟨rfl, hb5⟩
    go_wp2
    go_ret
    exact ⟨rfl, ((hB.trans hb1).trans hb2).trans (hb3.trans (hb4.trans hb5))⟩
  · rw [hg] at hgr
    clear hg
    unfold Pln.val at hgr ⊢
    go_enter Try.func3, Try.ntmps3
    go_wp2_with fail
    clear hW
    refine hgr.mono ?_
    rintro e w1 ⟨rfl, hb1⟩
    go_wp2_with fail
    refine (awake_any _).mono ?_
    rintro e w2 ⟨rfl, hb2⟩
    go_wp2
    go_ret
    exact ⟨rfl, (hB.trans hb1).trans hb2⟩

end Go.Proofs.Ytgmfnhianhngiaa
