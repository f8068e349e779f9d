/- Layer 25 (latest): the walks of LatestTimes and LatestJourneys. -/
import Derived.Test.YtmpekjbhaekmpaaLatAwake
namespace Go.Proofs.Ytmpekjbhaekmpaa
set_option linter.unusedVariables false
open Go.RowKit Go.Shelf

/-- What is known of a plan that came in. -/
structure PlnIn (w : World) (Aq : Option Addr) (cq : Nat) (Ac : Option Addr) (cc : Nat) (p : Pln) : Prop where
  q : Rd EInt w Aq p.quo
  c : Rd ECon w Ac p.cons
  qc : p.quo.length ≤ cq
  ck : p.cons.length ≤ cc
  qm : cq ≤ maxLen
  cm : cc ≤ maxLen
theorem PlnIn.rd {w : World} {Aq : Option Addr} {cq : Nat} {Ac : Option Addr} {cc : Nat} {p : Pln} (h : PlnIn w Aq cq Ac cc p) (hg : p.great = false) : PlnRd w Aq cq Ac cc p := by
  simp only [Pln.great, Bool.or_eq_false_iff, Bool.and_eq_false_iff, decide_eq_false_iff_not] at hg
  exact ⟨h.q, h.c, by omega, by omega, h.qc, h.ck⟩
theorem PlnIn.le {w : World} {Aq : Option Addr} {cq : Nat} {Ac : Option Addr} {cc : Nat} {p : Pln} (h : PlnIn w Aq cq Ac cc p) : p.quo.length ≤ 9223372036854775807 ∧ p.cons.length ≤ 9223372036854775807 := by
  have h1 := h.qc
  have h2 := h.ck
  have h3 := h.qm
  have h4 := h.cm
  unfold maxLen at h3 h4
  omega
theorem latT_len (p : Pln) (dest D size : Int) (hq : p.quo.length ≤ 1000000) : (p.latT dest D size).length ≤ 1000000 := by
  unfold Pln.latT
  split
  · rename_i h
    unfold Pln.latE at h
    split at h
    · rename_i h0
      split at h
      · rename_i ha
        rw [Pln.times_len (Pln.ok_of h0) ha]; exact hq
      · cases h
    · cases h
  · simp

set_option maxRecDepth 100000 in
set_option maxHeartbeats 4000000 in
theorem times_walk (Aq : Option Addr) (cq : Nat) (Ac : Option Addr) (cc : Nat) (p : Pln) (dest D size : Int) (w : World) (h : PlnIn w Aq cq Ac cc p) :
    Calls Try.prog 3 #[p.val Aq cq Ac cc, .int .i64 dest, .int .i64 D, .int .i64 size] w fun e w' => e = .returned (.bool true) ∧ Ext w w' := by
  obtain ⟨W, hW, hB, hk, hlt⟩ := box1 w #[.slice Aq p.quo.length cq, .slice Ac p.cons.length cc] 25
  have hc := hk.cell
  have hgr := great22_any Aq cq Ac cc p W h.le.1 h.le.2
  cases hg : p.great
  · rw [hg] at hgr
    have hrd := (h.rd hg).ext hB
    have hl1 := hrd.qm
    have hle := latT_len p dest D size hl1
    clear hg
    have h1 := fun w h => Latest_any Aq cq Ac cc p dest D size w h
    have h2 := fun w h => rLatest_any Aq cq Ac cc p dest D size w h
    unfold Pln.val at hgr h1 h2 ⊢
    go_enter Try.func3, Try.ntmps3
    go_wp2_with fail
    clear hW
    refine hgr.mono ?_
    clear hgr
    rintro e w1 ⟨rfl, hb1⟩
    have hk1 := hk.ext hb1
    replace hc := hk1.cell
    go_wp2_with fail
    refine (h1 _ (hrd.ext hb1)).mono ?_
    clear h1
    rintro e w2 ⟨A2, c2, rfl, hR2, hb2, _⟩
    have hk2 := hk1.ext hb2
    replace hc := hk2.cell
    go_wp2_with fail
    refine (h2 _ ((hrd.ext hb1).ext hb2)).mono ?_
    clear h2
    rintro e w3 ⟨A3, c3, rfl, hR3, hb3, _⟩
    go_wp2_with fail
    refine (sameInts_ex A2 A3 c2 c3 _ w3 (hR2.ext hb3) hR3 hle).mono ?_
    rintro e w4 ⟨rfl, hb4⟩
    go_wp2_with fail
    refine (awake_any _).mono ?_
    rintro e w5 ⟨rfl, hb5⟩
    go_wp2
    go_ret
    exact ⟨rfl, ((hB.trans hb1).trans hb2).trans (hb3.trans (hb4.trans hb5))⟩
  · rw [hg] at hgr
    clear hg
    unfold Pln.val at hgr ⊢
    go_enter Try.func3, Try.ntmps3
    go_wp2_with fail
    clear hW
    refine hgr.mono ?_
    rintro e w1 ⟨rfl, hb1⟩
    go_wp2_with fail
    refine (awake_any _).mono ?_
    rintro e w2 ⟨rfl, hb2⟩
    go_wp2
    go_ret
    exact ⟨rfl, (hB.trans hb1).trans hb2⟩

set_option maxRecDepth 100000 in
set_option maxHeartbeats 4000000 in
theorem journeys_walk (Aq : Option Addr) (cq : Nat) (Ac : Option Addr) (cc : Nat) (p : Pln) (q : Req) (w : World) (h : PlnIn w Aq cq Ac cc p) :
    Calls Try.prog 4 #[p.val Aq cq Ac cc, q.val] w fun e w' => e = .returned (.bool true) ∧ Ext w w' := by
  obtain ⟨W, hW, hB, hk, hkr, hlt, hltr⟩ := box2 w #[.slice Aq p.quo.length cq, .slice Ac p.cons.length cc] q.cells 25 34
  simp only [Req.cells] at hW hkr
  have hc := hk.cell
  have hcr := hkr.cell
  have hgr := great22_any Aq cq Ac cc p W h.le.1 h.le.2
  cases hg : p.great
  · rw [hg] at hgr
    have hrd := (h.rd hg).ext hB
    clear hg
    have h1 := fun w h => Find_any Aq cq Ac cc p q w h
    have h2 := fun w h => rFind_any Aq cq Ac cc p q w h
    have h3 := fun w h => Slack_any Aq cq Ac cc p q w h
    have h4 := fun w h => rSlack_any Aq cq Ac cc p q w h
    unfold Pln.val at hgr h1 h2 h3 h4 ⊢
    unfold Req.val at h1 h2 h3 h4 ⊢
    go_enter Try.func4, Try.ntmps4
    go_wp2_with fail
    clear hW
    refine hgr.mono ?_
    clear hgr
    rintro e w1 ⟨rfl, hb1⟩
    have hk1 := hk.ext hb1
    have hkr1 := hkr.ext hb1
    replace hc := hk1.cell
    replace hcr := hkr1.cell
    go_wp2_with fail
    refine (h1 _ (hrd.ext hb1)).mono ?_
    clear h1
    rintro e w2 ⟨l2, ⟨A2, c2, rfl, hR2, hb2, _⟩, hl2, hp2⟩
    have hk2 := hk1.ext hb2
    have hkr2 := hkr1.ext hb2
    replace hc := hk2.cell
    replace hcr := hkr2.cell
    have Hp2 := Lib.hid hp2
    clear hp2
    go_wp2_with fail
    refine (h2 _ ((hrd.ext hb1).ext hb2)).mono ?_
    clear h2
    rintro e w3 ⟨l3, ⟨A3, c3, rfl, hR3, hb3, _⟩, hl3, hp3⟩
    have heq : l3 = l2 := by
      have hp2 := Hp2.out
      by_cases h0 : p.ofE q = 0
      · rw [if_pos h0] at hp2 hp3
        exact hp3.unique hp2
      · rw [if_neg h0] at hp2 hp3
        rw [hp2, hp3]
    subst heq
    have hk3 := hk2.ext hb3
    have hkr3 := hkr2.ext hb3
    replace hc := hk3.cell
    replace hcr := hkr3.cell
    clear hp3
    go_wp2_with fail
    refine (h3 _ (((hrd.ext hb1).ext hb2).ext hb3)).mono ?_
    clear h3
    rintro e w4 ⟨rfl, hb4⟩
    have hk4 := hk3.ext hb4
    have hkr4 := hkr3.ext hb4
    replace hc := hk4.cell
    replace hcr := hkr4.cell
    go_wp2_with fail
    refine (h4 _ ((((hrd.ext hb1).ext hb2).ext hb3).ext hb4)).mono ?_
    clear h4
    rintro e w5 ⟨rfl, hb5⟩
    clear hc hcr
    go_wp2_with fail
    refine (sameHops_ex A2 A3 c2 c3 _ w5 (((hR2.ext hb3).ext hb4).ext hb5) ((hR3.ext hb4).ext hb5) hl2).mono ?_
    rintro e w6 ⟨rfl, hb6⟩
    go_wp2_with fail
    refine (awake_any _).mono ?_
    rintro e w7 ⟨rfl, hb7⟩
    go_wp2
    go_ret
    exact ⟨rfl, ((hB.trans hb1).trans hb2).trans ((hb3.trans hb4).trans (hb5.trans (hb6.trans hb7)))⟩
  · rw [hg] at hgr
    clear hg
    unfold Pln.val at hgr ⊢
    unfold Req.val
    go_enter Try.func4, Try.ntmps4
    go_wp2_with fail
    clear hW
    refine hgr.mono ?_
    rintro e w1 ⟨rfl, hb1⟩
    go_wp2_with fail
    refine (awake_any _).mono ?_
    rintro e w2 ⟨rfl, hb2⟩
    go_wp2
    go_ret
    exact ⟨rfl, (hB.trans hb1).trans hb2⟩

end Go.Proofs.Ytmpekjbhaekmpaa
