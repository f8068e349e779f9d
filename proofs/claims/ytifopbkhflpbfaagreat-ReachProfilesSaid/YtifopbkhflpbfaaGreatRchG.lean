
/- Layer 26 (reach): the plans that come in, Great, window. -/
import Derived.Test.YtifopbkhflpbfaaGreatRchH
namespace Go.Proofs.YtifopbkhflpbfaaGreat
set_option linter.unusedVariables false
set_option linter.unusedSimpArgs false
open Go.RowKit Go.Shelf

/-- What is known of a plan that came in. -/
structure PlnIn (w : World) (Aq : Option Addr) (cq : Nat) (Ac : Option Addr) (cc : Nat) (p : Pln) : Prop where
  q : Rd EInt w Aq p.quo
  c : Rd ECon w Ac p.cons
  qc : p.quo.length ≤ cq
  ck : p.cons.length ≤ cc
  qm : cq ≤ maxLen
  cm : cc ≤ maxLen
def Pln.gr24 (p : Pln) : Bool := decide (8 < p.quo.length ∨ 12 < p.cons.length)
theorem PlnIn.rd {w : World} {Aq : Option Addr} {cq : Nat} {Ac : Option Addr} {cc : Nat} {p : Pln} (h : PlnIn w Aq cq Ac cc p) (hg : p.gr24 = false) : PlnRd w Aq cq Ac cc p := by
  simp only [Pln.gr24, decide_eq_false_iff_not] at hg
  exact ⟨h.q, h.c, by omega, by omega, h.qc, h.ck⟩
theorem PlnIn.le {w : World} {Aq : Option Addr} {cq : Nat} {Ac : Option Addr} {cc : Nat} {p : Pln} (h : PlnIn w Aq cq Ac cc p) : p.quo.length ≤ 9223372036854775807 ∧ p.cons.length ≤ 9223372036854775807 := by
  have h1 := h.qc
  have h2 := h.ck
  have h3 := h.qm
  have h4 := h.cm
  unfold maxLen at h3 h4
  omega
theorem PlnIn.ext {w w' : World} {Aq : Option Addr} {cq : Nat} {Ac : Option Addr} {cc : Nat} {p : Pln} (h : PlnIn w Aq cq Ac cc p) (hb : Ext w w') : PlnIn w' Aq cq Ac cc p := ⟨h.q.ext hb, h.c.ext hb, h.qc, h.ck, h.qm, h.cm⟩
theorem great24_any (Aq : Option Addr) (cq : Nat) (Ac : Option Addr) (cc : Nat) (p : Pln) (w : World) (hq : p.quo.length ≤ 9223372036854775807) (hcn : p.cons.length ≤ 9223372036854775807) :
    Calls Tryz.prog 13 #[p.val Aq cq Ac cc] w fun e w' => e = .returned (.bool p.gr24) ∧ Ext w w' := by
  obtain ⟨W, hW, hB, hk, hlt⟩ := box1 w #[.slice Aq p.quo.length cq, .slice Ac p.cons.length cc] 25
  have hc := hk.cell
  have hl0 := hk.lt
  unfold Pln.val
  go_enter Tryz.func13, Tryz.ntmps13
  go_wp2
  all_goals go_ret
  all_goals refine ⟨ret_bool ?_, hB⟩
  all_goals clear hc hk hW hB hlt hl0
  all_goals rw [Bool.eq_iff_iff]
  all_goals simp_all [Pln.gr24]
  all_goals omega

/-- Whether a contact is longer than the statements examine. -/
def Con.big (c : Con) : Bool := decide ((300 < wrap64 (c.en - c.st) ∧ wrap64 (c.en - c.st) < 2000) ∨ 5000 < wrap64 (c.en - c.st))
def Pln.gr26 (p : Pln) : Bool := p.gr24 || p.cons.any Con.big

set_option maxRecDepth 100000 in
set_option maxHeartbeats 4000000 in
theorem great26_any (Aq : Option Addr) (cq : Nat) (Ac : Option Addr) (cc : Nat) (p : Pln) (w : World) (h : PlnIn w Aq cq Ac cc p) :
    Calls Tryz.prog 4 #[p.val Aq cq Ac cc] w fun e w' => e = .returned (.bool p.gr26) ∧ Ext w w' := by
  obtain ⟨W, hW, hB, hk, hlt⟩ := box1 w #[.slice Aq p.quo.length cq, .slice Ac p.cons.length cc] 25
  have hc := hk.cell
  have hgr := great24_any Aq cq Ac cc p W h.le.1 h.le.2
  unfold Pln.val at hgr ⊢
  cases hg : p.gr24
  · rw [hg] at hgr
    have hrd := h.rd hg
    have hlc := hrd.cm
    have HG := Lib.hid (show p.gr26 = p.cons.any Con.big by unfold Pln.gr26; rw [hg]; rfl)
    clear hg
    go_enter Tryz.func4, Tryz.ntmps4
    go_wp2_with fail
    clear hW
    refine hgr.mono ?_
    clear hgr hc
    rintro e w1 ⟨rfl, hb1⟩
    go_wp2_with fail
    go_loopg [3] p.cons.length (fun q k wr => ∃ (j : Nat), j + q = p.cons.length ∧ k = .int .i64 j ∧ Hid ((p.cons.take j).any Con.big = false) ∧ Ext w1 wr)
    case atStart => exact ⟨0, by omega, rfl, Lib.hid rfl, Ext.refl _⟩
    case round =>
      obtain ⟨j, hjq, rfl, hm, hx⟩ := hrel
      have Hjq := Lib.hid hjq
      have hjN : j ≤ p.cons.length := by omega
      clear hjq
      have kr := (hk.ext hb1).ext hx
      have hc := kr.cell
      have hlr := kr.lt
      by_cases hlt2 : j < p.cons.length
      · have hE := (hB.trans hb1).trans hx
        obtain ⟨b, o, rfl, hbl, c0, c1, c2, c3, c4, c5, c6⟩ := (h.c.ext hE).con hlt2
        generalize hye : p.cons[j] = y at *
        have Hy := Lib.hid hye
        have hN := Near.refl wr
        clear hye c0 c1 c4 c5 c6
        have HB := Lib.hid (show y.big = decide ((300 < wrap64 (y.en - y.st) ∧ wrap64 (y.en - y.st) < 2000) ∨ 5000 < wrap64 (y.en - y.st)) from rfl)
        obtain ⟨t, ht⟩ : ∃ t, wrap64 (y.en - y.st) = t := ⟨_, rfl⟩
        rw [ht] at HB
        have HNX : y.big = false → ∃ j', j' + (gk - 1) = p.cons.length ∧ Value.int .i64 ((j : Int) + 1) = .int .i64 (j' : Nat) ∧ Hid ((p.cons.take j').any Con.big = false) := fun hb =>
          ⟨j + 1, by have := Hjq.out; omega, by go_num, Lib.hid (any_step hlt2 Hy.out hm.out hb)⟩
        have HNX := Lib.hid HNX
        have HIT : y.big = true → p.gr26 = true := fun hb => by rw [HG.out]; exact any_hit hlt2 Hy.out hb
        have HIT := Lib.hid HIT
        by_cases a1 : 300 < t
        · have d1 : decide (300 < t) = true := decide_eq_true a1
          by_cases a2 : t < 2000
          · have d2 : decide (t < 2000) = true := decide_eq_true a2
            have HV := Lib.hid (show y.big = true by rw [HB.out]; simp only [decide_eq_true_eq]; omega)
            clear a1 a2
            go_wp2
            have hq := quiet_near hN
            refine wp_region_quiet_below (by kernel_rfl) (by kernel_rfl) ?_
            repeat (first | go_big_quiet_skip | (go_big_quiet_want; go_big_quiet_op; first | go_big_quiet_on | (apply Exists.intro; refine ⟨fun _ => ?_, ?_⟩; (focus (first | fail)); go_big_quiet_on)))
            refine wpQuiet_nil ?_
            intro w1 hw1
            clear hq
            replace hw1 := quiet_ext hw1
            replace hN := hN.step hw1
            have hC := hN.2
            go_wp2
            go_ret
            exact ⟨by rw [HIT.out HV.out]; rfl, hE.trans hN.1⟩
          · have d2 : decide (t < 2000) = false := decide_eq_false a2
            by_cases a3 : 5000 < t
            · have d3 : decide (5000 < t) = true := decide_eq_true a3
              have HV := Lib.hid (show y.big = true by rw [HB.out]; simp only [decide_eq_true_eq]; omega)
              clear a1 a2 a3
              go_wp2
              have hq := quiet_near hN
              refine wp_region_quiet_below (by kernel_rfl) (by kernel_rfl) ?_
              repeat (first | go_big_quiet_skip | (go_big_quiet_want; go_big_quiet_op; first | go_big_quiet_on | (apply Exists.intro; refine ⟨fun _ => ?_, ?_⟩; (focus (first | fail)); go_big_quiet_on)))
              refine wpQuiet_nil ?_
              intro w1 hw1
              clear hq
              replace hw1 := quiet_ext hw1
              replace hN := hN.step hw1
              have hC := hN.2
              go_wp2
              go_ret
              exact ⟨by rw [HIT.out HV.out]; rfl, hE.trans hN.1⟩
            · have d3 : decide (5000 < t) = false := decide_eq_false a3
              have HV := Lib.hid (show y.big = false by rw [HB.out]; simp only [decide_eq_false_iff_not]; omega)
              clear a1 a2 a3
              go_wp2
              have hq := quiet_near hN
              refine wp_region_quiet_below (by kernel_rfl) (by kernel_rfl) ?_
              repeat (first | go_big_quiet_skip | (go_big_quiet_want; go_big_quiet_op; first | go_big_quiet_on | (apply Exists.intro; refine ⟨fun _ => ?_, ?_⟩; (focus (first | fail)); go_big_quiet_on)))
              refine wpQuiet_nil ?_
              intro w1 hw1
              clear hq
              replace hw1 := quiet_ext hw1
              replace hN := hN.step hw1
              have hC := hN.2
              go_wp2
              go_roundg (gk - 1)
              case measure => have := Hjq.out; omega
              case rel => obtain ⟨j', e1, e2, e3⟩ := HNX.out HV.out; exact ⟨j', e1, e2, e3, hx.trans hN.1⟩
        · have d1 : decide (300 < t) = false := decide_eq_false a1
          by_cases a3 : 5000 < t
          · omega
          · have d3 : decide (5000 < t) = false := decide_eq_false a3
            have HV := Lib.hid (show y.big = false by rw [HB.out]; simp only [decide_eq_false_iff_not]; omega)
            clear a1 a3
            go_wp2
            have hq := quiet_near hN
            refine wp_region_quiet_below (by kernel_rfl) (by kernel_rfl) ?_
            repeat (first | go_big_quiet_skip | (go_big_quiet_want; go_big_quiet_op; first | go_big_quiet_on | (apply Exists.intro; refine ⟨fun _ => ?_, ?_⟩; (focus (first | fail)); go_big_quiet_on)))
            refine wpQuiet_nil ?_
            intro w1 hw1
            clear hq
            replace hw1 := quiet_ext hw1
            replace hN := hN.step hw1
            have hC := hN.2
            go_wp2
            go_roundg (gk - 1)
            case measure => have := Hjq.out; omega
            case rel => obtain ⟨j', e1, e2, e3⟩ := HNX.out HV.out; exact ⟨j', e1, e2, e3, hx.trans hN.1⟩
      · have he : j = p.cons.length := by omega
        subst he
        have hm2 := hm.out
        rw [List.take_of_length_le (Nat.le_refl _)] at hm2
        have HV := Lib.hid (show p.gr26 = false by rw [HG.out]; exact hm2)
        clear hm2
        go_wp2
        go_ret
        exact ⟨by rw [HV.out]; rfl, (hB.trans hb1).trans hx⟩
  · rw [hg] at hgr
    have HG := Lib.hid (show p.gr26 = true by unfold Pln.gr26; rw [hg]; rfl)
    clear hg
    go_enter Tryz.func4, Tryz.ntmps4
    go_wp2_with fail
    clear hW
    refine hgr.mono ?_
    clear hgr hc
    rintro e w1 ⟨rfl, hb1⟩
    go_wp2
    go_ret
    exact ⟨by rw [HG.out]; rfl, hB.trans hb1⟩

end Go.Proofs.YtifopbkhflpbfaaGreat
