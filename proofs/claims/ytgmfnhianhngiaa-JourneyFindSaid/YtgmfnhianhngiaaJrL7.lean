/- Layer 24 (journey): the walk of JourneyFind. -/
import Derived.Test.YtgmfnhianhngiaaJrL1
import Derived.Test.YtgmfnhianhngiaaJrRd
import Derived.Test.YtgmfnhianhngiaaJrRg
namespace Go.Proofs.Ytgmfnhianhngiaa
set_option linter.unusedVariables false
set_option linter.unusedSimpArgs false
open Go.RowKit Go.Shelf

def gr24L (p : Pln) (l : List Hp) : Bool := p.gr24 || decide (12 < l.length)
theorem greatL_any (Aq : Option Addr) (cq : Nat) (Ac : Option Addr) (cc : Nat) (p : Pln) (Al : Option Addr) (cl : Nat) (l : List Hp) (w : World) (hq : p.quo.length ≤ 9223372036854775807) (hcn : p.cons.length ≤ 9223372036854775807) (hl : l.length ≤ 9223372036854775807) :
    Calls Try.prog 21 #[p.val Aq cq Ac cc, .slice Al l.length cl] w fun e w' => e = .returned (.bool (gr24L p l)) ∧ Ext w w' := by
  obtain ⟨W, hW, hB, hk, hlt⟩ := box1 w #[.slice Aq p.quo.length cq, .slice Ac p.cons.length cc] 25
  have hc := hk.cell
  have hgr := great24_any Aq cq Ac cc p W hq hcn
  unfold gr24L
  cases hg : p.gr24
  all_goals
    rw [hg] at hgr
    clear hg
    unfold Pln.val at hgr ⊢
  · by_cases h12 : 12 < l.length
    · have hd : decide ((12 : Int) < (l.length : Int)) = true := decide_eq_true (by omega)
      have Hr := Lib.hid (show (false || decide (12 < l.length)) = true by simpa using h12)
      rw [Hr.out]
      clear h12
      go_enter Try.func21, Try.ntmps21
      go_wp2_with fail
      clear hW
      refine hgr.mono ?_
      rintro e w1 ⟨rfl, hb1⟩
      go_wp2
      go_ret
      exact ⟨rfl, hB.trans hb1⟩
    · have hd : decide ((12 : Int) < (l.length : Int)) = false := decide_eq_false (by omega)
      have Hr := Lib.hid (show (false || decide (12 < l.length)) = false by simpa using h12)
      rw [Hr.out]
      clear h12
      go_enter Try.func21, Try.ntmps21
      go_wp2_with fail
      clear hW
      refine hgr.mono ?_
      rintro e w1 ⟨rfl, hb1⟩
      go_wp2
      go_ret
      exact ⟨rfl, hB.trans hb1⟩
  · rw [Bool.true_or]
    go_enter Try.func21, Try.ntmps21
    go_wp2_with fail
    clear hW
    refine hgr.mono ?_
    rintro e w1 ⟨rfl, hb1⟩
    go_wp2
    go_ret
    exact ⟨rfl, hB.trans hb1⟩

set_option maxRecDepth 100000 in
set_option maxHeartbeats 4000000 in
theorem find_walk (Aq : Option Addr) (cq : Nat) (Ac : Option Addr) (cc : Nat) (p : Pln) (q : Req) (Al : Option Addr) (cl : Nat) (l : List Hp) (w : World) (h : PlnIn w Aq cq Ac cc p) (hl : Rd EHp w Al l) (hlm : l.length ≤ maxLen) :
    Calls Try.prog 7 #[p.val Aq cq Ac cc, q.val, .slice Al l.length cl] w fun e w' => e = .returned (.bool true) ∧ Ext w w' := by
  obtain ⟨W, hW, hB, hk, hkr, hlt, hltr⟩ := box2 w #[.slice Aq p.quo.length cq, .slice Ac p.cons.length cc] q.cells 25 34
  simp only [Req.cells] at hW hkr
  unfold maxLen at hlm
  have hc := hk.cell
  have hcr := hkr.cell
  have hIn : PlnIn W Aq cq Ac cc p := ⟨h.q.ext hB, h.c.ext hB, h.qc, h.ck, h.qm, h.cm⟩
  have hgr := greatL_any Aq cq Ac cc p Al cl l W hIn.le.1 hIn.le.2 (by omega)
  cases hg : gr24L p l
  case' true =>
    rw [hg] at hgr
    unfold Pln.val at hgr ⊢
    unfold Req.val
    go_enter Try.func7, Try.ntmps7
    go_wp2_with fail
    clear hW
    refine hgr.mono ?_
    clear hgr
    rintro e w1 ⟨rfl, hb1⟩
    go_wp2_with fail
    refine (awake_any _).mono ?_
    rintro e w2 ⟨rfl, hb2⟩
    go_wp2
    go_ret
    exact ⟨rfl, (hB.trans hb1).trans hb2⟩
  rw [hg] at hgr
  have hg2 : p.gr24 = false ∧ l.length ≤ 12 := by simpa [gr24L] using hg
  have hrd := hIn.rd hg2.1
  have hl12 := hg2.2
  have hlw := hl.ext hB
  clear hg hg2 hlm
  unfold Pln.val at hgr ⊢
  unfold Req.val
  go_enter Try.func7, Try.ntmps7
  go_wp2_with fail
  clear hW
  refine hgr.mono ?_
  clear hgr
  rintro e w1 ⟨rfl, hb1⟩
  have k1 := hk.ext hb1
  have r1 := hkr.ext hb1
  replace hc := k1.cell
  replace hcr := r1.cell
  have g1 := hrd.ext hb1
  have e1 := hB.trans hb1
  have h2 := JFind_any Aq cq Ac cc p q w1 g1
  unfold Pln.val Req.val at h2
  go_wp2_with fail
  refine h2.mono ?_
  clear h2
  rintro e w2 ⟨l2, k2, ⟨A2, c2, rfl, hR2, hb2, _⟩, hl2, hj2⟩
  have k2' := k1.ext hb2
  have r2 := r1.ext hb2
  replace hc := k2'.cell
  replace hcr := r2.cell
  have g2 := g1.ext hb2
  have h3 := rFind24_any Aq cq Ac cc p q w2 g2
  unfold Pln.val Req.val at h3
  go_wp2_with fail
  refine h3.mono ?_
  clear h3
  rintro e w3 ⟨l3, k3, ⟨A3, c3, rfl, hR3, hb3, _⟩, hl3, hj3⟩
  obtain ⟨rfl, rfl⟩ := hj2.unique hj3
  clear hj2 hj3 hl3
  have k3' := k2'.ext hb3
  have r3 := r2.ext hb3
  replace hc := k3'.cell
  replace hcr := r3.cell
  have g3 := g2.ext hb3
  have h4 := JFewest_any Aq cq Ac cc p q w3 g3
  unfold Pln.val Req.val at h4
  go_wp2_with fail
  refine h4.mono ?_
  clear h4
  rintro e w4 ⟨l4, k4, ⟨A4, c4, rfl, hR4, hb4, _⟩, hl4, hj4⟩
  have k4' := k3'.ext hb4
  have r4 := r3.ext hb4
  replace hc := k4'.cell
  replace hcr := r4.cell
  have g4 := g3.ext hb4
  have h5 := rFewest24_any Aq cq Ac cc p q w4 g4
  unfold Pln.val Req.val at h5
  go_wp2_with fail
  refine h5.mono ?_
  clear h5
  rintro e w5 ⟨l5, k5, ⟨A5, c5, rfl, hR5, hb5, _⟩, hl5, hj5⟩
  obtain ⟨rfl, rfl⟩ := hj4.unique hj5
  clear hj4 hj5 hl5
  have k5' := k4'.ext hb5
  have r5 := r4.ext hb5
  replace hc := k5'.cell
  replace hcr := r5.cell
  have hlp5 := k5'.lt
  have hlq5 := r5.lt
  have g5 := g4.ext hb5
  have e5 := (e1.trans hb2).trans (hb3.trans (hb4.trans hb5))
  have hlw5 := hl.ext e5
  replace hR2 := ((hR2.ext hb3).ext hb4).ext hb5
  replace hR3 := (hR3.ext hb4).ext hb5
  replace hR4 := hR4.ext hb5
  have hsA := fun d os => sameHops24_ex A2 A3 c2 c3 l2 (Sort.grow (redrawn w5 d) os) (hR2.ext (below_regrown w5 d os)) (hR3.ext (below_regrown w5 d os)) hl2
  have hsB := fun d os => sameHops24_ex A4 A5 c4 c5 l4 (Sort.grow (redrawn w5 d) os) (hR4.ext (below_regrown w5 d os)) (hR5.ext (below_regrown w5 d os)) (by omega)
  have hcA := fun d os => jCheck_any Aq cq Ac cc p q Al cl l (Sort.grow (redrawn w5 d) os) (g5.ext (below_regrown w5 d os)) (hlw5.ext (below_regrown w5 d os)) (by omega)
  have hcB := fun d os => rCheck24_any Aq cq Ac cc p q Al cl l (Sort.grow (redrawn w5 d) os) (g5.ext (below_regrown w5 d os)) (hlw5.ext (below_regrown w5 d os)) (by omega)
  unfold Pln.val Req.val at hcA hcB
  obtain ⟨X, hX⟩ : ∃ X, p.jchk q l = X := ⟨_, rfl⟩
  rw [hX] at hcA hcB
  clear hX hrd g1 g2 g3 g4 k1 r1 k2' r2 k3' r3 k4' r4
  have hN := Near.refl w5
  go_wp2_with fail
  have hq := quiet_near hN
  refine wp_region_quiet_below (by kernel_rfl) (by kernel_rfl) ?_
  repeat (first | go_big_quiet_skip | (go_big_quiet_want; go_big_quiet_op; first | go_big_quiet_on | (apply Exists.intro; refine ⟨fun _ => ?_, ?_⟩; (focus (first | (go_at_call 24; with_reducible exact Calls.regrown_of (hsA _ _)) | (go_at_call 24; with_reducible exact Calls.regrown_of (hsB _ _)) | (go_at_call 25; with_reducible exact Calls.regrown_of (hcA _ _)) | (go_at_call 26; with_reducible exact Calls.regrown_of (hcB _ _)) | (go_at_call 11; exact Calls.regrown_of (awake_any _)))); go_big_quiet_on)))
  refine wpQuiet_nil ?_
  intro w1 hw1
  clear hq
  replace hw1 := quiet_ext hw1
  replace hN := hN.step hw1
  have hC := hN.2
  go_wp2
  go_ret
  exact ⟨rfl, e5.trans hN.1⟩

end Go.Proofs.Ytgmfnhianhngiaa
