
/- Layer 26 (reach): the walk of ReachMatrices. -/
import Derived.Test.YtifopbkhflpbfaaRchY
namespace Go.Proofs.Ytifopbkhflpbfaa
set_option linter.unusedVariables false
set_option linter.unusedSimpArgs false
open Go.RowKit Go.Shelf
attribute [local go_sem] Oper.semAt_some

theorem PlnIn.rd26 {w : World} {Aq : Option Addr} {cq : Nat} {Ac : Option Addr} {cc : Nat} {p : Pln} (h : PlnIn w Aq cq Ac cc p) (hg : p.gr26 = false) : PlnRd w Aq cq Ac cc p :=
  h.rd (by unfold Pln.gr26 at hg; exact (Bool.or_eq_false_iff.1 hg).1)

set_option maxRecDepth 100000 in
set_option maxHeartbeats 4000000 in
theorem matrices_walk (Aq : Option Addr) (cq : Nat) (Ac : Option Addr) (cc : Nat) (p : Pln) (r d n : Int) (w : World) (h : PlnIn w Aq cq Ac cc p) :
    Calls Try.prog 3 #[p.val Aq cq Ac cc, .int .i64 r, .int .i64 d, .int .i64 n] w fun e w' => e = .returned (.bool true) ∧ Ext w w' := by
  obtain ⟨W, hW, hB, hk, hlt⟩ := box1 w #[.slice Aq p.quo.length cq, .slice Ac p.cons.length cc] 25
  have hc := hk.cell
  have hgr := great26_any Aq cq Ac cc p W (h.ext hB)
  cases hg : p.gr26
  · rw [hg] at hgr
    have hrd := (h.rd26 hg).ext hB
    have hqm := hrd.qm
    have hml := p.matM_len r d n
    have hmr := p.matM_row r d n
    have hhl := hubsK_len (p.matM r d n) (p.matM r d n).length
    clear hg
    have h1 := fun w h => Matrix_any Aq cq Ac cc p r d n w h
    have h2 := fun w h => rMatrix_any Aq cq Ac cc p r d n w h
    have h3 := fun w h => Hubs_any Aq cq Ac cc p r d n w h
    have h4 := fun w h => rHubs_any Aq cq Ac cc p r d n w h
    obtain ⟨M, hMe⟩ : ∃ M, p.matM r d n = M := ⟨_, rfl⟩
    obtain ⟨er, hee⟩ : ∃ er, p.matE r d n = er := ⟨_, rfl⟩
    unfold MatR at h1 h2
    unfold HubR at h3 h4
    rw [hMe] at hml hmr hhl
    rw [hMe, hee] at h1 h2 h3 h4
    have hhu : (hubs M).length ≤ 1000000 := by unfold hubs; omega
    have Hmr := Lib.hid hmr
    clear hmr hMe hee hhl
    unfold Pln.val at hgr h1 h2 h3 h4 ⊢
    go_enter Try.func3, Try.ntmps3
    go_wp2_with fail
    clear hW
    refine hgr.mono ?_
    clear hgr
    rintro e w1 ⟨rfl, hb1⟩
    have hk1 := hk.ext hb1
    replace hc := hk1.cell
    go_wp2_with fail
    refine (h1 _ (hrd.ext hb1)).mono ?_
    clear h1
    rintro e w2 ⟨A2, c2, rfl, hR2, hb2⟩
    have hk2 := hk1.ext hb2
    replace hc := hk2.cell
    go_wp2_with fail
    refine (h2 _ ((hrd.ext hb1).ext hb2)).mono ?_
    clear h2
    rintro e w3 ⟨A3, c3, rfl, hR3, hb3⟩
    have hk3 := hk2.ext hb3
    replace hc := hk3.cell
    go_wp2_with fail
    refine (h3 _ (((hrd.ext hb1).ext hb2).ext hb3)).mono ?_
    clear h3
    rintro e w4 ⟨A4, c4, rfl, hR4, hb4⟩
    have hk4 := hk3.ext hb4
    replace hc := hk4.cell
    go_wp2_with fail
    refine (h4 _ ((((hrd.ext hb1).ext hb2).ext hb3).ext hb4)).mono ?_
    clear h4
    rintro e w5 ⟨A5, c5, rfl, hR5, hb5⟩
    go_wp2_with fail
    refine (same_any A2 A3 c2 c3 M w5 _ _ (((hR2.ext hb3).ext hb4).ext hb5) ((hR3.ext hb4).ext hb5) (by omega) (fun x hx => by rw [Hmr.out x hx]; exact hqm)).mono ?_
    rintro e w6 ⟨rfl, hb6⟩
    go_wp2_with fail
    refine (equalInt_ex A4 A5 c4 c5 _ w6 ((hR4.rd.ext hb5).ext hb6) (hR5.rd.ext hb6) hhu).mono ?_
    rintro e w7 ⟨rfl, hb7⟩
    go_wp2_with fail
    refine (awake_any _).mono ?_
    rintro e w8 ⟨rfl, hb8⟩
    go_wp2
    go_ret
    exact ⟨rfl, (((hB.trans hb1).trans hb2).trans (hb3.trans hb4)).trans ((hb5.trans hb6).trans (hb7.trans hb8))⟩
  · rw [hg] at hgr
    clear hg
    unfold Pln.val at hgr ⊢
    go_enter Try.func3, Try.ntmps3
    go_wp2_with fail
    clear hW
    refine hgr.mono ?_
    rintro e w1 ⟨rfl, hb1⟩
    go_wp2_with fail
    refine (awake_any _).mono ?_
    rintro e w2 ⟨rfl, hb2⟩
    go_wp2
    go_ret
    exact ⟨rfl, (hB.trans hb1).trans hb2⟩

end Go.Proofs.Ytifopbkhflpbfaa
