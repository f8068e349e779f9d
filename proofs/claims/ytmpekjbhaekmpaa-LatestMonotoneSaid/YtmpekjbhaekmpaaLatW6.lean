
/- Layer 25 (latest): the walks of both functions Slack. -/
import Derived.Test.YtmpekjbhaekmpaaLatW5
namespace Go.Proofs.Ytmpekjbhaekmpaa
set_option linter.unusedVariables false
open Go.RowKit Go.Shelf

theorem Pln.ofE_zero {p : Pln} {q : Req} (h : p.ofE q = 0) : p.chk = 0 ∧ q.okB p.quo.length = true ∧ q.ready ≤ gi (p.fixT q) q.src := by
  unfold Pln.ofE at h
  split at h
  · rename_i h0
    split at h
    · rename_i h1
      split at h
      · cases h
      · exact ⟨h0, h1, by omega⟩
    · cases h
  · cases h
theorem Pln.fix_inv {p : Pln} {q : Req} (h : p.chk = 0) (hq : q.okB p.quo.length = true) : LInv p.quo.length q.dead q.dst (p.fixT q) ∧ LFix q.dst q.size p.cons (p.fixT q) := Pln.times_inv (Pln.ok_of h) (Req.argB hq)
def Pln.slackT (p : Pln) (q : Req) : Int := if p.ofE q = 0 then gi (p.fixT q) q.src - q.ready else 0

set_option maxRecDepth 100000 in
set_option maxHeartbeats 4000000 in
theorem Slack_any (Aq : Option Addr) (cq : Nat) (Ac : Option Addr) (cc : Nat) (p : Pln) (q : Req) (w : World) (h : PlnRd w Aq cq Ac cc p) :
    Calls Try.prog 17 #[p.val Aq cq Ac cc, q.val] w fun e w' => e = .returned (.tuple #[.int .i64 (p.slackT q), .int .i64 (p.ofE q)]) ∧ Ext w w' := by
  obtain ⟨W, hW, hB, hk, hk2, hlt, hlt2⟩ := box2 w #[.slice Aq p.quo.length cq, .slice Ac p.cons.length cc] q.cells 25 34
  simp only [Req.cells] at hW hk2
  have hc := hk.cell
  have hc2 := hk2.cell
  have hof := of_any Aq cq Ac cc p q W (h.ext hB)
  by_cases h0 : p.ofE q = 0
  · have ⟨z1, z2, z3⟩ := Pln.ofE_zero h0
    have hinv := (Pln.fix_inv z1 z2).1
    have HS := Lib.hid (show p.slackT q = gi (p.fixT q) q.src - q.ready by unfold Pln.slackT; rw [if_pos h0])
    simp only [Req.okB, decide_eq_true_eq] at z2
    obtain ⟨a1, a2, a3, a4, a5, a6, a7, a8, a9, a10, a11, a12⟩ := z2
    have hsl : q.src.toNat < (p.fixT q).length := by rw [hinv.len]; omega
    have hs2 : q.src < (p.fixT q).length := by omega
    have hlo := hinv.lo _ (gi_mem hsl)
    have hhi := hinv.hi _ (gi_mem hsl)
    have hT : p.ofT q = p.fixT q := by unfold Pln.ofT; rw [if_pos h0]
    rw [hT, h0] at hof
    have HT := Lib.hid hT
    have H0 := Lib.hid h0
    clear hT h0 z1 a5
    unfold Pln.val at hof ⊢
    unfold Req.val at hof ⊢
    go_enter Try.func17, Try.ntmps17
    go_wp2_with fail
    clear hW
    refine hof.mono ?_
    clear hof
    rintro e w1 ⟨A1, c1, rfl, hR1, hb1, hcap⟩
    have hk3 := hk2.ext hb1
    have hc3 := hk3.cell
    have hl3 := hk3.lt
    obtain ⟨b, o, rfl, hb, c0⟩ := hR1.int hsl
    have hg := Lib.hid (gi_of (m := p.fixT q) a1 hsl)
    rw [← hg.out] at c0
    clear hc hc2
    have hN := Near.refl w1
    go_wp2
    have hq := quiet_near hN
    refine wp_region_quiet_below (by kernel_rfl) (by kernel_rfl) ?_
    repeat (first | go_big_quiet_skip | (go_big_quiet_want; go_big_quiet_op; first | go_big_quiet_on | (apply Exists.intro; refine ⟨fun _ => ?_, ?_⟩; (focus (first | fail)); go_big_quiet_on)))
    refine wpQuiet_nil ?_
    intro w1 hw1
    clear hq
    replace hw1 := quiet_ext hw1
    replace hN := hN.step hw1
    have hC := hN.2
    go_wp2
    go_ret2
    rw [HS.out, H0.out]
    refine ⟨?_, (hB.trans hb1).trans hN.1⟩
    try go_unwrap
    try rfl
  · have HS := Lib.hid (show p.slackT q = 0 by unfold Pln.slackT; rw [if_neg h0])
    have hd : (p.ofE q != 0) = true := by simpa using h0
    have H0 := Lib.hid h0
    clear h0
    unfold Pln.val at hof ⊢
    unfold Req.val at hof ⊢
    go_enter Try.func17, Try.ntmps17
    go_wp2_with fail
    clear hW
    refine hof.mono ?_
    clear hof
    rintro e w1 ⟨A1, c1, rfl, hR1, hb1, hcap⟩
    go_wp2
    go_ret2
    rw [HS.out]
    exact ⟨rfl, hB.trans hb1⟩

set_option maxRecDepth 100000 in
set_option maxHeartbeats 4000000 in
theorem rSlack_any (Aq : Option Addr) (cq : Nat) (Ac : Option Addr) (cc : Nat) (p : Pln) (q : Req) (w : World) (h : PlnRd w Aq cq Ac cc p) :
    Calls Try.prog 18 #[p.val Aq cq Ac cc, q.val] w fun e w' => e = .returned (.tuple #[.int .i64 (p.slackT q), .int .i64 (p.ofE q)]) ∧ Ext w w' := by
  obtain ⟨W, hW, hB, hk, hk2, hlt, hlt2⟩ := box2 w #[.slice Aq p.quo.length cq, .slice Ac p.cons.length cc] q.cells 25 34
  simp only [Req.cells] at hW hk2
  have hc := hk.cell
  have hc2 := hk2.cell
  have hqm := h.qm
  have hpc := rpcheck_any Aq cq Ac cc p W (h.ext hB)
  by_cases h0 : p.chk = 0
  · have hok := Pln.ok_of h0
    have hrq := fun w => rrequest_any Aq cq Ac cc p q w hqm
    cases hq : q.okB p.quo.length
    · have HE := Lib.hid (show p.ofE q = 1 by unfold Pln.ofE; rw [if_pos h0, hq]; rfl)
      have HT := Lib.hid (show p.slackT q = 0 by unfold Pln.slackT; rw [HE.out]; rfl)
      rw [h0] at hpc
      simp only [hq] at hrq
      clear h0 hq
      unfold Pln.val at hpc hrq ⊢
      unfold Req.val at hrq ⊢
      go_enter Try.func18, Try.ntmps18
      go_wp2_with fail
      clear hW
      refine hpc.mono ?_
      rintro e w1 ⟨rfl, hb1⟩
      have hc1 := (hk.ext hb1).cell
      have hc3 := (hk2.ext hb1).cell
      clear hpc hc hc2
      go_wp2_with fail
      refine (hrq _).mono ?_
      rintro e w2 ⟨rfl, hb2⟩
      go_wp2
      go_ret2
      rw [HE.out, HT.out]
      exact ⟨rfl, (hB.trans hb1).trans hb2⟩
    · have ha := Req.argB hq
      have hinv := (Pln.fix_inv h0 hq).1
      have hq2 := hq
      simp only [Req.okB, decide_eq_true_eq] at hq2
      obtain ⟨a1, a2, a3, a4, a5, a6, a7, a8, a9, a10, a11, a12⟩ := hq2
      have HE := Lib.hid (show p.ofE q = if gi (p.fixT q) q.src < q.ready then 18 else 0 by unfold Pln.ofE; rw [if_pos h0, if_pos hq])
      have hsl : q.src.toNat < (p.fixT q).length := by rw [hinv.len]; omega
      have hs2 : q.src < (p.fixT q).length := by omega
      have hlo := hinv.lo _ (gi_mem hsl)
      have hhi := hinv.hi _ (gi_mem hsl)
      have Ha := Lib.hid ha
      rw [h0] at hpc
      simp only [hq] at hrq
      clear h0 hq ha a5
      unfold Pln.val at hpc hrq ⊢
      unfold Req.val at hrq ⊢
      go_enter Try.func18, Try.ntmps18
      go_wp2_with fail
      clear hW
      refine hpc.mono ?_
      rintro e w1 ⟨rfl, hb1⟩
      have hc1 := (hk.ext hb1).cell
      have hc3 := (hk2.ext hb1).cell
      clear hpc hc hc2
      go_wp2_with fail
      refine (hrq _).mono ?_
      rintro e w2 ⟨rfl, hb2⟩
      have hc4 := ((hk.ext hb1).ext hb2).cell
      have hk5 := (hk2.ext hb1).ext hb2
      have hc5 := hk5.cell
      clear hc1 hc3 hrq
      go_wp2_with fail
      have ht := rltimes_any Aq cq Ac cc p q.dst q.dead q.size w2 (((h.ext hB).ext hb1).ext hb2) hok Ha.out
      change Calls _ _ _ _ (fun e w' => ∃ v, e = .returned v ∧ Owns EInt w' w2.heap.size _ v (p.fixT q) ∧ Ext w2 w') at ht
      refine ht.mono ?_
      clear ht
      rintro e w3 ⟨v, rfl, hv, hb3⟩
      have hE3 := ((hB.trans hb1).trans hb2).trans hb3
      have hk6 := hk5.ext hb3
      have hc6 := hk6.cell
      have hl6 := hk6.lt
      obtain ⟨A3, c3, rfl, hR3⟩ := hv.form
      obtain ⟨b, o, rfl, hb, c0⟩ := hR3.int hsl
      have hg := Lib.hid (gi_of (m := p.fixT q) a1 hsl)
      rw [← hg.out] at c0
      clear hc4 hc5
      have hN := Near.refl w3
      by_cases hr : gi (p.fixT q) q.src < q.ready
      · go_wp2
        have hq := quiet_near hN
        refine wp_region_quiet_below (by kernel_rfl) (by kernel_rfl) ?_
        repeat (first | go_big_quiet_skip | (go_big_quiet_want; go_big_quiet_op; first | go_big_quiet_on | (apply Exists.intro; refine ⟨fun _ => ?_, ?_⟩; (focus (first | fail)); go_big_quiet_on)))
        refine wpQuiet_nil ?_
        intro w1 hw1
        clear hq
        replace hw1 := quiet_ext hw1
        replace hN := hN.step hw1
        have hC := hN.2
        go_wp2
        go_ret2
        have e1 : p.ofE q = 18 := by rw [HE.out]; exact if_pos hr
        have e2 : p.slackT q = 0 := by unfold Pln.slackT; rw [e1]; rfl
        rw [e1, e2]
        exact ⟨rfl, hE3.trans hN.1⟩
      · go_wp2
        have hq := quiet_near hN
        refine wp_region_quiet_below (by kernel_rfl) (by kernel_rfl) ?_
        repeat (first | go_big_quiet_skip | (go_big_quiet_want; go_big_quiet_op; first | go_big_quiet_on | (apply Exists.intro; refine ⟨fun _ => ?_, ?_⟩; (focus (first | fail)); go_big_quiet_on)))
        refine wpQuiet_nil ?_
        intro w1 hw1
        clear hq
        replace hw1 := quiet_ext hw1
        replace hN := hN.step hw1
        have hC := hN.2
        go_wp2
        have hq := quiet_near hN
        refine wp_region_quiet_below (by kernel_rfl) (by kernel_rfl) ?_
        repeat (first | go_big_quiet_skip | (go_big_quiet_want; go_big_quiet_op; first | go_big_quiet_on | (apply Exists.intro; refine ⟨fun _ => ?_, ?_⟩; (focus (first | fail)); go_big_quiet_on)))
        refine wpQuiet_nil ?_
        intro w1 hw1
        clear hq
        replace hw1 := quiet_ext hw1
        replace hN := hN.step hw1
        have hC := hN.2
        go_wp2
        go_ret2
        have e1 : p.ofE q = 0 := by rw [HE.out]; exact if_neg (by omega)
        have e2 : p.slackT q = gi (p.fixT q) q.src - q.ready := by unfold Pln.slackT; rw [e1]; rfl
        rw [e1, e2]
        refine ⟨?_, hE3.trans hN.1⟩
        try go_unwrap
        try rfl
  · have HE := Lib.hid (show p.ofE q = 1 by unfold Pln.ofE; rw [if_neg h0])
    have HT := Lib.hid (show p.slackT q = 0 by unfold Pln.slackT; rw [HE.out]; rfl)
    have hd : (p.chk != 0) = true := by simpa using h0
    have H0 := Lib.hid h0
    clear h0
    unfold Pln.val at hpc ⊢
    unfold Req.val
    go_enter Try.func18, Try.ntmps18
    go_wp2_with fail
    clear hW
    refine hpc.mono ?_
    rintro e w1 ⟨rfl, hb1⟩
    go_wp2
    go_ret2
    rw [HE.out, HT.out]
    exact ⟨rfl, hB.trans hb1⟩

end Go.Proofs.Ytmpekjbhaekmpaa
