
/- Layer 25 (latest): the walks of the reference's Latest, and of 'of'. -/
import Derived.Test.YtmaengcmhopmbaaGreatLatW4
namespace Go.Proofs.YtmaengcmhopmbaaGreat
set_option linter.unusedVariables false
open Go.RowKit Go.Shelf

def Pln.fixT (p : Pln) (q : Req) : List Int := p.times q.dst q.dead q.size
def Pln.ofE (p : Pln) (q : Req) : Int := if p.chk = 0 then (if q.okB p.quo.length then (if gi (p.fixT q) q.src < q.ready then 18 else 0) else 1) else 1
def Pln.ofT (p : Pln) (q : Req) : List Int := if p.ofE q = 0 then p.fixT q else []
theorem Req.argB {p : Pln} {q : Req} (h : q.okB p.quo.length = true) : p.argB q.dst q.dead q.size = true := by
  simp only [Req.okB, decide_eq_true_eq] at h
  simp only [Pln.argB, decide_eq_true_eq]
  omega

set_option maxRecDepth 100000 in
set_option maxHeartbeats 4000000 in
theorem of_any (Aq : Option Addr) (cq : Nat) (Ac : Option Addr) (cc : Nat) (p : Pln) (q : Req) (w : World) (h : PlnRd w Aq cq Ac cc p) :
    Calls Tryz.prog 21 #[p.val Aq cq Ac cc, q.val] w (RetA EInt w (p.ofT q) (p.ofE q)) := by
  obtain ⟨W, hW, hB, hk, hk2, hlt, hlt2⟩ := box2 w #[.slice Aq p.quo.length cq, .slice Ac p.cons.length cc] q.cells 25 27
  simp only [Req.cells] at hW hk2
  have hc := hk.cell
  have hc2 := hk2.cell
  have hqm := h.qm
  have hpc := pcheck_any Aq cq Ac cc p W (h.ext hB)
  by_cases h0 : p.chk = 0
  · have hok := Pln.ok_of h0
    have hrq := fun w => lrequest_any Aq cq Ac cc p q w hqm
    cases hq : q.okB p.quo.length
    · have HE := Lib.hid (show p.ofE q = 1 by unfold Pln.ofE; rw [if_pos h0, hq]; rfl)
      have HT := Lib.hid (show p.ofT q = [] by unfold Pln.ofT; rw [HE.out]; rfl)
      rw [h0] at hpc
      simp only [hq] at hrq
      clear h0 hq
      unfold Pln.val at hpc hrq ⊢
      unfold Req.val at hrq ⊢
      go_enter Tryz.func21, Tryz.ntmps21
      go_wp2_with fail
      clear hW
      refine hpc.mono ?_
      rintro e w1 ⟨rfl, hb1⟩
      have hc1 := (hk.ext hb1).cell
      have hc3 := (hk2.ext hb1).cell
      clear hpc hc hc2
      go_wp2_with fail
      refine (hrq _).mono ?_
      rintro e w2 ⟨rfl, hb2⟩
      go_wp2
      go_ret2
      rw [HE.out, HT.out]
      exact ⟨none, 0, rfl, Rd.nil, (hB.trans hb1).trans hb2, Nat.le_refl _⟩
    · have ha := Req.argB hq
      have hq2 := hq
      simp only [Req.okB, decide_eq_true_eq] at hq2
      obtain ⟨a1, a2, a3, a4, a5, a6, a7, a8, a9, a10, a11, a12⟩ := hq2
      have HE := Lib.hid (show p.ofE q = if gi (p.fixT q) q.src < q.ready then 18 else 0 by unfold Pln.ofE; rw [if_pos h0, if_pos hq])
      have hlen := Pln.times_len hok ha
      have Hlen := Lib.hid hlen
      have Ha := Lib.hid ha
      rw [h0] at hpc
      simp only [hq] at hrq
      clear h0 hq ha hlen a5
      unfold Pln.val at hpc hrq ⊢
      unfold Req.val at hrq ⊢
      go_enter Tryz.func21, Tryz.ntmps21
      go_wp2_with fail
      clear hW
      refine hpc.mono ?_
      rintro e w1 ⟨rfl, hb1⟩
      have hc1 := (hk.ext hb1).cell
      have hc3 := (hk2.ext hb1).cell
      clear hpc hc hc2
      go_wp2_with fail
      refine (hrq _).mono ?_
      rintro e w2 ⟨rfl, hb2⟩
      have hc4 := ((hk.ext hb1).ext hb2).cell
      have hk5 := (hk2.ext hb1).ext hb2
      have hc5 := hk5.cell
      clear hc1 hc3 hrq
      go_wp2_with fail
      refine (ltimes_any Aq cq Ac cc p q.dst q.dead q.size w2 (((h.ext hB).ext hb1).ext hb2) hok Ha.out).mono ?_
      rintro e w3 ⟨v, rfl, hv, hb3⟩
      have hE3 := ((hB.trans hb1).trans hb2).trans hb3
      have hk6 := hk5.ext hb3
      have hc6 := hk6.cell
      have hl6 := hk6.lt
      obtain ⟨A3, c3, rfl, hR3⟩ := hv.form
      have hcap := hv.cap
      have hsl : q.src.toNat < (p.times q.dst q.dead q.size).length := by have := Hlen.out; omega
      obtain ⟨b, o, rfl, hb, c0⟩ := hR3.int hsl
      have hg := Lib.hid (gi_of (m := p.times q.dst q.dead q.size) a1 hsl)
      rw [← hg.out] at c0
      have hs2 : q.src < (p.times q.dst q.dead q.size).length := by omega
      clear hc4 hc5
      have hN := Near.refl w3
      by_cases hr : gi (p.times q.dst q.dead q.size) q.src < q.ready
      · go_wp2
        have hq := quiet_near hN
        refine wp_region_quiet_below (by kernel_rfl) (by kernel_rfl) ?_
        repeat (first | go_big_quiet_skip | (go_big_quiet_want; go_big_quiet_op; first | go_big_quiet_on | (apply Exists.intro; refine ⟨fun _ => ?_, ?_⟩; (focus (first | fail)); go_big_quiet_on)))
        refine wpQuiet_nil ?_
        intro w1 hw1
        clear hq
        replace hw1 := quiet_ext hw1
        replace hN := hN.step hw1
        have hC := hN.2
        go_wp2
        go_ret2
        have e1 : p.ofE q = 18 := by rw [HE.out]; exact if_pos hr
        have e2 : p.ofT q = [] := by unfold Pln.ofT; rw [e1]; rfl
        rw [e1, e2]
        exact ⟨none, 0, rfl, Rd.nil, hE3.trans hN.1, Nat.le_refl _⟩
      · go_wp2
        have hq := quiet_near hN
        refine wp_region_quiet_below (by kernel_rfl) (by kernel_rfl) ?_
        repeat (first | go_big_quiet_skip | (go_big_quiet_want; go_big_quiet_op; first | go_big_quiet_on | (apply Exists.intro; refine ⟨fun _ => ?_, ?_⟩; (focus (first | fail)); go_big_quiet_on)))
        refine wpQuiet_nil ?_
        intro w1 hw1
        clear hq
        replace hw1 := quiet_ext hw1
        replace hN := hN.step hw1
        have hC := hN.2
        go_wp2
        go_ret2
        have e1 : p.ofE q = 0 := by rw [HE.out, if_neg (show ¬ gi (p.fixT q) q.src < q.ready by unfold Pln.fixT; omega)]
        have e2 : p.ofT q = p.times q.dst q.dead q.size := by unfold Pln.ofT; rw [e1]; rfl
        rw [e1, e2]
        exact ⟨_, _, rfl, hR3.ext hN.1, hE3.trans hN.1, hcap⟩
  · have HE := Lib.hid (show p.ofE q = 1 by unfold Pln.ofE; rw [if_neg h0])
    have HT := Lib.hid (show p.ofT q = [] by unfold Pln.ofT; rw [HE.out]; rfl)
    have hd : (p.chk != 0) = true := by simpa using h0
    have H0 := Lib.hid h0
    clear h0
    unfold Pln.val at hpc ⊢
    unfold Req.val
    go_enter Tryz.func21, Tryz.ntmps21
    go_wp2_with fail
    clear hW
    refine hpc.mono ?_
    rintro e w1 ⟨rfl, hb1⟩
    go_wp2
    go_ret2
    rw [HE.out, HT.out]
    exact ⟨none, 0, rfl, Rd.nil, hB.trans hb1, Nat.le_refl _⟩

end Go.Proofs.YtmaengcmhopmbaaGreat
