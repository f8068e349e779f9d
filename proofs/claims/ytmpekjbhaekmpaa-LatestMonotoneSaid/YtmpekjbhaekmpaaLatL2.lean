/- Layer 25 (latest): the walks of fine and of LatestSlack. -/
import Derived.Test.YtmpekjbhaekmpaaLatL1
namespace Go.Proofs.Ytmpekjbhaekmpaa
set_option linter.unusedVariables false
open Go.RowKit Go.Shelf

def fineB (p : Pln) (q : Req) : Bool := !p.great && (decide (p.chk = 0) && q.okB p.quo.length)
theorem fine_of {p : Pln} {q : Req} (h : fineB p q = true) : p.great = false ∧ p.chk = 0 ∧ q.okB p.quo.length = true := by
  simp only [fineB, Bool.and_eq_true, Bool.not_eq_true', decide_eq_true_eq] at h
  exact ⟨h.1, h.2.1, h.2.2⟩

set_option maxRecDepth 100000 in
set_option maxHeartbeats 4000000 in
theorem fine_any (Aq : Option Addr) (cq : Nat) (Ac : Option Addr) (cc : Nat) (p : Pln) (q : Req) (w : World) (h : PlnIn w Aq cq Ac cc p) :
    Calls Try.prog 20 #[p.val Aq cq Ac cc, q.val] w fun e w' => e = .returned (.bool (fineB p q)) ∧ Ext w w' := by
  obtain ⟨W, hW, hB, hk, hkr, hlt, hltr⟩ := box2 w #[.slice Aq p.quo.length cq, .slice Ac p.cons.length cc] q.cells 25 34
  simp only [Req.cells] at hW hkr
  have hc := hk.cell
  have hcr := hkr.cell
  have hgr := great22_any Aq cq Ac cc p W h.le.1 h.le.2
  cases hg : p.great
  · rw [hg] at hgr
    have hrd := (h.rd hg).ext hB
    have h1 := fun w h => pcheck_any Aq cq Ac cc p w h
    have h2 := fun w => rrequest_any Aq cq Ac cc p q w hrd.qm
    by_cases h0 : p.chk = 0
    · have HF := Lib.hid (show fineB p q = q.okB p.quo.length by simp [fineB, hg, h0])
      simp only [h0] at h1
      have H0 := Lib.hid h0
      clear hg h0
      unfold Pln.val at hgr h1 h2 ⊢
      unfold Req.val at h2 ⊢
      go_enter Try.func20, Try.ntmps20
      go_wp2_with fail
      clear hW
      refine hgr.mono ?_
      clear hgr
      rintro e w1 ⟨rfl, hb1⟩
      have hk1 := hk.ext hb1
      have hkr1 := hkr.ext hb1
      replace hc := hk1.cell
      replace hcr := hkr1.cell
      go_wp2_with fail
      refine (h1 _ (hrd.ext hb1)).mono ?_
      clear h1
      rintro e w2 ⟨rfl, hb2⟩
      replace hc := (hk1.ext hb2).cell
      replace hcr := (hkr1.ext hb2).cell
      go_wp2_with fail
      refine (h2 _).mono ?_
      rintro e w3 ⟨rfl, hb3⟩
      go_wp2
      go_ret
      exact ⟨ret_bool (by rw [HF.out]), ((hB.trans hb1).trans hb2).trans hb3⟩
    · have HF := Lib.hid (show fineB p q = false by simp [fineB, h0])
      have hd : (p.chk == 0) = false := by simpa using h0
      have H0 := Lib.hid h0
      clear hg h0 h2
      unfold Pln.val at hgr h1 ⊢
      unfold Req.val
      go_enter Try.func20, Try.ntmps20
      go_wp2_with fail
      clear hW
      refine hgr.mono ?_
      clear hgr
      rintro e w1 ⟨rfl, hb1⟩
      have hk1 := hk.ext hb1
      replace hc := hk1.cell
      go_wp2_with fail
      refine (h1 _ (hrd.ext hb1)).mono ?_
      clear h1
      rintro e w2 ⟨rfl, hb2⟩
      go_wp2
      go_ret
      exact ⟨ret_bool (by rw [HF.out]), (hB.trans hb1).trans hb2⟩
  · have HF := Lib.hid (show fineB p q = false by simp [fineB, hg])
    rw [hg] at hgr
    clear hg
    unfold Pln.val at hgr ⊢
    unfold Req.val
    go_enter Try.func20, Try.ntmps20
    go_wp2_with fail
    clear hW
    refine hgr.mono ?_
    rintro e w1 ⟨rfl, hb1⟩
    go_wp2
    go_ret
    exact ⟨ret_bool (by rw [HF.out]), hB.trans hb1⟩

def Req.at (q : Req) (t : Int) : Req := { q with ready := t }
theorem Req.okAt {q : Req} {n : Nat} {t : Int} (h : q.okB n = true) (h0 : 0 ≤ t) (h1 : t ≤ q.dead) : (q.at t).okB n = true := by
  simp only [Req.okB, decide_eq_true_eq] at h
  obtain ⟨a1, a2, a3, a4, a5, a6, a7, a8, a9, a10, a11, a12⟩ := h
  exact decide_eq_true ⟨a1, a2, a3, a4, a5, a6, a7, h0, h1, a10, a11, a12⟩
theorem latT_fix {p : Pln} {q : Req} (h : p.chk = 0) (hq : q.okB p.quo.length = true) : p.latT q.dst q.dead q.size = p.fixT q ∧ p.latE q.dst q.dead q.size = 0 := by
  have e1 : p.latE q.dst q.dead q.size = 0 := by unfold Pln.latE; rw [if_pos h, Req.argB hq]; rfl
  exact ⟨by unfold Pln.latT; rw [e1]; rfl, e1⟩
theorem ofE_fine {p : Pln} {q : Req} (h : p.chk = 0) (hq : q.okB p.quo.length = true) : p.ofE q = if gi (p.fixT q) q.src < q.ready then 18 else 0 := by
  unfold Pln.ofE; rw [if_pos h, if_pos hq]

set_option maxRecDepth 100000 in
set_option maxHeartbeats 4000000 in
theorem slack_walk (Aq : Option Addr) (cq : Nat) (Ac : Option Addr) (cc : Nat) (p : Pln) (q : Req) (by_ : Int) (w : World) (h : PlnIn w Aq cq Ac cc p) (hby : 0 ≤ by_ ∧ by_ ≤ 65535) :
    Calls Try.prog 6 #[p.val Aq cq Ac cc, q.val, .int .u16 by_] w fun e w' => e = .returned (.bool true) ∧ Ext w w' := by
  obtain ⟨W, hW, hB, hk, hkr, hlt, hltr⟩ := box2 w #[.slice Aq p.quo.length cq, .slice Ac p.cons.length cc] q.cells 25 34
  simp only [Req.cells] at hW hkr
  have hc := hk.cell
  have hcr := hkr.cell
  have hIn : PlnIn W Aq cq Ac cc p := ⟨h.q.ext hB, h.c.ext hB, h.qc, h.ck, h.qm, h.cm⟩
  have hfi := fine_any Aq cq Ac cc p q W hIn
  obtain ⟨hby0, hby1⟩ := hby
  cases hf : fineB p q
  · rw [hf] at hfi
    unfold Pln.val at hfi ⊢
    unfold Req.val at hfi ⊢
    go_enter Try.func6, Try.ntmps6
    go_wp2_with fail
    clear hW
    refine hfi.mono ?_
    clear hfi
    rintro e w1 ⟨rfl, hb1⟩
    go_wp2_with fail
    refine (awake_any _).mono ?_
    rintro e w2 ⟨rfl, hb2⟩
    go_wp2
    go_ret
    exact ⟨rfl, (hB.trans hb1).trans hb2⟩
  · rw [hf] at hfi
    obtain ⟨f1, f2, f3⟩ := fine_of hf
    have hrd := hIn.rd f1
    have hE := ofE_fine f2 f3
    have hlt1 := (latT_fix f2 f3).1
    have hle1 := (latT_fix f2 f3).2
    have hinv := (Pln.fix_inv f2 f3).1
    have f3' := f3
    simp only [Req.okB, decide_eq_true_eq] at f3'
    obtain ⟨a1, a2, a3, a4, a5, a6, a7, a8, a9, a10, a11, a12⟩ := f3'
    have hsl : q.src.toNat < (p.fixT q).length := by rw [hinv.len]; omega
    have hs2 : q.src < (p.fixT q).length := by omega
    have hd9 : decide (((p.fixT q).length : Int) ≤ q.src) = false := by simp; omega
    have hlo := hinv.lo _ (gi_mem hsl)
    have hhi := hinv.hi _ (gi_mem hsl)
    have h1 := fun w h => Slack_any Aq cq Ac cc p q w h
    have h2 := fun w h => Find_any Aq cq Ac cc p q w h
    have h3 := fun w h => Latest_any Aq cq Ac cc p q.dst q.dead q.size w h
    simp only [hlt1, hle1] at h3
    have F2 := Lib.hid f2
    have F3 := Lib.hid f3
    have HE := Lib.hid hE
    have Hlen := Lib.hid hinv.len
    clear hE hlt1 hle1 f1 f2 f3 hf a5
    by_cases hr : gi (p.fixT q) q.src < q.ready
    · have e18 : p.ofE q = 18 := by rw [HE.out, if_pos hr]
      have es : p.slackT q = 0 := by unfold Pln.slackT; rw [e18]; rfl
      simp only [e18, es] at h1
      have E18 := Lib.hid e18
      clear e18 es
      have hd : decide (q.ready ≤ gi (p.fixT q) q.src) = false := by simp; omega
      unfold Pln.val at hfi h1 h2 h3 ⊢
      unfold Req.val at hfi h1 h2 ⊢
      go_enter Try.func6, Try.ntmps6
      go_wp2_with fail
      clear hW
      refine hfi.mono ?_
      clear hfi
      rintro e w1 ⟨rfl, hb1⟩
      have hk1 := hk.ext hb1
      have hkr1 := hkr.ext hb1
      replace hc := hk1.cell
      replace hcr := hkr1.cell
      go_wp2_with fail
      refine (h1 _ (hrd.ext hb1)).mono ?_
      clear h1
      rintro e w2 ⟨rfl, hb2⟩
      have hk2 := hk1.ext hb2
      have hkr2 := hkr1.ext hb2
      replace hc := hk2.cell
      replace hcr := hkr2.cell
      go_wp2_with fail
      refine (h2 _ ((hrd.ext hb1).ext hb2)).mono ?_
      clear h2
      rintro e w3 ⟨l3, ⟨A3, c3, rfl, hR3, hb3, _⟩, hl3, hp3⟩
      rw [E18.out] at hp3 ⊢
      have hp3' : l3 = [] := hp3
      subst hp3'
      have hk3 := hk2.ext hb3
      have hkr3 := hkr2.ext hb3
      replace hc := hk3.cell
      replace hcr := hkr3.cell
      clear hp3
      go_wp2_with fail
      refine (h3 _ (((hrd.ext hb1).ext hb2).ext hb3)).mono ?_
      clear h3
      rintro e w4 ⟨A4, c4, rfl, hR4, hb4, _⟩
      have hkr4 := hkr3.ext hb4
      replace hcr := hkr4.cell
      have hl4 := hkr4.lt
      obtain ⟨b, o, rfl, hb, c0⟩ := hR4.int hsl
      have hg := Lib.hid (gi_of (m := p.fixT q) a1 hsl)
      rw [← hg.out] at c0
      have hN := Near.refl w4
      clear hc
      go_wp2
      have hq := quiet_near hN
      refine wp_region_quiet_below (by kernel_rfl) (by kernel_rfl) ?_
      repeat (first | go_big_quiet_skip | (go_big_quiet_want; go_big_quiet_op; first | go_big_quiet_on | (apply Exists.intro; refine ⟨fun _ => ?_, ?_⟩; (focus (first | fail)); go_big_quiet_on)))
      refine wpQuiet_nil ?_
      intro w1 hw1
      clear hq
      replace hw1 := quiet_ext hw1
      replace hN := hN.step hw1
      have hC := hN.2
      go_wp2_with fail
      refine (awake_any _).mono ?_
      rintro e w5 ⟨rfl, hb5⟩
      go_wp2
      go_ret
      exact ⟨rfl, ((hB.trans hb1).trans (hb2.trans hb3)).trans ((hb4.trans hN.1).trans hb5)⟩
    · have e0 : p.ofE q = 0 := by rw [HE.out, if_neg hr]
      have es : p.slackT q = gi (p.fixT q) q.src - q.ready := by unfold Pln.slackT; rw [if_pos e0]
      have hrr : q.ready ≤ gi (p.fixT q) q.src := by omega
      clear hr
      simp only [e0, es] at h1
      have E0 := Lib.hid e0
      clear e0 es
      have hd : decide (q.ready ≤ gi (p.fixT q) q.src) = true := by simp; omega
      unfold Pln.val at hfi h1 h2 h3 ⊢
      unfold Req.val at hfi h1 h2 ⊢
      go_enter Try.func6, Try.ntmps6
      go_wp2_with fail
      clear hW
      refine hfi.mono ?_
      clear hfi
      rintro e w1 ⟨rfl, hb1⟩
      have hk1 := hk.ext hb1
      have hkr1 := hkr.ext hb1
      replace hc := hk1.cell
      replace hcr := hkr1.cell
      go_wp2_with fail
      refine (h1 _ (hrd.ext hb1)).mono ?_
      clear h1
      rintro e w2 ⟨rfl, hb2⟩
      have hk2 := hk1.ext hb2
      have hkr2 := hkr1.ext hb2
      replace hc := hk2.cell
      replace hcr := hkr2.cell
      go_wp2_with fail
      refine (h2 _ ((hrd.ext hb1).ext hb2)).mono ?_
      clear h2
      rintro e w3 ⟨l3, ⟨A3, c3, rfl, hR3, hb3, _⟩, hl3, hp3⟩
      rw [E0.out] at hp3 ⊢
      have hp3' : LPath p.cons (p.fixT q) q.dst q.size q.src l3 := hp3
      have HP3 := Lib.hid hp3'
      have hk3 := hk2.ext hb3
      have hkr3 := hkr2.ext hb3
      replace hc := hk3.cell
      replace hcr := hkr3.cell
      clear hp3 hp3'
      go_wp2_with fail
      refine (h3 _ (((hrd.ext hb1).ext hb2).ext hb3)).mono ?_
      clear h3
      rintro e w4 ⟨A4, c4, rfl, hR4, hb4, _⟩
      have hk4 := hk3.ext hb4
      have hkr4 := hkr3.ext hb4
      replace hcr := hkr4.cell
      replace hc := hk4.cell
      have hl4 := hkr4.lt
      obtain ⟨b, o, rfl, hb, c0⟩ := hR4.int hsl
      have hg := Lib.hid (gi_of (m := p.fixT q) a1 hsl)
      rw [← hg.out] at c0
      have hN := Near.refl w4
      go_wp2
      have hq := quiet_near hN
      refine wp_region_quiet_below (by kernel_rfl) (by kernel_rfl) ?_
      repeat (first | go_big_quiet_skip | (go_big_quiet_want; go_big_quiet_op; first | go_big_quiet_on | (apply Exists.intro; refine ⟨fun _ => ?_, ?_⟩; (focus (first | fail)); go_big_quiet_on)))
      refine wpQuiet_nil ?_
      intro w1 hw1
      clear hq
      replace hw1 := quiet_ext hw1
      replace hN := hN.step hw1
      have hC := hN.2
      by_cases hrd2 : q.ready + by_ ≤ q.dead
      · have hok2 := Req.okAt (t := q.ready + by_) F3.out (by omega) hrd2
        have hE2 := ofE_fine F2.out hok2
        have h4 := fun w h => Find_any Aq cq Ac cc p (q.at (q.ready + by_)) w h
        have h5 := fun w h => Slack_any Aq cq Ac cc p (q.at (q.ready + by_)) w h
        have hfx : p.fixT (q.at (q.ready + by_)) = p.fixT q := rfl
        rw [hfx] at hE2
        have HE2 := Lib.hid hE2
        clear hE2 hfx
        unfold Pln.val at h4 h5
        unfold Req.val at h4 h5
        simp only [Req.at] at h4 h5
        have hkr5 := hkr4.ext hN.1
        have hk5 := hk4.ext hN.1
        have hcr5 := hkr5.cell
        have hc5 := hk5.cell
        have hl5 := hk5.lt
        clear c0
        go_wp2_with fail
        obtain ⟨W6, hW6, hB6, hk6, hl6⟩ := box1 w1 #[.int .i64 q.src, .int .i64 q.dst, .int .i64 q.size, .int .i64 (q.ready + by_), .int .i64 q.dead, .int .i64 q.prio, .bool q.cust] 34
        rw [hW6]
        clear hW6
        have hE6 := (((hB.trans hb1).trans (hb2.trans hb3)).trans (hb4.trans hN.1)).trans hB6
        have hrd6 := ((((hrd.ext hb1).ext (hb2.trans hb3)).ext (hb4.trans hN.1))).ext hB6
        have hc6 := hk6.cell
        have hk7 := hk5.ext hB6
        have hc7 := hk7.cell
        clear hc hcr hcr5 hc5
        refine (h4 _ hrd6).mono ?_
        clear h4
        rintro e w7 ⟨l7, ⟨A7, c7, rfl, hR7, hb7, _⟩, hl7, hp7⟩
        have Hp7 := Lib.hid hp7
        clear hp7
        have hk8 := hk7.ext hb7
        have hc8 := hk8.cell
        have hk9 := hk6.ext hb7
        have hc9 := hk9.cell
        clear hc6 hc7
        go_wp2_with fail
        refine (h5 _ (hrd6.ext hb7)).mono ?_
        clear h5
        rintro e w8 ⟨rfl, hb8⟩
        clear hc8 hc9
        by_cases hbig : gi (p.fixT q) q.src - q.ready < by_
        · have e18 : p.ofE (q.at (q.ready + by_)) = 18 := by
            rw [HE2.out]; exact if_pos (show gi (p.fixT q) q.src < q.ready + by_ by omega)
          change p.ofE { src := q.src, dst := q.dst, size := q.size, ready := q.ready + by_, dead := q.dead, prio := q.prio, cust := q.cust } = 18 at e18
          go_wp2_with fail
          refine (awake_any _).mono ?_
          rintro e w9 ⟨rfl, hb9⟩
          go_wp2
          go_ret
          exact ⟨rfl, hE6.trans (hb7.trans (hb8.trans hb9))⟩
        · have e00 : p.ofE (q.at (q.ready + by_)) = 0 := by
            rw [HE2.out]; exact if_neg (show ¬ gi (p.fixT q) q.src < q.ready + by_ by omega)
          have es0 : p.slackT (q.at (q.ready + by_)) = gi (p.fixT q) q.src - (q.ready + by_) := by unfold Pln.slackT; rw [if_pos e00]; rfl
          have heq : l7 = l3 := by
            have h9 := Hp7.out
            rw [if_pos (show p.ofE { src := q.src, dst := q.dst, size := q.size, ready := q.ready + by_, dead := q.dead, prio := q.prio, cust := q.cust } = 0 from e00)] at h9
            exact LPath.unique (show LPath p.cons (p.fixT q) q.dst q.size q.src l7 from h9) HP3.out
          subst heq
          change p.ofE { src := q.src, dst := q.dst, size := q.size, ready := q.ready + by_, dead := q.dead, prio := q.prio, cust := q.cust } = 0 at e00
          change p.slackT { src := q.src, dst := q.dst, size := q.size, ready := q.ready + by_, dead := q.dead, prio := q.prio, cust := q.cust } = _ at es0
          rw [es0]
          have hbq : (gi (p.fixT q) q.src - (q.ready + by_) == gi (p.fixT q) q.src - q.ready - by_) = true := by simp; omega
          clear es0
          have hsm : by_ ≤ gi (p.fixT q) q.src - q.ready := by omega
          clear hbig
          go_wp2_with fail
          refine (sameHops_ex A3 A7 c3 c7 _ w8 (((((hR3.ext hb4).ext hN.1).ext hB6).ext hb7).ext hb8) (hR7.ext hb8) hl7).mono ?_
          rintro e w9 ⟨rfl, hb9⟩
          go_wp2_with fail
          refine (awake_any _).mono ?_
          rintro e w10 ⟨rfl, hb10⟩
          go_wp2
          go_ret
          exact ⟨rfl, hE6.trans (hb7.trans (hb8.trans (hb9.trans hb10)))⟩
      · have hrd3 : q.dead < q.ready + by_ := by omega
        clear hrd2
        go_wp2_with fail
        refine (awake_any _).mono ?_
        rintro e w5 ⟨rfl, hb5⟩
        go_wp2
        go_ret
        exact ⟨rfl, (((hB.trans hb1).trans (hb2.trans hb3)).trans (hb4.trans hN.1)).trans (((Ext.refl _).alloc _).trans hb5)⟩

end Go.Proofs.Ytmpekjbhaekmpaa
