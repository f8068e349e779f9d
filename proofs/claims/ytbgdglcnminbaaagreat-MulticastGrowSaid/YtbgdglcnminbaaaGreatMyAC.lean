/- Layer 27 (booking), the reference: valid, Check. · Layer 27 (booking), the reference: Busy, Gaps, First. · Layer 35, the reference (multicast): hop. -/
import Derived.Test.YtbgdglcnminbaaaGreatMzAB
import Derived.Test.YtbgdglcnminbaaaGreatMcGqr
import Derived.BigQuiet
import Derived.Test.YtbgdglcnminbaaaGreatMyPl
import Derived.Deep.RegionLaw
import Derived.Deep.AppendLies
namespace Go.Proofs.YtbgdglcnminbaaaGreat
set_option linter.unusedVariables false
set_option linter.unusedSimpArgs false
open Go.RowKit Go.Shelf
attribute [local go_sem] Oper.semAt_some

set_option maxRecDepth 100000 in
set_option maxHeartbeats 4000000 in
theorem rbvalid_any (Aq : Option Addr) (cq : Nat) (Ac : Option Addr) (cc : Nat) (p : Pln) (b : Bk) (w : World) (h : PlnRd w Aq cq Ac cc p) :
    Calls Tryz.prog 81 #[p.val Aq cq Ac cc, b.val] w fun e w' => e = .returned (.bool (p.bkOk b)) ∧ Ext w w' := by
  obtain ⟨W, hW, hB, hk, hk2, hlt, hlt2⟩ := box2 w #[.slice Aq p.quo.length cq, .slice Ac p.cons.length cc] #[.int .i64 b.con, .int .i64 b.beg, .int .i64 b.en, .int .i64 b.tic] 25 112
  have hc := hk.cell
  have hc2 := hk2.cell
  have hcm := h.cm
  have HNO := Lib.hid (bkOk_no (p := p) (b := b))
  have HYES := Lib.hid (bkOk_yes (p := p) (b := b))
  unfold Pln.val Bk.val
  by_cases hg : 0 ≤ b.con ∧ b.con < p.cons.length ∧ 0 ≤ b.tic ∧ b.tic ≤ 1152921504606846976
  case' neg =>
    have HV := Lib.hid (HNO.out (fun hh => hg ⟨hh.1, hh.2.1, hh.2.2.1, hh.2.2.2.1⟩))
    have hw2 : b.con < 0 ∨ (0 ≤ b.con ∧ (p.cons.length : Int) ≤ b.con) ∨ (0 ≤ b.con ∧ b.con < p.cons.length ∧ b.tic < 0) ∨ (0 ≤ b.con ∧ b.con < p.cons.length ∧ 0 ≤ b.tic ∧ 1152921504606846976 < b.tic) := by omega
    clear hg
    rcases hw2 with hw | ⟨hw, hw2⟩ | ⟨hw, hw2, hw3⟩ | ⟨hw, hw2, hw3, hw4⟩
    all_goals
      go_enter Tryz.func81, Tryz.ntmps81
      go_wp2
      go_ret
      exact ⟨by rw [HV.out]; rfl, hB⟩
  obtain ⟨g1, g2, g3, g4⟩ := hg
  have hcl : b.con.toNat < p.cons.length := by omega
  obtain ⟨bc, oc, rfl, hbc, j0, j1, j2, j3, j4, j5, j6⟩ := ((h.c).ext hB).con hcl
  have Hgc := Lib.hid (gc_get hcl)
  generalize p.cons[b.con.toNat] = c at *
  obtain ⟨W3, hW3, hB3, hk3, hlt3⟩ := box1 W c.cells 67
  simp only [Con.cells] at hW3 hk3
  have hc4 := hk3.cell
  have hc5 := (hk2.ext hB3).cell
  have hc6 := (hk2.ext hB3).lt
  have hc7 := hk3.lt
  by_cases hg : c.st ≤ b.beg ∧ b.beg < b.en ∧ b.en ≤ c.en
  case' neg =>
    have HV := Lib.hid (HNO.out (fun hh => hg (by rw [← Hgc.out]; exact ⟨hh.2.2.2.2.1, hh.2.2.2.2.2.1, hh.2.2.2.2.2.2⟩)))
    have hw2 : b.beg < c.st ∨ (c.st ≤ b.beg ∧ b.en ≤ b.beg) ∨ (c.st ≤ b.beg ∧ b.beg < b.en ∧ c.en < b.en) := by omega
    clear hg
    rcases hw2 with hw | ⟨hw, hw2⟩ | ⟨hw, hw2, hw3⟩
    all_goals
      go_enter Tryz.func81, Tryz.ntmps81
      go_wp2
      go_ret
      exact ⟨by rw [HV.out]; first | rfl | exact ret_bool (decide_eq_false (by omega)) | exact ret_bool (decide_eq_true (by omega)), hB.trans hB3⟩
  obtain ⟨e1, e2, e3⟩ := hg
  have HV := Lib.hid (HYES.out (by rw [Hgc.out]; exact ⟨g1, g2, g3, g4, e1, e2, e3⟩))
  go_enter Tryz.func81, Tryz.ntmps81
  go_wp2
  go_ret
  exact ⟨by rw [HV.out]; first | rfl | exact ret_bool (decide_eq_false (by omega)) | exact ret_bool (decide_eq_true (by omega)), hB.trans hB3⟩

theorem bkCmp_lt {a b : Bk} (h : a.con < b.con) : ¬ 0 ≤ bkCmp a b := by
  unfold bkCmp orL cmpI; rw [if_pos h, if_neg (by omega)]; omega
theorem bkCmp_gt {a b : Bk} (h : b.con < a.con) : 0 ≤ bkCmp a b := by
  unfold bkCmp orL cmpI; rw [if_neg (by omega), if_pos h, if_neg (by omega)]; omega
theorem bkCmp_eqge {a b : Bk} (h : a.con = b.con) (h2 : b.beg ≤ a.beg) : 0 ≤ bkCmp a b := by
  unfold bkCmp orL orL orL cmpI
  rw [if_neg (show ¬ a.con < b.con by omega), if_neg (show ¬ b.con < a.con by omega), if_pos rfl, if_neg (show ¬ a.beg < b.beg by omega)]
  by_cases e : b.beg < a.beg
  · rw [if_pos e, if_neg (by omega)]; omega
  · rw [if_neg e, if_pos rfl]; omega
theorem bkCmp_eqlt {a b : Bk} (h : a.con = b.con) (h2 : a.beg < b.beg) : ¬ 0 ≤ bkCmp a b := by
  unfold bkCmp orL orL orL cmpI
  rw [if_neg (show ¬ a.con < b.con by omega), if_neg (show ¬ b.con < a.con by omega), if_pos rfl, if_pos h2, if_neg (by omega)]; omega

set_option maxRecDepth 100000 in
set_option maxHeartbeats 8000000 in
theorem rbCheck_any (Aq : Option Addr) (cq : Nat) (Ac : Option Addr) (cc : Nat) (p : Pln) (Al : Option Addr) (cl : Nat) (l : List Bk) (w : World) (h : PlnRd w Aq cq Ac cc p) (hl : Rd EBk w Al l) (hlm : l.length ≤ 1000000) :
    Calls Tryz.prog 57 #[p.val Aq cq Ac cc, .slice Al l.length cl] w fun e w' => e = .returned (.int .i64 (p.bkChk l)) ∧ Ext w w' := by
  obtain ⟨W, hW, hB, hk, hlt⟩ := box1 w #[.slice Aq p.quo.length cq, .slice Ac p.cons.length cc] 25
  have hc := hk.cell
  have hpc := rpcheck_any Aq cq Ac cc p W (h.ext hB)
  have hrd := h.ext hB
  have hl1 := hl.ext hB
  unfold Pln.val at hpc ⊢
  by_cases h0 : p.chk = 0
  case' neg =>
    have d0 : (p.chk != 0) = true := by simpa using h0
    have HV := Lib.hid (show p.bkChk l = 1 by unfold Pln.bkChk; rw [if_neg h0])
    clear h0
    go_enter Tryz.func57, Tryz.ntmps57
    go_wp2_with fail
    clear hW
    refine hpc.mono ?_
    rintro e w1 ⟨rfl, hb1⟩
    go_wp2
    go_ret
    exact ⟨by rw [HV.out]; rfl, hB.trans hb1⟩
  rw [h0] at hpc
  have H0 := Lib.hid h0
  clear h0
  by_cases h5 : 512 < l.length
  case' pos =>
    have d5 : decide ((512 : Int) < l.length) = true := decide_eq_true (by omega)
    have HV := Lib.hid (show p.bkChk l = 4 by unfold Pln.bkChk; rw [if_pos H0.out, if_pos h5])
    clear h5
    go_enter Tryz.func57, Tryz.ntmps57
    go_wp2_with fail
    clear hW
    refine hpc.mono ?_
    rintro e w1 ⟨rfl, hb1⟩
    go_wp2
    go_ret
    exact ⟨by rw [HV.out]; rfl, hB.trans hb1⟩
  have d5 : decide ((512 : Int) < l.length) = false := decide_eq_false (by omega)
  have HE := Lib.hid (show p.bkChk l = p.bkErr l l.length by unfold Pln.bkChk; rw [if_pos H0.out, if_neg h5])
  clear h5
  go_enter Tryz.func57, Tryz.ntmps57
  go_wp2_with fail
  clear hW
  refine hpc.mono ?_
  clear hpc
  rintro e w1 ⟨rfl, hb1⟩
  have hrd1 := hrd.ext hb1
  have hl2 := hl1.ext hb1
  have hk1 := hk.ext hb1
  have hE1 := hB.trans hb1
  have hvv := fun b w h => rbvalid_any Aq cq Ac cc p b w h
  unfold Pln.val Bk.val at hvv
  clear hc hrd hl1 hk
  go_wp2
  go_loopg [5] l.length (fun n k wr => ∃ j : Nat, j + n = l.length ∧ k = .int .i64 j ∧ Hid (p.bkErr l j = 0) ∧ Ext w1 wr)
  case atStart => exact ⟨0, by omega, rfl, Lib.hid rfl, Ext.refl _⟩
  case round =>
    obtain ⟨j, hjq, rfl, hme, hx⟩ := hrel
    have Hjq := Lib.hid hjq
    have hjN : j ≤ l.length := by omega
    clear hjq
    by_cases hlt2 : j < l.length
    · obtain ⟨bl, ol, rfl, hbl, g0, g1, g2, g3⟩ := (hl2.ext hx).bk hlt2
      have hgb := gbk_get hlt2
      have hcp := (hk1.ext hx).cell
      have hlp := (hk1.ext hx).lt
      have hN := Near.refl wr
      have hC := hN.2
      cases j with
      | zero =>
        simp only [Nat.zero_mul, Nat.add_zero] at g0 g1 g2 g3
        generalize hbe : l[0] = b at *
        have Hgb := Lib.hid hgb
        clear hgb hbe
        have hva := fun d os => hvv b (Sort.grow (redrawn wr d) os) (hrd1.ext (hx.trans (below_regrown wr d os)))
        go_wp2_with fail
        have hq := quiet_near hN
        refine wp_region_quiet_below (by kernel_rfl) (by kernel_rfl) ?_
        repeat (first | go_big_quiet_skip | (go_big_quiet_want; go_big_quiet_op; first | go_big_quiet_on | (apply Exists.intro; refine ⟨fun _ => ?_, ?_⟩; (focus (first | (go_at_call 81; with_reducible exact Calls.regrown_of (hva _ _)))); go_big_quiet_on)))
        refine wpQuiet_nil ?_
        intro w1 hw1
        clear hq
        replace hw1 := quiet_ext hw1
        replace hN := hN.step hw1
        have hC := hN.2
        clear hva
        cases hv : p.bkOk b
        · have HV := Lib.hid (show p.bkChk l = 2 by
            have e := bkAt_2 Hgb.out hv
            rw [HE.out, Pln.bkErr_step hme.out hlt2 (by rw [e]; decide), e])
          clear hv
          go_wp2
          go_ret
          exact ⟨by rw [HV.out]; rfl, (hE1.trans hx).trans hN.1⟩
        · have HN := Lib.hid (Pln.bkErr_next hme.out (bkAt_0 Hgb.out hv))
          clear hv
          go_wp2_with fail
          have hq := quiet_near hN
          refine wp_region_quiet_below (by kernel_rfl) (by kernel_rfl) ?_
          repeat (first | go_big_quiet_skip | (go_big_quiet_want; go_big_quiet_op; first | go_big_quiet_on | (apply Exists.intro; refine ⟨fun _ => ?_, ?_⟩; (focus (first | fail)); go_big_quiet_on)))
          refine wpQuiet_nil ?_
          intro w1 hw1
          clear hq
          replace hw1 := quiet_ext hw1
          replace hN := hN.step hw1
          have hC := hN.2
          go_wp2
          go_roundg (l.length - (0 + 1))
          case measure => have := Hjq.out; omega
          case rel => exact ⟨0 + 1, by have := Hjq.out; omega, by go_num, HN, hx.trans hN.1⟩
      | succ m =>
        obtain ⟨b', o', hA, hbl', f0, f1, f2, f3⟩ := (hl2.ext hx).bk (k := m) (by omega)
        injection hA with hA
        injection hA with hA hA2
        subst hA hA2
        have hwj : IntKind.i64.wrap (m : Int) = (m : Int) := IntWalk.i64_in _ (by omega)
        have hga := gbk_get (l := l) (i := m) (by omega)
        have hmi0 : m < l.length := by omega
        have hmi1 : (m : Int) < (l.length : Int) := by omega
        have hmi2 : (m : Int) ≤ (l.length : Int) := by omega
        have hmi3 : m ≤ l.length := by omega
        have dz : (((m : Int) + 1) == 0) = false := by rw [beq_eq_false_iff_ne]; omega
        generalize hbe : l[m + 1] = b at *
        generalize hae : l[m] = a at *
        have Hgb := Lib.hid hgb
        have Hga := Lib.hid hga
        clear hgb hbe hga hae
        have hva := fun d os => hvv b (Sort.grow (redrawn wr d) os) (hrd1.ext (hx.trans (below_regrown wr d os)))
        go_wp2_with fail
        have hq := quiet_near hN
        refine wp_region_quiet_below (by kernel_rfl) (by kernel_rfl) ?_
        repeat (first | go_big_quiet_skip | (go_big_quiet_want; go_big_quiet_op; first | go_big_quiet_on | (apply Exists.intro; refine ⟨fun _ => ?_, ?_⟩; (focus (first | (go_at_call 81; with_reducible exact Calls.regrown_of (hva _ _)))); go_big_quiet_on)))
        refine wpQuiet_nil ?_
        intro w1 hw1
        clear hq
        replace hw1 := quiet_ext hw1
        replace hN := hN.step hw1
        have hC := hN.2
        clear hva
        cases hv : p.bkOk b
        · have HV := Lib.hid (show p.bkChk l = 2 by
            have e := bkAt_2 Hgb.out hv
            rw [HE.out, Pln.bkErr_step hme.out hlt2 (by rw [e]; decide), e])
          clear hv
          go_wp2
          go_ret
          exact ⟨by rw [HV.out]; rfl, (hE1.trans hx).trans hN.1⟩
        · by_cases e1 : a.con < b.con
          · have d1 : decide (a.con < b.con) = true := decide_eq_true e1
            have HN := Lib.hid (Pln.bkErr_next hme.out (bkAt_ok Hgb.out Hga.out hv (bkCmp_lt e1) (by omega)))
            clear hv e1
            go_wp2_with fail
            have hq := quiet_near hN
            refine wp_region_quiet_below (by kernel_rfl) (by kernel_rfl) ?_
            repeat (first | go_big_quiet_skip | (go_big_quiet_want; go_big_quiet_op; first | go_big_quiet_on | (apply Exists.intro; refine ⟨fun _ => ?_, ?_⟩; (focus (first | fail)); go_big_quiet_on)))
            refine wpQuiet_nil ?_
            intro w1 hw1
            clear hq
            replace hw1 := quiet_ext hw1
            replace hN := hN.step hw1
            have hC := hN.2
            go_wp2
            go_roundg (gk - 1)
            case measure => have := Hjq.out; omega
            case rel => exact ⟨m + 1 + 1, by have := Hjq.out; omega, by go_num, HN, hx.trans hN.1⟩
          have d1 : decide (a.con < b.con) = false := decide_eq_false e1
          by_cases e2 : b.con < a.con
          · have d2 : decide (b.con < a.con) = true := decide_eq_true e2
            have HV := Lib.hid (show p.bkChk l = 9 by
              have e := bkAt_9 Hgb.out Hga.out hv (bkCmp_gt e2)
              rw [HE.out, Pln.bkErr_step hme.out hlt2 (by rw [e]; decide), e])
            clear hv e1 e2
            go_wp2_with fail
            have hq := quiet_near hN
            refine wp_region_quiet_below (by kernel_rfl) (by kernel_rfl) ?_
            repeat (first | go_big_quiet_skip | (go_big_quiet_want; go_big_quiet_op; first | go_big_quiet_on | (apply Exists.intro; refine ⟨fun _ => ?_, ?_⟩; (focus (first | fail)); go_big_quiet_on)))
            refine wpQuiet_nil ?_
            intro w1 hw1
            clear hq
            replace hw1 := quiet_ext hw1
            replace hN := hN.step hw1
            have hC := hN.2
            go_wp2_with fail
            have hq := quiet_near hN
            refine wp_region_quiet_below (by kernel_rfl) (by kernel_rfl) ?_
            repeat (first | go_big_quiet_skip | (go_big_quiet_want; go_big_quiet_op; first | go_big_quiet_on | (apply Exists.intro; refine ⟨fun _ => ?_, ?_⟩; (focus (first | fail)); go_big_quiet_on)))
            refine wpQuiet_nil ?_
            intro w1 hw1
            clear hq
            replace hw1 := quiet_ext hw1
            replace hN := hN.step hw1
            have hC := hN.2
            go_wp2
            go_ret
            exact ⟨by rw [HV.out]; rfl, (hE1.trans hx).trans hN.1⟩
          have d2 : decide (b.con < a.con) = false := decide_eq_false e2
          have e3 : a.con = b.con := by omega
          by_cases e4 : b.beg ≤ a.beg
          · have d4 : decide (b.beg ≤ a.beg) = true := decide_eq_true e4
            have HV := Lib.hid (show p.bkChk l = 9 by
              have e := bkAt_9 Hgb.out Hga.out hv (bkCmp_eqge e3 e4)
              rw [HE.out, Pln.bkErr_step hme.out hlt2 (by rw [e]; decide), e])
            clear hv e1 e2 e3 e4
            go_wp2_with fail
            have hq := quiet_near hN
            refine wp_region_quiet_below (by kernel_rfl) (by kernel_rfl) ?_
            repeat (first | go_big_quiet_skip | (go_big_quiet_want; go_big_quiet_op; first | go_big_quiet_on | (apply Exists.intro; refine ⟨fun _ => ?_, ?_⟩; (focus (first | fail)); go_big_quiet_on)))
            refine wpQuiet_nil ?_
            intro w1 hw1
            clear hq
            replace hw1 := quiet_ext hw1
            replace hN := hN.step hw1
            have hC := hN.2
            go_wp2_with fail
            have hq := quiet_near hN
            refine wp_region_quiet_below (by kernel_rfl) (by kernel_rfl) ?_
            repeat (first | go_big_quiet_skip | (go_big_quiet_want; go_big_quiet_op; first | go_big_quiet_on | (apply Exists.intro; refine ⟨fun _ => ?_, ?_⟩; (focus (first | fail)); go_big_quiet_on)))
            refine wpQuiet_nil ?_
            intro w1 hw1
            clear hq
            replace hw1 := quiet_ext hw1
            replace hN := hN.step hw1
            have hC := hN.2
            go_wp2
            go_ret
            exact ⟨by rw [HV.out]; rfl, (hE1.trans hx).trans hN.1⟩
          have d4 : decide (b.beg ≤ a.beg) = false := decide_eq_false e4
          by_cases e5 : b.beg < a.en
          · have d5 : decide (b.beg < a.en) = true := decide_eq_true e5
            have HV := Lib.hid (show p.bkChk l = 14 by
              have e := bkAt_14 Hgb.out Hga.out hv (bkCmp_eqlt e3 (by omega)) e3 e5
              rw [HE.out, Pln.bkErr_step hme.out hlt2 (by rw [e]; decide), e])
            clear hv e1 e2 e3 e4 e5
            go_wp2_with fail
            have hq := quiet_near hN
            refine wp_region_quiet_below (by kernel_rfl) (by kernel_rfl) ?_
            repeat (first | go_big_quiet_skip | (go_big_quiet_want; go_big_quiet_op; first | go_big_quiet_on | (apply Exists.intro; refine ⟨fun _ => ?_, ?_⟩; (focus (first | fail)); go_big_quiet_on)))
            refine wpQuiet_nil ?_
            intro w1 hw1
            clear hq
            replace hw1 := quiet_ext hw1
            replace hN := hN.step hw1
            have hC := hN.2
            go_wp2_with fail
            have hq := quiet_near hN
            refine wp_region_quiet_below (by kernel_rfl) (by kernel_rfl) ?_
            repeat (first | go_big_quiet_skip | (go_big_quiet_want; go_big_quiet_op; first | go_big_quiet_on | (apply Exists.intro; refine ⟨fun _ => ?_, ?_⟩; (focus (first | fail)); go_big_quiet_on)))
            refine wpQuiet_nil ?_
            intro w1 hw1
            clear hq
            replace hw1 := quiet_ext hw1
            replace hN := hN.step hw1
            have hC := hN.2
            go_wp2_with fail
            have hq := quiet_near hN
            refine wp_region_quiet_below (by kernel_rfl) (by kernel_rfl) ?_
            repeat (first | go_big_quiet_skip | (go_big_quiet_want; go_big_quiet_op; first | go_big_quiet_on | (apply Exists.intro; refine ⟨fun _ => ?_, ?_⟩; (focus (first | fail)); go_big_quiet_on)))
            refine wpQuiet_nil ?_
            intro w1 hw1
            clear hq
            replace hw1 := quiet_ext hw1
            replace hN := hN.step hw1
            have hC := hN.2
            go_wp2
            go_ret
            exact ⟨by rw [HV.out]; rfl, (hE1.trans hx).trans hN.1⟩
          · have d5 : decide (b.beg < a.en) = false := decide_eq_false e5
            have HN := Lib.hid (Pln.bkErr_next hme.out (bkAt_ok Hgb.out Hga.out hv (bkCmp_eqlt e3 (by omega)) (fun hh => e5 hh.2)))
            clear hv e1 e2 e3 e4 e5
            go_wp2_with fail
            have hq := quiet_near hN
            refine wp_region_quiet_below (by kernel_rfl) (by kernel_rfl) ?_
            repeat (first | go_big_quiet_skip | (go_big_quiet_want; go_big_quiet_op; first | go_big_quiet_on | (apply Exists.intro; refine ⟨fun _ => ?_, ?_⟩; (focus (first | fail)); go_big_quiet_on)))
            refine wpQuiet_nil ?_
            intro w1 hw1
            clear hq
            replace hw1 := quiet_ext hw1
            replace hN := hN.step hw1
            have hC := hN.2
            go_wp2_with fail
            have hq := quiet_near hN
            refine wp_region_quiet_below (by kernel_rfl) (by kernel_rfl) ?_
            repeat (first | go_big_quiet_skip | (go_big_quiet_want; go_big_quiet_op; first | go_big_quiet_on | (apply Exists.intro; refine ⟨fun _ => ?_, ?_⟩; (focus (first | fail)); go_big_quiet_on)))
            refine wpQuiet_nil ?_
            intro w1 hw1
            clear hq
            replace hw1 := quiet_ext hw1
            replace hN := hN.step hw1
            have hC := hN.2
            go_wp2_with fail
            have hq := quiet_near hN
            refine wp_region_quiet_below (by kernel_rfl) (by kernel_rfl) ?_
            repeat (first | go_big_quiet_skip | (go_big_quiet_want; go_big_quiet_op; first | go_big_quiet_on | (apply Exists.intro; refine ⟨fun _ => ?_, ?_⟩; (focus (first | fail)); go_big_quiet_on)))
            refine wpQuiet_nil ?_
            intro w1 hw1
            clear hq
            replace hw1 := quiet_ext hw1
            replace hN := hN.step hw1
            have hC := hN.2
            go_wp2
            go_roundg (gk - 1)
            case measure => have := Hjq.out; omega
            case rel => exact ⟨m + 1 + 1, by have := Hjq.out; omega, by go_num, HN, hx.trans hN.1⟩
    · have hje : j = l.length := by omega
      have HV := Lib.hid (show p.bkChk l = 0 by rw [HE.out, ← hje]; exact hme.out)
      go_wp2
      go_ret
      exact ⟨by rw [HV.out]; rfl, hE1.trans hx⟩

end Go.Proofs.YtbgdglcnminbaaaGreat

namespace Go.Proofs.YtbgdglcnminbaaaGreat
set_option linter.unusedVariables false
set_option linter.unusedSimpArgs false
open Go.RowKit Go.Shelf
attribute [local go_sem] Oper.semAt_some

set_option maxRecDepth 100000 in
set_option maxHeartbeats 4000000 in
theorem rBusy_any (Al : Option Addr) (cl : Nat) (l : List Bk) (i : Int) (w : World) (hl : Rd EBk w Al l) (hlm : l.length ≤ 1000000) :
    Calls Tryz.prog 99 #[.slice Al l.length cl, .int .i64 i] w fun e w' => ∃ u, e = .returned u ∧ Owns ESpn w' w.heap.size 145 u (busyL l i) ∧ Ext w w' := by
  obtain ⟨i0, hi0, hz0, hz1, hz2⟩ := info_parts info_spn
  go_enter Tryz.func99, Tryz.ntmps99
  go_wp2
  go_loopg [5, 6] l.length (fun n u k wr => ∃ j : Nat, j + n = l.length ∧ k = .int .i64 j ∧ Owns ESpn wr w.heap.size 145 u (busyL (l.take j) i) ∧ Ext w wr)
  case atStart => exact ⟨0, by omega, rfl, Owns.none_ _ _, Ext.refl _⟩
  case round =>
    obtain ⟨j, hjn, rfl, hu, hx⟩ := hrel
    have Hjn := Lib.hid hjn
    have hjN : j ≤ l.length := by omega
    clear hjn
    by_cases hlt : j < l.length
    · obtain ⟨bl, ol, rfl, hbl, g0, g1, g2, g3⟩ := (hl.ext hx).bk hlt
      have hsn := Lib.hid (take_snoc hlt rfl)
      have hbs := busyL_snoc (l.take j) i l[j]
      have hlen := busyL_len (l.take j) i
      have htk : (l.take j).length ≤ j := List.length_take_le _ _
      generalize l[j] = b at *
      rw [← hsn.out] at hbs
      have Hbs := Lib.hid hbs
      clear hbs
      have hsz := hx.size
      by_cases hi : b.con = i
      · have hd : (b.con == i) = true := by simpa using hi
        have Hi := Lib.hid hi
        clear hi
        obtain ⟨Au, cu, rfl, hRu⟩ := hu.form
        go_wp2
        go_region_law (refine step_push rfl (.tmp 20) (.tmp 32) _ (by rfl) w.heap.size 145 i0 _ 16 Tryz.underlying126 hi0 hz0 hz1 hz2 (by rfl) (.slice Au (busyL (l.take j) i).length cu) (by rfl) (hu.ext ((Ext.refl _).drew.alloc _)) wr.heap.size ⟨b.beg, b.en⟩ (by rfl) (Blk.new wr.drew _ _) (by simp only [maxLen]; omega) (by omega) (by simp; omega) ?_; intro v6 w6 hv6 hg6 hat6; have hx6 := ext_grown (hx.drew.alloc _) (hu.ext ((Ext.refl _).drew.alloc _)) (Nat.le_refl _) hg6)
        all_goals
          go_wp2
          go_roundg (l.length - (j + 1))
          case measure => have := Hjn.out; omega
          case rel => exact ⟨j + 1, by have := Hjn.out; omega, by go_num, by rw [Hbs.out, if_pos Hi.out]; exact hv6, hx6⟩
      · have hd : (b.con == i) = false := by simpa using hi
        have Hi := Lib.hid hi
        clear hi
        go_wp2
        go_roundg (l.length - (j + 1))
        case measure => have := Hjn.out; omega
        case rel => exact ⟨j + 1, by have := Hjn.out; omega, by go_num, by rw [Hbs.out, if_neg Hi.out]; exact hu, hx⟩
    · obtain rfl : j = l.length := by omega
      go_wp2
      go_ret
      rw [List.take_length] at hu
      exact ⟨_, rfl, hu, hx⟩

set_option maxRecDepth 100000 in
set_option maxHeartbeats 4000000 in
theorem rGaps_any (Aq : Option Addr) (cq : Nat) (Ac : Option Addr) (cc : Nat) (p : Pln) (Al : Option Addr) (cl : Nat) (l : List Bk) (i : Nat) (w : World) (h : PlnRd w Aq cq Ac cc p) (hl : Rd EBk w Al l) (hlm : l.length ≤ 1000) (hi : i < p.cons.length) :
    Calls Tryz.prog 86 #[p.val Aq cq Ac cc, .slice Al l.length cl, .int .i64 (i : Int)] w fun e w' => ∃ u, e = .returned u ∧ Owns ESpn w' w.heap.size 145 u (gapsL (gc p.cons (i : Int)) l i) ∧ Ext w w' := by
  obtain ⟨i0, hi0, hz0, hz1, hz2⟩ := info_parts info_spn
  obtain ⟨W, hW, hB, hk, hlt⟩ := box1 w #[.slice Aq p.quo.length cq, .slice Ac p.cons.length cc] 25
  have hc := hk.cell
  have hcm := h.cm
  obtain ⟨bc, oc, rfl, hbc, j0, j1, j2, j3, j4, j5, j6⟩ := ((h.c).ext hB).con hi
  have hgc : gc p.cons (i : Int) = p.cons[i] := gc_get (i := (i : Int)) (by omega)
  rw [hgc]
  clear hgc
  generalize p.cons[i] = c at *
  have hbu := rBusy_any Al cl l (i : Int) W (hl.ext hB) (by omega)
  have hi2 : (i : Int) < (p.cons.length : Int) := by omega
  unfold Pln.val
  go_enter Tryz.func86, Tryz.ntmps86
  go_wp2_with fail
  clear hW
  refine hbu.mono ?_
  clear hbu
  rintro e w1 ⟨ub, rfl, hub, hb1⟩
  have hbl := busyL_len l (i : Int)
  have HG := Lib.hid (show gapsW c l (i : Int) = (busyL l (i : Int)).foldl gapStep (c.st, []) from rfl)
  have HL := Lib.hid (show gapsL c l (i : Int) = addS (gapsW c l (i : Int)).1 c.en (gapsW c l (i : Int)).2 from rfl)
  obtain ⟨bs, hbs⟩ : ∃ bs, busyL l (i : Int) = bs := ⟨_, rfl⟩
  rw [hbs] at hub hbl HG
  clear hbs
  obtain ⟨Ab, cb, rfl, hRb⟩ := hub.form
  have hwB := hB.size
  go_wp2_with fail
  go_loopg [7, 8, 10] bs.length (fun n u a k wr => ∃ (j : Nat) (s : Int × List Spn), j + n = bs.length ∧ k = .int .i64 j ∧ Hid ((bs.take j).foldl gapStep (c.st, []) = s) ∧ a = .int .i64 s.1 ∧ s.2.length ≤ j ∧ Owns ESpn wr w1.heap.size 145 u s.2 ∧ Ext w1 wr)
  case atStart => exact ⟨0, (c.st, []), by omega, rfl, Lib.hid rfl, rfl, Nat.le_refl _, Owns.none_ _ _, Ext.refl _⟩
  case round =>
    obtain ⟨j, s, hjn, rfl, hs, rfl, hsl, hu, hx⟩ := hrel
    have Hjn := Lib.hid hjn
    have hjN : j ≤ bs.length := by omega
    clear hjn
    obtain ⟨at_, out⟩ := s
    dsimp only at hu hsl ⊢
    obtain ⟨Au, cu, rfl, hRu⟩ := hu.form
    have hwx : Ext w wr := (hB.trans hb1).trans hx
    have hsz := hx.size
    by_cases hlt2 : j < bs.length
    · obtain ⟨bl, ol, rfl, hbl0, b0, b1⟩ := hRb.spn hlt2
      have g0 := hx.cell_some b0
      have g1 := hx.cell_some b1
      have hbl2 := Nat.lt_of_lt_of_le hbl0 hx.size
      have hsn : (bs.take (j + 1)).foldl gapStep (c.st, []) = (bs[j].til, addS at_ bs[j].fr out) := by
        rw [List.take_succ_eq_append_getElem hlt2, List.foldl_append, hs.out]; rfl
      have Hsn := Lib.hid hsn
      clear hsn
      generalize bs[j] = x at *
      by_cases ha : at_ < x.fr
      · have hd : decide (at_ < x.fr) = true := decide_eq_true ha
        have Ha := Lib.hid (show addS at_ x.fr out = out ++ [⟨at_, x.fr⟩] from if_pos ha)
        clear ha
        go_wp2_with (at_builtin; refine wpList_push rfl (.tmp 33) (.tmp 41) _ (by rfl) w1.heap.size 145 i0 _ 16 Tryz.underlying126 hi0 hz0 hz1 hz2 (by rfl) (.slice Au out.length cu) (by rfl) (hu.ext ((Ext.refl _).alloc _)) wr.heap.size (⟨at_, x.fr⟩ : Spn) (by rfl) (Blk.new wr _ _) (by simp only [maxLen]; omega) (by omega) (by simp; omega) ?_; intro v6 w6 hv6 hg6 hat6; have hx6 := ext_grown (hx.alloc _) (hu.ext ((Ext.refl _).alloc _)) (Nat.le_refl _) hg6; have g09 := hx6.cell_some b0; have g19 := hx6.cell_some b1; have hbl9 := Nat.lt_of_lt_of_le hbl0 hx6.size)
        go_roundg (gk - 1)
        case measure => have := Hjn.out; omega
        case rel => exact ⟨j + 1, (x.til, out ++ [⟨at_, x.fr⟩]), by have := Hjn.out; omega, by go_num, Lib.hid (by rw [Hsn.out, Ha.out]), rfl, by dsimp only; rw [List.length_append, List.length_singleton]; omega, hv6, hx6⟩
      · have hd : decide (at_ < x.fr) = false := decide_eq_false ha
        have Ha := Lib.hid (show addS at_ x.fr out = out from if_neg ha)
        clear ha
        go_wp2
        go_roundg (gk - 1)
        case measure => have := Hjn.out; omega
        case rel => exact ⟨j + 1, (x.til, out), by have := Hjn.out; omega, by go_num, Lib.hid (by rw [Hsn.out, Ha.out]), rfl, by dsimp only; omega, hu, hx⟩
    · have hje : j = bs.length := by omega
      have hs2 := hs.out
      rw [hje, List.take_length] at hs2
      have HL2 := Lib.hid (show gapsL c l (i : Int) = addS at_ c.en out by rw [HL.out, HG.out, hs2])
      clear hs2
      have u1 := (hk.ext (hb1.trans hx)).cell
      have u2 := (hk.ext (hb1.trans hx)).lt
      have hx2 := hb1.trans hx
      have hbl3 := Nat.lt_of_lt_of_le hbc hx2.size
      have y3 := hx2.cell_some j3
      by_cases ha : at_ < c.en
      · have hd : decide (at_ < c.en) = true := decide_eq_true ha
        have Ha := Lib.hid (show addS at_ c.en out = out ++ [⟨at_, c.en⟩] from if_pos ha)
        clear ha
        go_wp2_with (at_builtin; refine wpList_push rfl (.tmp 56) (.tmp 65) _ (by rfl) w1.heap.size 145 i0 _ 16 Tryz.underlying126 hi0 hz0 hz1 hz2 (by rfl) (.slice Au out.length cu) (by rfl) (hu.ext ((Ext.refl _).alloc _)) wr.heap.size (⟨at_, c.en⟩ : Spn) (by rfl) (Blk.new wr _ _) (by simp only [maxLen]; omega) (by omega) (by simp; omega) ?_; intro v6 w6 hv6 hg6 hat6; have hx6 := ext_grown (hx.alloc _) (hu.ext ((Ext.refl _).alloc _)) (Nat.le_refl _) hg6)
        go_ret
        exact ⟨_, rfl, by rw [HL2.out, Ha.out]; exact hv6.mono (hB.trans hb1).size, (hB.trans hb1).trans hx6⟩
      · have hd : decide (at_ < c.en) = false := decide_eq_false ha
        have Ha := Lib.hid (show addS at_ c.en out = out from if_neg ha)
        clear ha
        go_wp2
        go_ret
        exact ⟨_, rfl, by rw [HL2.out, Ha.out]; exact hu.mono (hB.trans hb1).size, hwx⟩

set_option maxRecDepth 100000 in
set_option maxHeartbeats 4000000 in
theorem rFirst_any (A : Option Addr) (cA : Nat) (l : List Spn) (t n : Int) (w : World) (hl : Rd ESpn w A l) (hlm : l.length ≤ 1000000) (hn : 1 ≤ n ∧ n ≤ 1099511627776) (ht : 0 ≤ t ∧ t ≤ 2199023255552) (hv : ∀ x ∈ l, 0 ≤ x.fr ∧ x.fr < x.til ∧ x.til ≤ 1099511627776) :
    Calls Tryz.prog 85 #[.slice A l.length cA, .int .i64 t, .int .i64 n] w fun e w' => e = .returned (.int .i64 (firstT t n l)) ∧ w = w' := by
  go_enter Tryz.func85, Tryz.ntmps85
  go_wp2
  go_loop [7] (fun i => ∃ k : Nat, k ≤ l.length ∧ i = .int .i64 k ∧ Hid (firstL t n l = firstL t n (l.drop k))) (fun i => l.length - (intOf i).toNat)
  case atStart => exact ⟨0, Nat.zero_le _, rfl, Lib.hid rfl⟩
  case round =>
    obtain ⟨k, hk, rfl, hx⟩ := hrel
    by_cases hlt : k < l.length
    · obtain ⟨b1, o1, rfl, _, c0, c1⟩ := hl.spn hlt
      have hb := hv _ (List.getElem_mem hlt)
      have Hsk := Lib.hid (firstL_skip (t := t) (n := n) hlt)
      have Hhe := Lib.hid (firstL_here (t := t) (n := n) hlt)
      generalize l[k] = x at *
      by_cases ht2 : x.fr < t
      · have d1 : decide (x.fr < t) = true := decide_eq_true ht2
        have hw0 : IntKind.i64.wrap (t + n) = t + n := IntWalk.i64_in _ (by omega)
        have hm : max x.fr t = t := by omega
        by_cases hf : t + n ≤ x.til
        · have d2 : decide (t + n ≤ x.til) = true := decide_eq_true hf
          have d3 : decide (t < x.til) = true := decide_eq_true (by omega)
          have HV := Lib.hid (show firstT t n l = t by unfold firstT; rw [hx.out, Hhe.out (decide_eq_true (by omega))]; exact hm)
          clear hf ht2
          go_wp2_with fail
          have hN := Near.refl w
          have hC := hN.2
          go_wp2
          go_ret
          exact ⟨by rw [HV.out]; rfl, rfl⟩
        · have d2 : decide (t + n ≤ x.til) = false := decide_eq_false hf
          have HN := Lib.hid (hx.out.trans (Hsk.out (decide_eq_false (by omega))))
          clear hf ht2
          go_wp2
          go_round
          case measure => (unfold intOf; dsimp only; omega)
          case rel => exact ⟨k + 1, by omega, by go_num, HN⟩
      · have d1 : decide (x.fr < t) = false := decide_eq_false ht2
        have hw0 : IntKind.i64.wrap (x.fr + n) = x.fr + n := IntWalk.i64_in _ (by omega)
        have hm : max x.fr t = x.fr := by omega
        by_cases hf : x.fr + n ≤ x.til
        · have d2 : decide (x.fr + n ≤ x.til) = true := decide_eq_true hf
          have d3 : decide (x.fr < x.til) = true := decide_eq_true (by omega)
          have HV := Lib.hid (show firstT t n l = x.fr by unfold firstT; rw [hx.out, Hhe.out (decide_eq_true (by omega))]; exact hm)
          clear hf ht2
          go_wp2
          go_ret
          exact ⟨by rw [HV.out]; rfl, rfl⟩
        · have d2 : decide (x.fr + n ≤ x.til) = false := decide_eq_false hf
          have HN := Lib.hid (hx.out.trans (Hsk.out (decide_eq_false (by omega))))
          clear hf ht2
          go_wp2
          go_round
          case measure => (unfold intOf; dsimp only; omega)
          case rel => exact ⟨k + 1, by omega, by go_num, HN⟩
    · have hke : k = l.length := by omega
      have HV := Lib.hid (show firstT t n l = -1 by unfold firstT; rw [hx.out, hke, List.drop_length]; rfl)
      clear hke
      go_wp2
      go_ret
      exact ⟨by rw [HV.out]; rfl, rfl⟩

end Go.Proofs.YtbgdglcnminbaaaGreat

namespace Go.Proofs.YtbgdglcnminbaaaGreat
set_option linter.unusedVariables false
set_option linter.unusedSimpArgs false
open Go.RowKit Go.Shelf
attribute [local go_sem] Oper.semAt_some

theorem firstL_bd {t n : Int} : ∀ {l : List Spn} {b : Int}, firstL t n l = some b → ∃ x ∈ l, b = max x.fr t ∧ b + n ≤ x.til
  | [], b, h => by cases h
  | x :: l, b, h => by
    unfold firstL at h
    split at h
    · rename_i h1
      injection h with h
      have := of_decide_eq_true h1
      exact ⟨x, List.mem_cons_self .., h.symm, by omega⟩
    · obtain ⟨y, hy, hh⟩ := firstL_bd h
      exact ⟨y, List.mem_cons_of_mem _ hy, hh⟩
def hopO : Option Hp → Hp
  | none => ⟨0, 0, 0, 0⟩
  | some h => h
set_option maxRecDepth 100000 in
set_option maxHeartbeats 8000000 in
theorem rhop35_any (Aq : Option Addr) (cq : Nat) (Ac : Option Addr) (cc : Nat) (p : Pln) (Al : Option Addr) (cl : Nat) (l : List Bk) (Ah : Option Addr) (nh ch : Nat) (q : Req) (i : Nat) (t : Int) (w : World) (h : PlnRd w Aq cq Ac cc p) (hl : Rd EBk w Al l) (h0 : p.bkChk l = 0) (hf : fineR p q = true) (hi : i < p.cons.length) (ht : 0 ≤ t ∧ t ≤ 1099511627776) :
    Calls Tryz.prog 59 #[.agg #[.slice Aq p.quo.length cq, .slice Ac p.cons.length cc, .slice Al l.length cl, .slice Ah nh ch], q.val, .int .i64 i, .int .i64 t] w fun e w' => e = .returned (.tuple #[(hopO (p.mhop l q i t)).val, .bool (p.mhop l q i t).isSome]) ∧ Ext w w' := by
  obtain ⟨W1, hW1, hB1, hk1, hkq, hl1, hlq⟩ := box2 w #[.slice Aq p.quo.length cq, .slice Ac p.cons.length cc, .slice Al l.length cl, .slice Ah nh ch] q.cells 29 31
  simp only [Req.cells] at hW1 hkq
  obtain ⟨W2, hW2, hB2, hk2, hl2⟩ := box1 W1 #[.int .i64 0, .int .i64 0, .int .i64 0, .int .i64 0] 51
  have hf2 := fineR_of hf
  have hqo := hf2.2
  simp only [Req.okB, decide_eq_true_eq] at hqo
  have hn : 1 ≤ q.size ∧ q.size ≤ 65536 := by omega
  have hE2 := hB1.trans hB2
  have hok := Pln.ok_of hf2.1
  have hgc : gc p.cons (i : Int) = p.cons[i] := gc_get (i := (i : Int)) (by omega)
  have hcok := (hok.con _ (List.getElem_mem hi)).1
  have hcm := h.cm
  obtain ⟨bc, oc, rfl, hbc, z0, z1, z2, z3, z4, z5, z6⟩ := (h.c.ext hE2).con hi
  have HM := Lib.hid (mhop_first h0 hn hi t)
  have hll := (Pln.bkChk_ok h0).2.1
  have hga := fun w h hl => rGaps_any Aq cq (some ⟨bc, oc, none⟩) cc p Al cl l i w h hl (by omega) hi
  have hgi := gapsL_in h0 hi
  have hgl := gapsL_len (c := gc p.cons (i : Int)) (bk := l) (i := (i : Int))
  have hrd := h.ext hE2
  have hl3 := hl.ext hE2
  obtain ⟨c, hc⟩ : ∃ c, gc p.cons (i : Int) = c := ⟨_, rfl⟩
  have hpc : p.cons[i] = c := hgc.symm.trans hc
  rw [hc] at HM hga hgi hgl
  rw [hpc] at hcok z0 z1 z2 z3 z4 z5 z6
  clear hpc hgc hc
  obtain ⟨W3, hW3, hB3, hk3, hlt3⟩ := box1 W2 #[.int .i64 c.src, .int .i64 c.dst, .int .i64 c.st, .int .i64 c.en, .int .i64 c.rate, .int .i64 c.rng, .int .i64 c.loss] 67
  have r0 := (hk1.ext hB2).cell
  have r2 := (hk1.ext hB2).lt
  have s0 := ((hk1.ext hB2).ext hB3).cell
  have s1 := ((hkq.ext hB2).ext hB3).cell
  have s2 := ((hk1.ext hB2).ext hB3).lt
  have s3 := ((hkq.ext hB2).ext hB3).lt
  have s4 := hk3.cell
  have hLn := fun w => rdur_any c q.size w hcok hn
  have hdb := Con.dur_bd hcok hn.1 hn.2
  obtain ⟨gs, hgs⟩ : ∃ gs, gapsL c l (i : Int) = gs := ⟨_, rfl⟩
  rw [hgs] at HM hgi hgl
  have Hgs := Lib.hid hgs
  clear hgs
  have hrg0 := hcok.rng0
  have hrg1 := hcok.rng1
  obtain ⟨n, hnE⟩ : ∃ n, c.dur q.size = n := ⟨_, rfl⟩
  rw [hnE] at HM hdb hLn
  have Hn := Lib.hid hnE
  clear hnE
  have hfi := fun A cA w h => rFirst_any A cA gs t n w h (by omega) ⟨by omega, by omega⟩ ⟨by omega, by omega⟩ hgi
  unfold Pln.val at hga
  unfold Con.val at hLn
  unfold Req.val
  cases hF : firstL t n gs with
  | none =>
    have hft : firstT t n gs = -1 := by unfold firstT; rw [hF]
    have HV := Lib.hid (show p.mhop l q i t = none by rw [HM.out, hF])
    rw [hft] at hfi
    clear hF hft
    go_enter Tryz.func59, Tryz.ntmps59
    go_wp2_with fail
    clear hW1 hW2 hW3 r0 r2 z0 z1 z2 z3 z4 z5 z6
    refine (hLn _).mono ?_
    clear hLn
    rintro e w4 ⟨rfl, hb4⟩
    have hx4 := hB3.trans hb4
    replace s0 := ((hk1.ext hB2).ext hx4).cell
    replace s1 := ((hkq.ext hB2).ext hx4).cell
    replace s2 := ((hk1.ext hB2).ext hx4).lt
    replace s3 := ((hkq.ext hB2).ext hx4).lt
    replace s4 := (hk3.ext hb4).cell
    go_wp2_with fail
    refine (hga w4 (hrd.ext hx4) (hl3.ext hx4)).mono ?_
    clear hga
    rintro e w5 ⟨u, rfl, hu, hb5⟩
    rw [Hgs.out] at hu
    obtain ⟨Au, cu, rfl, hRu⟩ := hu.form
    have hf5 := hfi Au cu w5 hRu
    go_wp2_with fail
    refine hf5.mono ?_
    rintro e w6 ⟨rfl, rfl⟩
    have hx5 := hx4.trans hb5
    have hk5 := hk2.ext hx5
    have s5 := ((hk3.ext hb4).ext hb5).cell
    have s6 := ((hkq.ext hB2).ext hx5).cell
    have hc5 := hk5.cell
    have hf5 := hk5.frozen
    have hl5 := hk5.lt
    go_wp2
    obtain ⟨w7, hw7, hz7, hE7⟩ : ∃ w7, w5.setCells W1.heap.size 0 [.int .i64 0, .int .i64 0, .int .i64 0, .int .i64 0] = w7 ∧ Blk w7 W1.heap.size 51 #[.int .i64 0, .int .i64 0, .int .i64 0, .int .i64 0] ∧ Ext w w7 :=
      ⟨_, rfl, hk5.setCells_ [.int .i64 0, .int .i64 0, .int .i64 0, .int .i64 0] 0, ext_setCells (hE2.trans hx5) (by have := hB1.size; omega) 0 _⟩
    simp only [World.setCells, Nat.zero_add, Nat.reduceAdd] at hw7
    rw [hw7]
    have hc7 := hz7.cell
    refine bodyPost_ret (v := .tuple #[.agg #[.int .i64 0, .int .i64 0, .int .i64 0, .int .i64 0], .bool false]) (by rw [results_cell_tmp rfl]; simp [asAddr, Result.andThen, hc7, go_sem]) rfl ?_
    exact ⟨by rw [HV.out]; rfl, hE7⟩
  | some b =>
    have hft : firstT t n gs = b := by unfold firstT; rw [hF]
    have HM2 := Lib.hid (show p.mhop l q i t = if b + n + c.rng ≤ q.dead then some (hpAt c i q.size b) else none by rw [HM.out, hF])
    obtain ⟨x, hx, hbx, hbx2⟩ := firstL_bd hF
    have hxi := hgi x hx
    have hb0 : 0 ≤ b := by omega
    have hb1 : b + n ≤ 1099511627776 := by omega
    have hw1 : IntKind.i64.wrap (b + n) = b + n := IntWalk.i64_in _ (by omega)
    have hw2 : IntKind.i64.wrap (b + n + c.rng) = b + n + c.rng := IntWalk.i64_in _ (by omega)
    have hbz : (b == -1) = false := by rw [beq_eq_false_iff_ne]; omega
    rw [hft] at hfi
    clear hF hft hx hbx hbx2 hxi
    by_cases hd : q.dead < b + n + c.rng
    case' pos =>
      have dd : decide (q.dead < b + n + c.rng) = true := decide_eq_true hd
      have HV := Lib.hid (HM2.out.trans (if_neg (by omega)))
      clear hd
      go_enter Tryz.func59, Tryz.ntmps59
      go_wp2_with fail
      clear hW1 hW2 hW3 r0 r2 z0 z1 z2 z3 z4 z5 z6
      refine (hLn _).mono ?_
      clear hLn
      rintro e w4 ⟨rfl, hb4⟩
      have hx4 := hB3.trans hb4
      replace s0 := ((hk1.ext hB2).ext hx4).cell
      replace s1 := ((hkq.ext hB2).ext hx4).cell
      replace s2 := ((hk1.ext hB2).ext hx4).lt
      replace s3 := ((hkq.ext hB2).ext hx4).lt
      replace s4 := (hk3.ext hb4).cell
      go_wp2_with fail
      refine (hga w4 (hrd.ext hx4) (hl3.ext hx4)).mono ?_
      clear hga
      rintro e w5 ⟨u, rfl, hu, hb5⟩
      rw [Hgs.out] at hu
      obtain ⟨Au, cu, rfl, hRu⟩ := hu.form
      have hf5 := hfi Au cu w5 hRu
      go_wp2_with fail
      refine hf5.mono ?_
      rintro e w6 ⟨rfl, rfl⟩
      have hx5 := hx4.trans hb5
      have hk5 := hk2.ext hx5
      have s5 := ((hk3.ext hb4).ext hb5).cell
      have s6 := ((hkq.ext hB2).ext hx5).cell
      have hc5 := hk5.cell
      have hf5 := hk5.frozen
      have hl5 := hk5.lt
      go_wp2
      obtain ⟨w7, hw7, hz7, hE7⟩ : ∃ w7, w5.setCells W1.heap.size 0 [.int .i64 0, .int .i64 0, .int .i64 0, .int .i64 0] = w7 ∧ Blk w7 W1.heap.size 51 #[.int .i64 0, .int .i64 0, .int .i64 0, .int .i64 0] ∧ Ext w w7 :=
        ⟨_, rfl, hk5.setCells_ [.int .i64 0, .int .i64 0, .int .i64 0, .int .i64 0] 0, ext_setCells (hE2.trans hx5) (by have := hB1.size; omega) 0 _⟩
      simp only [World.setCells, Nat.zero_add, Nat.reduceAdd] at hw7
      rw [hw7]
      have hc7 := hz7.cell
      refine bodyPost_ret (v := .tuple #[.agg #[.int .i64 0, .int .i64 0, .int .i64 0, .int .i64 0], .bool false]) (by rw [results_cell_tmp rfl]; simp [asAddr, Result.andThen, hc7, go_sem]) rfl ?_
      exact ⟨by rw [HV.out]; rfl, hE7⟩
    have dd : decide (q.dead < b + n + c.rng) = false := decide_eq_false hd
    have HV := Lib.hid (HM2.out.trans (if_pos (by omega)))
    have HW := Lib.hid (show (hpAt c i q.size b).val = .agg #[.int .i64 i, .int .i64 b, .int .i64 (b + n), .int .i64 (b + n + c.rng)] by rw [← Hn.out]; rfl)
    clear hd
    go_enter Tryz.func59, Tryz.ntmps59
    go_wp2_with fail
    clear hW1 hW2 hW3 r0 r2 z0 z1 z2 z3 z4 z5 z6
    refine (hLn _).mono ?_
    clear hLn
    rintro e w4 ⟨rfl, hb4⟩
    have hx4 := hB3.trans hb4
    replace s0 := ((hk1.ext hB2).ext hx4).cell
    replace s1 := ((hkq.ext hB2).ext hx4).cell
    replace s2 := ((hk1.ext hB2).ext hx4).lt
    replace s3 := ((hkq.ext hB2).ext hx4).lt
    replace s4 := (hk3.ext hb4).cell
    go_wp2_with fail
    refine (hga w4 (hrd.ext hx4) (hl3.ext hx4)).mono ?_
    clear hga
    rintro e w5 ⟨u, rfl, hu, hb5⟩
    rw [Hgs.out] at hu
    obtain ⟨Au, cu, rfl, hRu⟩ := hu.form
    have hf5 := hfi Au cu w5 hRu
    go_wp2_with fail
    refine hf5.mono ?_
    rintro e w6 ⟨rfl, rfl⟩
    have hx5 := hx4.trans hb5
    have hk5 := hk2.ext hx5
    have s5 := ((hk3.ext hb4).ext hb5).cell
    have s6 := ((hkq.ext hB2).ext hx5).cell
    have hc5 := hk5.cell
    have hf5 := hk5.frozen
    have hl5 := hk5.lt
    go_wp2
    obtain ⟨w7, hw7, hz7, hE7⟩ : ∃ w7, w5.setCells W1.heap.size 0 [.int .i64 i, .int .i64 b, .int .i64 (b + n), .int .i64 (b + n + c.rng)] = w7 ∧ Blk w7 W1.heap.size 51 #[.int .i64 i, .int .i64 b, .int .i64 (b + n), .int .i64 (b + n + c.rng)] ∧ Ext w w7 :=
      ⟨_, rfl, hk5.setCells_ [.int .i64 i, .int .i64 b, .int .i64 (b + n), .int .i64 (b + n + c.rng)] 0, ext_setCells (hE2.trans hx5) (by have := hB1.size; omega) 0 _⟩
    simp only [World.setCells, Nat.zero_add, Nat.reduceAdd] at hw7
    rw [hw7]
    have hc7 := hz7.cell
    refine bodyPost_ret (v := .tuple #[.agg #[.int .i64 i, .int .i64 b, .int .i64 (b + n), .int .i64 (b + n + c.rng)], .bool true]) (by rw [results_cell_tmp rfl]; simp [asAddr, Result.andThen, hc7, go_sem]) rfl ?_
    exact ⟨by rw [HV.out]; show _ = Ending.returned (.tuple #[(hpAt c i q.size b).val, _]); rw [HW.out]; rfl, hE7⟩

end Go.Proofs.YtbgdglcnminbaaaGreat
