/- Layer 35, the reference (multicast): members, node, find. -/
import Derived.Test.YtbgdglcnminbaaaGreatMcPn
import Derived.Test.YtbgdglcnminbaaaGreatPlnW2
import Derived.BigQuiet
namespace Go.Proofs.YtbgdglcnminbaaaGreat
set_option linter.unusedVariables false
set_option linter.unusedSimpArgs false
open Go.RowKit Go.Shelf
attribute [local go_sem] Oper.semAt_some

set_option maxRecDepth 100000 in
set_option maxHeartbeats 4000000 in
theorem rmembers_any (Aq : Option Addr) (cq : Nat) (Ac : Option Addr) (cc : Nat) (p : Pln) (q : Req) (Am : Option Addr) (cm : Nat) (l : List Int) (w : World) (hl : Rd EInt w Am l) (hm : l.length ≤ 1000000) (hqm : p.quo.length ≤ 1000000) :
    Calls Tryz.prog 32 #[p.val Aq cq Ac cc, q.val, .slice Am l.length cm] w fun e w' => e = .returned (.bool (memsB p.quo.length q.src l)) ∧ Ext w w' := by
  obtain ⟨W, hW, hB, hk, hk2, hlt, hlt2⟩ := box2 w #[.slice Aq p.quo.length cq, .slice Ac p.cons.length cc] q.cells 25 31
  simp only [Req.cells] at hW hk2
  have hc := hk.cell
  have hc2 := hk2.cell
  have HR := hl.ext hB
  unfold Pln.val Req.val
  go_enter Tryz.func32, Tryz.ntmps32
  go_wp2_with fail
  clear hW
  go_loopg [7] l.length (fun n k wr => ∃ j : Nat, j + n = l.length ∧ k = .int .i64 j ∧ Hid (∀ i, i < j → memAt p.quo.length q.src l i) ∧ Ext W wr)
  case atStart => exact ⟨0, by omega, rfl, Lib.hid (fun i hi => by omega), Ext.refl _⟩
  case round =>
    obtain ⟨j, hjq, rfl, hmm, hx⟩ := hrel
    have Hjq := Lib.hid hjq
    have hjN : j ≤ l.length := by omega
    clear hjq
    have u1 := (hk.ext hx).cell
    have u2 := (hk.ext hx).lt
    have u3 := (hk2.ext hx).cell
    have u4 := (hk2.ext hx).lt
    have hN := Near.refl wr
    have hC := hN.2
    by_cases hlt2 : j < l.length
    · obtain ⟨b, o, rfl, hbl, hcm⟩ := (HR.ext hx).int hlt2
      have HNO := Lib.hid (fun h : ¬ memAt p.quo.length q.src l j => memsB_no (N := p.quo.length) (src := q.src) hlt2 h)
      by_cases a0 : l[j] < 0
      · have d0 : decide (l[j] < 0) = true := decide_eq_true a0
        have HV := Lib.hid (HNO.out (fun hh => by have := hh hlt2; omega))
        clear a0
        generalize l[j] = x at *
        go_wp2_with fail
        have hq := quiet_near hN
        refine wp_region_quiet_below (by kernel_rfl) (by kernel_rfl) ?_
        repeat (first | go_big_quiet_skip | (go_big_quiet_want; go_big_quiet_op; first | go_big_quiet_on | (apply Exists.intro; refine ⟨fun _ => ?_, ?_⟩; (focus (first | fail)); go_big_quiet_on)))
        refine wpQuiet_nil ?_
        intro w1 hw1
        clear hq
        replace hw1 := quiet_ext hw1
        replace hN := hN.step hw1
        have hC := hN.2
        go_wp2
        go_ret
        exact ⟨by rw [HV.out]; rfl, (hB.trans hx).trans hN.1⟩
      have d0 : decide (l[j] < 0) = false := decide_eq_false a0
      by_cases a1 : (p.quo.length : Int) ≤ l[j]
      · have d1 : decide ((p.quo.length : Int) ≤ l[j]) = true := decide_eq_true a1
        have HV := Lib.hid (HNO.out (fun hh => by have := hh hlt2; omega))
        clear a0 a1
        generalize l[j] = x at *
        go_wp2_with fail
        have hq := quiet_near hN
        refine wp_region_quiet_below (by kernel_rfl) (by kernel_rfl) ?_
        repeat (first | go_big_quiet_skip | (go_big_quiet_want; go_big_quiet_op; first | go_big_quiet_on | (apply Exists.intro; refine ⟨fun _ => ?_, ?_⟩; (focus (first | fail)); go_big_quiet_on)))
        refine wpQuiet_nil ?_
        intro w1 hw1
        clear hq
        replace hw1 := quiet_ext hw1
        replace hN := hN.step hw1
        have hC := hN.2
        go_wp2
        go_ret
        exact ⟨by rw [HV.out]; rfl, (hB.trans hx).trans hN.1⟩
      have d1 : decide ((p.quo.length : Int) ≤ l[j]) = false := decide_eq_false a1
      by_cases a2 : l[j] = q.src
      · have d2 : (l[j] == q.src) = true := by simpa using a2
        have HV := Lib.hid (HNO.out (fun hh => by have := hh hlt2; omega))
        clear a0 a1 a2
        generalize l[j] = x at *
        go_wp2_with fail
        have hq := quiet_near hN
        refine wp_region_quiet_below (by kernel_rfl) (by kernel_rfl) ?_
        repeat (first | go_big_quiet_skip | (go_big_quiet_want; go_big_quiet_op; first | go_big_quiet_on | (apply Exists.intro; refine ⟨fun _ => ?_, ?_⟩; (focus (first | fail)); go_big_quiet_on)))
        refine wpQuiet_nil ?_
        intro w1 hw1
        clear hq
        replace hw1 := quiet_ext hw1
        replace hN := hN.step hw1
        have hC := hN.2
        go_wp2
        go_ret
        exact ⟨by rw [HV.out]; rfl, (hB.trans hx).trans hN.1⟩
      have d2 : (l[j] == q.src) = false := by simpa using a2
      cases j with
      | zero =>
        have HY := Lib.hid (show memAt p.quo.length q.src l 0 from fun h => ⟨by omega, by omega, a2, fun h => by omega⟩)
        clear a0 a1 a2 HNO
        simp only [Nat.add_zero] at hcm
        generalize l[0] = x at *
        go_wp2_with fail
        have hq := quiet_near hN
        refine wp_region_quiet_below (by kernel_rfl) (by kernel_rfl) ?_
        repeat (first | go_big_quiet_skip | (go_big_quiet_want; go_big_quiet_op; first | go_big_quiet_on | (apply Exists.intro; refine ⟨fun _ => ?_, ?_⟩; (focus (first | fail)); go_big_quiet_on)))
        refine wpQuiet_nil ?_
        intro w1 hw1
        clear hq
        replace hw1 := quiet_ext hw1
        replace hN := hN.step hw1
        have hC := hN.2
        go_wp2
        go_roundg (gk - 1)
        case measure => have := Hjq.out; omega
        case rel => exact ⟨0 + 1, by have := Hjq.out; omega, by go_num, Lib.hid (memAt_snoc hmm.out HY.out), hx.trans hN.1⟩
      | succ m =>
        obtain ⟨b', o', hA, hbl', hcp⟩ := (HR.ext hx).int (k := m) (by omega)
        injection hA with hA
        injection hA with hA hA2
        subst hA hA2
        have hwj : IntKind.i64.wrap (m : Int) = (m : Int) := IntWalk.i64_in _ (by omega)
        have d4 : decide ((0 : Int) < (m : Int) + 1) = true := decide_eq_true (by omega)
        have hmi0 : m < l.length := by omega
        have hmi1 : (m : Int) < (l.length : Int) := by omega
        have hmi2 : (m : Int) ≤ (l.length : Int) := by omega
        have hmi3 : m ≤ l.length := by omega
        by_cases a3 : l[m + 1] ≤ l[m]
        · have d3 : decide (l[m + 1] ≤ l[m]) = true := decide_eq_true a3
          have HV := Lib.hid (HNO.out (fun hh => by have := (hh hlt2).2.2.2 (by omega); simp only [Nat.add_sub_cancel] at this; omega))
          clear a0 a1 a2 a3 HNO
          generalize l[m + 1] = x at *
          generalize l[m] = y at *
          go_wp2_with fail
          have hq := quiet_near hN
          refine wp_region_quiet_below (by kernel_rfl) (by kernel_rfl) ?_
          repeat (first | go_big_quiet_skip | (go_big_quiet_want; go_big_quiet_op; first | go_big_quiet_on | (apply Exists.intro; refine ⟨fun _ => ?_, ?_⟩; (focus (first | fail)); go_big_quiet_on)))
          refine wpQuiet_nil ?_
          intro w1 hw1
          clear hq
          replace hw1 := quiet_ext hw1
          replace hN := hN.step hw1
          have hC := hN.2
          go_wp2
          go_ret
          exact ⟨by rw [HV.out]; rfl, (hB.trans hx).trans hN.1⟩
        · have d3 : decide (l[m + 1] ≤ l[m]) = false := decide_eq_false a3
          have HY := Lib.hid (show memAt p.quo.length q.src l (m + 1) from fun h => ⟨by omega, by omega, a2, fun h => by simp only [Nat.add_sub_cancel]; omega⟩)
          clear a0 a1 a2 a3 HNO
          generalize l[m + 1] = x at *
          generalize l[m] = y at *
          go_wp2_with fail
          have hq := quiet_near hN
          refine wp_region_quiet_below (by kernel_rfl) (by kernel_rfl) ?_
          repeat (first | go_big_quiet_skip | (go_big_quiet_want; go_big_quiet_op; first | go_big_quiet_on | (apply Exists.intro; refine ⟨fun _ => ?_, ?_⟩; (focus (first | fail)); go_big_quiet_on)))
          refine wpQuiet_nil ?_
          intro w1 hw1
          clear hq
          replace hw1 := quiet_ext hw1
          replace hN := hN.step hw1
          have hC := hN.2
          go_wp2
          go_roundg (gk - 1)
          case measure => have := Hjq.out; omega
          case rel => exact ⟨m + 1 + 1, by have := Hjq.out; omega, by go_num, Lib.hid (memAt_snoc hmm.out HY.out), hx.trans hN.1⟩
    · have he : j = l.length := by omega
      subst he
      have HV := Lib.hid (memsB_yes hmm.out)
      go_wp2
      go_ret
      exact ⟨by rw [HV.out]; rfl, hB.trans hx⟩

/-- The node of a branch, or the source. -/
def Pln.ndR (p : Pln) (q : Req) (l : List Br) (i : Int) : Int := if i = -1 then q.src else p.nd l i.toNat
/-- A list whose branches lie in the plan. -/
def AllIn (p : Pln) (l : List Br) : Prop := ∀ k, k < l.length → InB p (gbr l k)
set_option maxRecDepth 100000 in
set_option maxHeartbeats 4000000 in
theorem rnode_any (Aq : Option Addr) (cq : Nat) (Ac : Option Addr) (cc : Nat) (p : Pln) (q : Req) (Al : Option Addr) (cl : Nat) (l : List Br) (i : Int) (w : World) (h : PlnRd w Aq cq Ac cc p) (hl : Rd EBr w Al l) (hm : l.length ≤ 1000000) (hi : i = -1 ∨ (0 ≤ i ∧ i < l.length ∧ InB p (gbr l i.toNat))) :
    Calls Tryz.prog 40 #[p.val Aq cq Ac cc, q.val, .slice Al l.length cl, .int .i64 i] w fun e w' => e = .returned (.int .i64 (p.ndR q l i)) ∧ Ext w w' := by
  obtain ⟨W, hW, hB, hk, hk2, hlt, hlt2⟩ := box2 w #[.slice Aq p.quo.length cq, .slice Ac p.cons.length cc] q.cells 25 31
  simp only [Req.cells] at hW hk2
  have hc := hk.cell
  have hc2 := hk2.cell
  have hcm := h.cm
  unfold Pln.val Req.val
  rcases hi with rfl | ⟨h0, h1, h2⟩
  · have HV := Lib.hid (show p.ndR q l (-1) = q.src from if_pos rfl)
    go_enter Tryz.func40, Tryz.ntmps40
    go_wp2_with fail
    clear hW
    go_wp2
    go_ret
    exact ⟨by rw [HV.out]; rfl, hB⟩
  · obtain ⟨k, rfl⟩ : ∃ k : Nat, i = (k : Int) := ⟨i.toNat, by omega⟩
    have hkl : k < l.length := by omega
    rw [Int.toNat_natCast, gbr_get hkl] at h2
    have hnd : p.ndR q l (k : Int) = (gc p.cons l[k].con).dst := by
      unfold Pln.ndR Pln.nd
      rw [if_neg (by omega), Int.toNat_natCast, gbr_get hkl]
    have HV := Lib.hid hnd
    clear hnd
    obtain ⟨b, o, rfl, hb, g0, g1, g2, g3, g4⟩ := (hl.ext hB).br hkl
    have hcl : l[k].con.toNat < p.cons.length := by unfold InB at h2; omega
    obtain ⟨bc, oc, rfl, hbc, z0, z1, z2, z3, z4, z5, z6⟩ := (h.c.ext hB).con hcl
    have hgc := gc_get hcl
    unfold InB at h2
    obtain ⟨h3, h4⟩ := h2
    generalize l[k] = y at *
    rw [hgc] at HV
    generalize p.cons[y.con.toNat] = c at *
    have d1 : ((k : Int) == -1) = false := by rw [beq_eq_false_iff_ne]; omega
    have eN : ((y.con.toNat : Nat) : Int) = y.con := by omega
    clear hgc
    go_enter Tryz.func40, Tryz.ntmps40
    go_wp2_with fail
    clear hW
    have hN := Near.refl W
    have hC := hN.2
    have hq := quiet_near hN
    refine wp_region_quiet_below (by kernel_rfl) (by kernel_rfl) ?_
    repeat (first | go_big_quiet_skip | (go_big_quiet_want; go_big_quiet_op; first | go_big_quiet_on | (apply Exists.intro; refine ⟨fun _ => ?_, ?_⟩; (focus (first | fail)); go_big_quiet_on)))
    refine wpQuiet_nil ?_
    intro w1 hw1
    clear hq
    replace hw1 := quiet_ext hw1
    replace hN := hN.step hw1
    have hC := hN.2
    go_wp2
    go_ret
    exact ⟨by rw [HV.out]; rfl, hB.trans hN.1⟩

/-- The branch that leads to a node; -1 for the source, -2 if there is none. -/
def Pln.fnd (p : Pln) (q : Req) (l : List Br) (n : Int) : Int := if n = q.src then -1 else if p.lead l n = -1 then -2 else p.lead l n
set_option maxRecDepth 100000 in
set_option maxHeartbeats 4000000 in
theorem rfind_any (Aq : Option Addr) (cq : Nat) (Ac : Option Addr) (cc : Nat) (p : Pln) (q : Req) (Al : Option Addr) (cl : Nat) (l : List Br) (n : Int) (w : World) (h : PlnRd w Aq cq Ac cc p) (hl : Rd EBr w Al l) (hm : l.length ≤ 1000000) (hi : AllIn p l) :
    Calls Tryz.prog 34 #[p.val Aq cq Ac cc, q.val, .slice Al l.length cl, .int .i64 n] w fun e w' => e = .returned (.int .i64 (p.fnd q l n)) ∧ Ext w w' := by
  obtain ⟨W, hW, hB, hk, hk2, hlt, hlt2⟩ := box2 w #[.slice Aq p.quo.length cq, .slice Ac p.cons.length cc] q.cells 25 31
  simp only [Req.cells] at hW hk2
  have hc := hk.cell
  have hc2 := hk2.cell
  have hrd := h.ext hB
  have hl1 := hl.ext hB
  by_cases hs : n = q.src
  · have HV := Lib.hid (show p.fnd q l n = -1 from if_pos hs)
    have ds : (n == q.src) = true := by simpa using hs
    clear hs
    unfold Pln.val Req.val
    go_enter Tryz.func34, Tryz.ntmps34
    go_wp2_with fail
    clear hW
    go_wp2
    go_ret
    exact ⟨by rw [HV.out]; rfl, hB⟩
  · have HV := Lib.hid (show p.fnd q l n = if p.lead l n = -1 then -2 else p.lead l n from if_neg hs)
    have ds : (n == q.src) = false := by simpa using hs
    have hno := fun i w h hl hi => rnode_any Aq cq Ac cc p q Al cl l i w h hl hm hi
    clear hs
    unfold Pln.val Req.val at hno ⊢
    go_enter Tryz.func34, Tryz.ntmps34
    go_wp2_with fail
    clear hW
    go_loopg [9] l.length (fun m k wr => ∃ j : Nat, j + m = l.length ∧ k = .int .i64 j ∧ Hid ((l.take j).any (p.leads n) = false) ∧ Ext W wr)
    case atStart => exact ⟨0, by omega, rfl, Lib.hid rfl, Ext.refl _⟩
    case round =>
      obtain ⟨j, hjq, rfl, hu, hx⟩ := hrel
      have Hjq := Lib.hid hjq
      have hjN : j ≤ l.length := by omega
      clear hjq
      have u1 := (hk.ext hx).cell
      have u2 := (hk.ext hx).lt
      have u3 := (hk2.ext hx).cell
      have u4 := (hk2.ext hx).lt
      by_cases hlt2 : j < l.length
      · have hnj := hno (j : Int) wr (hrd.ext hx) (hl1.ext hx) (.inr ⟨by omega, by omega, by rw [Int.toNat_natCast]; exact hi j hlt2⟩)
        have hnd : p.ndR q l (j : Int) = p.nd l j := by unfold Pln.ndR; rw [if_neg (by omega), Int.toNat_natCast]
        have hpl : p.leads n l[j] = (p.nd l j == n) := by unfold Pln.leads Pln.nd; rw [gbr_get hlt2]
        rw [hnd] at hnj
        have Hpl := Lib.hid hpl
        clear hnd hpl
        go_wp2_with fail
        refine hnj.mono ?_
        clear hnj
        rintro e w1 ⟨rfl, hb1⟩
        by_cases e1 : p.nd l j = n
        · have d1 : (p.nd l j == n) = true := by simpa using e1
          have hf : p.lead l n = (j : Int) := findI_at hlt2 hu.out (by rw [Hpl.out]; exact d1)
          have HV2 := Lib.hid (show p.fnd q l n = (j : Int) by rw [HV.out, hf, if_neg (by omega)])
          clear e1 hf
          go_wp2
          go_ret
          exact ⟨by rw [HV2.out]; rfl, (hB.trans hx).trans hb1⟩
        · have d1 : (p.nd l j == n) = false := by simpa using e1
          have HU := Lib.hid (any_step hlt2 rfl hu.out (Hpl.out.trans d1))
          clear e1
          go_wp2
          go_roundg (gk - 1)
          case measure => have := Hjq.out; omega
          case rel => exact ⟨j + 1, by have := Hjq.out; omega, by go_num, HU, hx.trans hb1⟩
      · obtain rfl : j = l.length := by omega
        have hf : p.lead l n = -1 := findI_nope (by have := hu.out; rwa [List.take_length] at this)
        have HV2 := Lib.hid (show p.fnd q l n = -2 by rw [HV.out, if_pos hf])
        clear hf
        go_wp2
        go_ret
        exact ⟨by rw [HV2.out]; rfl, hB.trans hx⟩

end Go.Proofs.YtbgdglcnminbaaaGreat
