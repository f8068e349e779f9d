/- Layer 35, the reference (multicast): members, node, find. · Layer 35, the reference (multicast): branch. -/
import Derived.Test.YtbgdglcnminbaaaGreatMcPn
import Derived.Test.YtbgdglcnminbaaaGreatPlnW2
import Derived.BigQuiet
import Derived.Test.YtbgdglcnminbaaaGreatMcGqr
import Derived.Test.YtbgdglcnminbaaaGreatJrVC
namespace Go.Proofs.YtbgdglcnminbaaaGreat
set_option linter.unusedVariables false
set_option linter.unusedSimpArgs false
open Go.RowKit Go.Shelf
attribute [local go_sem] Oper.semAt_some

set_option maxRecDepth 100000 in
set_option maxHeartbeats 4000000 in
theorem rmembers_any (Aq : Option Addr) (cq : Nat) (Ac : Option Addr) (cc : Nat) (p : Pln) (q : Req) (Am : Option Addr) (cm : Nat) (l : List Int) (w : World) (hl : Rd EInt w Am l) (hm : l.length ≤ 1000000) (hqm : p.quo.length ≤ 1000000) :
    Calls Tryz.prog 32 #[p.val Aq cq Ac cc, q.val, .slice Am l.length cm] w fun e w' => e = .returned (.bool (memsB p.quo.length q.src l)) ∧ Ext w w' := by
  obtain ⟨W, hW, hB, hk, hk2, hlt, hlt2⟩ := box2 w #[.slice Aq p.quo.length cq, .slice Ac p.cons.length cc] q.cells 25 31
  simp only [Req.cells] at hW hk2
  have hc := hk.cell
  have hc2 := hk2.cell
  have HR := hl.ext hB
  unfold Pln.val Req.val
  go_enter Tryz.func32, Tryz.ntmps32
  go_wp2_with fail
  clear hW
  go_loopg [7] l.length (fun n k wr => ∃ j : Nat, j + n = l.length ∧ k = .int .i64 j ∧ Hid (∀ i, i < j → memAt p.quo.length q.src l i) ∧ Ext W wr)
  case atStart => exact ⟨0, by omega, rfl, Lib.hid (fun i hi => by omega), Ext.refl _⟩
  case round =>
    obtain ⟨j, hjq, rfl, hmm, hx⟩ := hrel
    have Hjq := Lib.hid hjq
    have hjN : j ≤ l.length := by omega
    clear hjq
    have u1 := (hk.ext hx).cell
    have u2 := (hk.ext hx).lt
    have u3 := (hk2.ext hx).cell
    have u4 := (hk2.ext hx).lt
    have hN := Near.refl wr
    have hC := hN.2
    by_cases hlt2 : j < l.length
    · obtain ⟨b, o, rfl, hbl, hcm⟩ := (HR.ext hx).int hlt2
      have HNO := Lib.hid (fun h : ¬ memAt p.quo.length q.src l j => memsB_no (N := p.quo.length) (src := q.src) hlt2 h)
      by_cases a0 : l[j] < 0
      · have d0 : decide (l[j] < 0) = true := decide_eq_true a0
        have HV := Lib.hid (HNO.out (fun hh => by have := hh hlt2; omega))
        clear a0
        generalize l[j] = x at *
        go_wp2_with fail
        have hq := quiet_near hN
        refine wp_region_quiet_below (by kernel_rfl) (by kernel_rfl) ?_
        repeat (first | go_big_quiet_skip | (go_big_quiet_want; go_big_quiet_op; first | go_big_quiet_on | (apply Exists.intro; refine ⟨fun _ => ?_, ?_⟩; (focus (first | fail)); go_big_quiet_on)))
        refine wpQuiet_nil ?_
        intro w1 hw1
        clear hq
        replace hw1 := quiet_ext hw1
        replace hN := hN.step hw1
        have hC := hN.2
        go_wp2
        go_ret
        exact ⟨by rw [HV.out]; rfl, (hB.trans hx).trans hN.1⟩
      have d0 : decide (l[j] < 0) = false := decide_eq_false a0
      by_cases a1 : (p.quo.length : Int) ≤ l[j]
      · have d1 : decide ((p.quo.length : Int) ≤ l[j]) = true := decide_eq_true a1
        have HV := Lib.hid (HNO.out (fun hh => by have := hh hlt2; omega))
        clear a0 a1
        generalize l[j] = x at *
        go_wp2_with fail
        have hq := quiet_near hN
        refine wp_region_quiet_below (by kernel_rfl) (by kernel_rfl) ?_
        repeat (first | go_big_quiet_skip | (go_big_quiet_want; go_big_quiet_op; first | go_big_quiet_on | (apply Exists.intro; refine ⟨fun _ => ?_, ?_⟩; (focus (first | fail)); go_big_quiet_on)))
        refine wpQuiet_nil ?_
        intro w1 hw1
        clear hq
        replace hw1 := quiet_ext hw1
        replace hN := hN.step hw1
        have hC := hN.2
        go_wp2
        go_ret
        exact ⟨by rw [HV.out]; rfl, (hB.trans hx).trans hN.1⟩
      have d1 : decide ((p.quo.length : Int) ≤ l[j]) = false := decide_eq_false a1
      by_cases a2 : l[j] = q.src
      · have d2 : (l[j] == q.src) = true := by simpa using a2
        have HV := Lib.hid (HNO.out (fun hh => by have := hh hlt2; omega))
        clear a0 a1 a2
        generalize l[j] = x at *
        go_wp2_with fail
        have hq := quiet_near hN
        refine wp_region_quiet_below (by kernel_rfl) (by kernel_rfl) ?_
        repeat (first | go_big_quiet_skip | (go_big_quiet_want; go_big_quiet_op; first | go_big_quiet_on | (apply Exists.intro; refine ⟨fun _ => ?_, ?_⟩; (focus (first | fail)); go_big_quiet_on)))
        refine wpQuiet_nil ?_
        intro w1 hw1
        clear hq
        replace hw1 := quiet_ext hw1
        replace hN := hN.step hw1
        have hC := hN.2
        go_wp2
        go_ret
        exact ⟨by rw [HV.out]; rfl, (hB.trans hx).trans hN.1⟩
      have d2 : (l[j] == q.src) = false := by simpa using a2
      cases j with
      | zero =>
        have HY := Lib.hid (show memAt p.quo.length q.src l 0 from fun h => ⟨by omega, by omega, a2, fun h => by omega⟩)
        clear a0 a1 a2 HNO
        simp only [Nat.add_zero] at hcm
        generalize l[0] = x at *
        go_wp2_with fail
        have hq := quiet_near hN
        refine wp_region_quiet_below (by kernel_rfl) (by kernel_rfl) ?_
        repeat (first | go_big_quiet_skip | (go_big_quiet_want; go_big_quiet_op; first | go_big_quiet_on | (apply Exists.intro; refine ⟨fun _ => ?_, ?_⟩; (focus (first | fail)); go_big_quiet_on)))
        refine wpQuiet_nil ?_
        intro w1 hw1
        clear hq
        replace hw1 := quiet_ext hw1
        replace hN := hN.step hw1
        have hC := hN.2
        go_wp2
        go_roundg (gk - 1)
        case measure => have := Hjq.out; omega
        case rel => exact ⟨0 + 1, by have := Hjq.out; omega, by go_num, Lib.hid (memAt_snoc hmm.out HY.out), hx.trans hN.1⟩
      | succ m =>
        obtain ⟨b', o', hA, hbl', hcp⟩ := (HR.ext hx).int (k := m) (by omega)
        injection hA with hA
        injection hA with hA hA2
        subst hA hA2
        have hwj : IntKind.i64.wrap (m : Int) = (m : Int) := IntWalk.i64_in _ (by omega)
        have d4 : decide ((0 : Int) < (m : Int) + 1) = true := decide_eq_true (by omega)
        have hmi0 : m < l.length := by omega
        have hmi1 : (m : Int) < (l.length : Int) := by omega
        have hmi2 : (m : Int) ≤ (l.length : Int) := by omega
        have hmi3 : m ≤ l.length := by omega
        by_cases a3 : l[m + 1] ≤ l[m]
        · have d3 : decide (l[m + 1] ≤ l[m]) = true := decide_eq_true a3
          have HV := Lib.hid (HNO.out (fun hh => by have := (hh hlt2).2.2.2 (by omega); simp only [Nat.add_sub_cancel] at this; omega))
          clear a0 a1 a2 a3 HNO
          generalize l[m + 1] = x at *
          generalize l[m] = y at *
          go_wp2_with fail
          have hq := quiet_near hN
          refine wp_region_quiet_below (by kernel_rfl) (by kernel_rfl) ?_
          repeat (first | go_big_quiet_skip | (go_big_quiet_want; go_big_quiet_op; first | go_big_quiet_on | (apply Exists.intro; refine ⟨fun _ => ?_, ?_⟩; (focus (first | fail)); go_big_quiet_on)))
          refine wpQuiet_nil ?_
          intro w1 hw1
          clear hq
          replace hw1 := quiet_ext hw1
          replace hN := hN.step hw1
          have hC := hN.2
          go_wp2
          go_ret
          exact ⟨by rw [HV.out]; rfl, (hB.trans hx).trans hN.1⟩
        · have d3 : decide (l[m + 1] ≤ l[m]) = false := decide_eq_false a3
          have HY := Lib.hid (show memAt p.quo.length q.src l (m + 1) from fun h => ⟨by omega, by omega, a2, fun h => by simp only [Nat.add_sub_cancel]; omega⟩)
          clear a0 a1 a2 a3 HNO
          generalize l[m + 1] = x at *
          generalize l[m] = y at *
          go_wp2_with fail
          have hq := quiet_near hN
          refine wp_region_quiet_below (by kernel_rfl) (by kernel_rfl) ?_
          repeat (first | go_big_quiet_skip | (go_big_quiet_want; go_big_quiet_op; first | go_big_quiet_on | (apply Exists.intro; refine ⟨fun _ => ?_, ?_⟩; (focus (first | fail)); go_big_quiet_on)))
          refine wpQuiet_nil ?_
          intro w1 hw1
          clear hq
          replace hw1 := quiet_ext hw1
          replace hN := hN.step hw1
          have hC := hN.2
          go_wp2
          go_roundg (gk - 1)
          case measure => have := Hjq.out; omega
          case rel => exact ⟨m + 1 + 1, by have := Hjq.out; omega, by go_num, Lib.hid (memAt_snoc hmm.out HY.out), hx.trans hN.1⟩
    · have he : j = l.length := by omega
      subst he
      have HV := Lib.hid (memsB_yes hmm.out)
      go_wp2
      go_ret
      exact ⟨by rw [HV.out]; rfl, hB.trans hx⟩

/-- The node of a branch, or the source. -/
def Pln.ndR (p : Pln) (q : Req) (l : List Br) (i : Int) : Int := if i = -1 then q.src else p.nd l i.toNat
/-- A list whose branches lie in the plan. -/
def AllIn (p : Pln) (l : List Br) : Prop := ∀ k, k < l.length → InB p (gbr l k)
set_option maxRecDepth 100000 in
set_option maxHeartbeats 4000000 in
theorem rnode_any (Aq : Option Addr) (cq : Nat) (Ac : Option Addr) (cc : Nat) (p : Pln) (q : Req) (Al : Option Addr) (cl : Nat) (l : List Br) (i : Int) (w : World) (h : PlnRd w Aq cq Ac cc p) (hl : Rd EBr w Al l) (hm : l.length ≤ 1000000) (hi : i = -1 ∨ (0 ≤ i ∧ i < l.length ∧ InB p (gbr l i.toNat))) :
    Calls Tryz.prog 40 #[p.val Aq cq Ac cc, q.val, .slice Al l.length cl, .int .i64 i] w fun e w' => e = .returned (.int .i64 (p.ndR q l i)) ∧ Ext w w' := by
  obtain ⟨W, hW, hB, hk, hk2, hlt, hlt2⟩ := box2 w #[.slice Aq p.quo.length cq, .slice Ac p.cons.length cc] q.cells 25 31
  simp only [Req.cells] at hW hk2
  have hc := hk.cell
  have hc2 := hk2.cell
  have hcm := h.cm
  unfold Pln.val Req.val
  rcases hi with rfl | ⟨h0, h1, h2⟩
  · have HV := Lib.hid (show p.ndR q l (-1) = q.src from if_pos rfl)
    go_enter Tryz.func40, Tryz.ntmps40
    go_wp2_with fail
    clear hW
    go_wp2
    go_ret
    exact ⟨by rw [HV.out]; rfl, hB⟩
  · obtain ⟨k, rfl⟩ : ∃ k : Nat, i = (k : Int) := ⟨i.toNat, by omega⟩
    have hkl : k < l.length := by omega
    rw [Int.toNat_natCast, gbr_get hkl] at h2
    have hnd : p.ndR q l (k : Int) = (gc p.cons l[k].con).dst := by
      unfold Pln.ndR Pln.nd
      rw [if_neg (by omega), Int.toNat_natCast, gbr_get hkl]
    have HV := Lib.hid hnd
    clear hnd
    obtain ⟨b, o, rfl, hb, g0, g1, g2, g3, g4⟩ := (hl.ext hB).br hkl
    have hcl : l[k].con.toNat < p.cons.length := by unfold InB at h2; omega
    obtain ⟨bc, oc, rfl, hbc, z0, z1, z2, z3, z4, z5, z6⟩ := (h.c.ext hB).con hcl
    have hgc := gc_get hcl
    unfold InB at h2
    obtain ⟨h3, h4⟩ := h2
    generalize l[k] = y at *
    rw [hgc] at HV
    generalize p.cons[y.con.toNat] = c at *
    have d1 : ((k : Int) == -1) = false := by rw [beq_eq_false_iff_ne]; omega
    have eN : ((y.con.toNat : Nat) : Int) = y.con := by omega
    clear hgc
    go_enter Tryz.func40, Tryz.ntmps40
    go_wp2_with fail
    clear hW
    have hN := Near.refl W
    have hC := hN.2
    have hq := quiet_near hN
    refine wp_region_quiet_below (by kernel_rfl) (by kernel_rfl) ?_
    repeat (first | go_big_quiet_skip | (go_big_quiet_want; go_big_quiet_op; first | go_big_quiet_on | (apply Exists.intro; refine ⟨fun _ => ?_, ?_⟩; (focus (first | fail)); go_big_quiet_on)))
    refine wpQuiet_nil ?_
    intro w1 hw1
    clear hq
    replace hw1 := quiet_ext hw1
    replace hN := hN.step hw1
    have hC := hN.2
    go_wp2
    go_ret
    exact ⟨by rw [HV.out]; rfl, hB.trans hN.1⟩

/-- The branch that leads to a node; -1 for the source, -2 if there is none. -/
def Pln.fnd (p : Pln) (q : Req) (l : List Br) (n : Int) : Int := if n = q.src then -1 else if p.lead l n = -1 then -2 else p.lead l n
set_option maxRecDepth 100000 in
set_option maxHeartbeats 4000000 in
theorem rfind_any (Aq : Option Addr) (cq : Nat) (Ac : Option Addr) (cc : Nat) (p : Pln) (q : Req) (Al : Option Addr) (cl : Nat) (l : List Br) (n : Int) (w : World) (h : PlnRd w Aq cq Ac cc p) (hl : Rd EBr w Al l) (hm : l.length ≤ 1000000) (hi : AllIn p l) :
    Calls Tryz.prog 34 #[p.val Aq cq Ac cc, q.val, .slice Al l.length cl, .int .i64 n] w fun e w' => e = .returned (.int .i64 (p.fnd q l n)) ∧ Ext w w' := by
  obtain ⟨W, hW, hB, hk, hk2, hlt, hlt2⟩ := box2 w #[.slice Aq p.quo.length cq, .slice Ac p.cons.length cc] q.cells 25 31
  simp only [Req.cells] at hW hk2
  have hc := hk.cell
  have hc2 := hk2.cell
  have hrd := h.ext hB
  have hl1 := hl.ext hB
  by_cases hs : n = q.src
  · have HV := Lib.hid (show p.fnd q l n = -1 from if_pos hs)
    have ds : (n == q.src) = true := by simpa using hs
    clear hs
    unfold Pln.val Req.val
    go_enter Tryz.func34, Tryz.ntmps34
    go_wp2_with fail
    clear hW
    go_wp2
    go_ret
    exact ⟨by rw [HV.out]; rfl, hB⟩
  · have HV := Lib.hid (show p.fnd q l n = if p.lead l n = -1 then -2 else p.lead l n from if_neg hs)
    have ds : (n == q.src) = false := by simpa using hs
    have hno := fun i w h hl hi => rnode_any Aq cq Ac cc p q Al cl l i w h hl hm hi
    clear hs
    unfold Pln.val Req.val at hno ⊢
    go_enter Tryz.func34, Tryz.ntmps34
    go_wp2_with fail
    clear hW
    go_loopg [9] l.length (fun m k wr => ∃ j : Nat, j + m = l.length ∧ k = .int .i64 j ∧ Hid ((l.take j).any (p.leads n) = false) ∧ Ext W wr)
    case atStart => exact ⟨0, by omega, rfl, Lib.hid rfl, Ext.refl _⟩
    case round =>
      obtain ⟨j, hjq, rfl, hu, hx⟩ := hrel
      have Hjq := Lib.hid hjq
      have hjN : j ≤ l.length := by omega
      clear hjq
      have u1 := (hk.ext hx).cell
      have u2 := (hk.ext hx).lt
      have u3 := (hk2.ext hx).cell
      have u4 := (hk2.ext hx).lt
      by_cases hlt2 : j < l.length
      · have hnj := hno (j : Int) wr (hrd.ext hx) (hl1.ext hx) (.inr ⟨by omega, by omega, by rw [Int.toNat_natCast]; exact hi j hlt2⟩)
        have hnd : p.ndR q l (j : Int) = p.nd l j := by unfold Pln.ndR; rw [if_neg (by omega), Int.toNat_natCast]
        have hpl : p.leads n l[j] = (p.nd l j == n) := by unfold Pln.leads Pln.nd; rw [gbr_get hlt2]
        rw [hnd] at hnj
        have Hpl := Lib.hid hpl
        clear hnd hpl
        go_wp2_with fail
        refine hnj.mono ?_
        clear hnj
        rintro e w1 ⟨rfl, hb1⟩
        by_cases e1 : p.nd l j = n
        · have d1 : (p.nd l j == n) = true := by simpa using e1
          have hf : p.lead l n = (j : Int) := findI_at hlt2 hu.out (by rw [Hpl.out]; exact d1)
          have HV2 := Lib.hid (show p.fnd q l n = (j : Int) by rw [HV.out, hf, if_neg (by omega)])
          clear e1 hf
          go_wp2
          go_ret
          exact ⟨by rw [HV2.out]; rfl, (hB.trans hx).trans hb1⟩
        · have d1 : (p.nd l j == n) = false := by simpa using e1
          have HU := Lib.hid (any_step hlt2 rfl hu.out (Hpl.out.trans d1))
          clear e1
          go_wp2
          go_roundg (gk - 1)
          case measure => have := Hjq.out; omega
          case rel => exact ⟨j + 1, by have := Hjq.out; omega, by go_num, HU, hx.trans hb1⟩
      · obtain rfl : j = l.length := by omega
        have hf : p.lead l n = -1 := findI_nope (by have := hu.out; rwa [List.take_length] at this)
        have HV2 := Lib.hid (show p.fnd q l n = -2 by rw [HV.out, if_pos hf])
        clear hf
        go_wp2
        go_ret
        exact ⟨by rw [HV2.out]; rfl, hB.trans hx⟩

end Go.Proofs.YtbgdglcnminbaaaGreat

namespace Go.Proofs.YtbgdglcnminbaaaGreat
set_option linter.unusedVariables false
set_option linter.unusedSimpArgs false
open Go.RowKit Go.Shelf
attribute [local go_sem] Oper.semAt_some

theorem BrV.pre {p : Pln} {q : Req} {l e : List Br} {k : Nat} (h : k < l.length) (b : BrV p q (l ++ e) k) : BrV p q l k := by
  have e1 : gbr (l ++ e) k = gbr l k := gbr_app h
  have e2 : p.nd (l ++ e) k = p.nd l k := nd_app e h
  have e3 : p.mAt q (l ++ e) k = p.mAt q l k := mAt_app e k (by omega)
  have hp := b.par1
  rw [e1] at hp
  exact ⟨by rw [← e1]; exact b.con0, by rw [← e1]; exact b.con1, by rw [← e1]; exact b.par0, hp, by rw [← e1]; exact b.ok, by rw [← e2]; exact b.nd0, by rw [← e2]; exact b.nd1,
    by rw [← e1]; exact b.root, by intro h0; rw [← e1, ← nd_app (p := p) e (show (gbr (l ++ e) k).par.toNat < l.length by rw [e1]; omega), ← gbr_app (b := e) (show (gbr (l ++ e) k).par.toNat < l.length by rw [e1]; omega)]; exact b.next (by rw [e1]; exact h0), by rw [← e2, ← e3]; exact b.new, by rw [← e1]; exact b.fits, by rw [← e1]; exact b.at0, by rw [← e1]; exact b.en, by rw [← e1]; exact b.arr, by rw [← e1]; exact b.arr0, by rw [← e1]; exact b.dead⟩
theorem vt_take {p : Pln} {q : Req} {l : List Br} {i : Nat} (hf : fineR p q = true) (hl : l.length ≤ 16) (h : ∀ k, k < i → BrV p q l k) (hi : i ≤ l.length) : VT p q (l.take i) := by
  have hlen : (l.take i).length = i := by rw [List.length_take]; omega
  refine ⟨hf, by omega, fun k hk => ?_⟩
  have b := h k (by omega)
  rw [← List.take_append_drop i l] at b
  exact b.pre hk
theorem mAt_take {p : Pln} {q : Req} {l : List Br} {i : Nat} (hi : i ≤ l.length) : p.mAt q (l.take i) i = p.mAt q l i := by
  have h := mAt_app (p := p) (q := q) (l := l.take i) (l.drop i) i (by rw [List.length_take]; omega)
  rw [List.take_append_drop] at h
  exact h.symm
theorem fnd_iff {p : Pln} {q : Req} {l : List Br} (V : VT p q l) {x : Int} (h0 : 0 ≤ x) (h1 : x < 16) : 0 ≤ gi (p.mAt q l l.length) x ↔ p.fnd q l x ≠ -2 := by
  have hr := V.req
  unfold Pln.fnd
  by_cases e : x = q.src
  · rw [if_pos e, e, mAt_src V _ (Nat.le_refl _)]
    omega
  · rw [if_neg e]
    have hb := lead_bd p l x
    constructor
    · intro h
      have : ∃ j, j < l.length ∧ x = p.nd l j := by
        apply Classical.byContradiction
        intro hn
        have := mAt_none V _ (Nat.le_refl _) x h0 h1 e (fun j hj e2 => hn ⟨j, hj, e2⟩)
        omega
      obtain ⟨j, hj, rfl⟩ := this
      rw [lead_at V hj, if_neg (by omega)]
      omega
    · intro h
      by_cases hl : p.lead l x = -1
      · rw [if_pos hl] at h; exact absurd rfl h
      · obtain ⟨a, ha⟩ : ∃ a : Nat, p.lead l x = (a : Int) := ⟨(p.lead l x).toNat, by omega⟩
        have hal : a < l.length := by omega
        have hnd : p.nd l a = x := by
          have h1 : findI (p.leads x) l = (a : Int) := ha
          unfold findI at h1
          split at h1
          · have h2 : l.findIdx (p.leads x) = a := by omega
            have h4 := List.findIdx_getElem (p := p.leads x) (xs := l) (w := by omega)
            have h5 : l[l.findIdx (p.leads x)]'(by omega) = l[a] := by congr
            rw [h5] at h4
            unfold Pln.nd
            rw [gbr_get hal]
            unfold Pln.leads at h4
            simpa using h4
          · omega
        have h6 := mAt_nd V _ (Nat.le_refl _) a hal
        rw [hnd] at h6
        have := (V.br a hal).arr0
        omega

theorem atE_fitZ {c : Con} {b n : Int} (h : c.Ok) (hn : 1 ≤ n ∧ n ≤ 65536) (hf : c.fitsB b n = true) : c.atE b n = 0 ∧ c.arrT b n = b + c.dur n + c.rng := by
  have e : c.atE b n = 0 := by unfold Con.atE; rw [if_pos (Con.arg_ok.2 ⟨h, hn⟩), hf]; rfl
  refine ⟨e, ?_⟩
  unfold Con.arrT Con.aftT
  rw [if_pos e]; omega
theorem atE_unfitZ {c : Con} {b n : Int} (h : c.Ok) (hn : 1 ≤ n ∧ n ≤ 65536) (hf : c.fitsB b n = false) : c.atE b n = 16 := by
  unfold Con.atE; rw [if_pos (Con.arg_ok.2 ⟨h, hn⟩), hf]; rfl
/-- The branch, as the reference asks. -/
theorem brE_2 {p : Pln} {q : Req} {l : List Br} {i : Nat} {at_ : List Int} {b : Br} (hb : gbr l i = b) (h : b.par < -1 ∨ (i : Int) ≤ b.par ∨ b.con < 0 ∨ (p.cons.length : Int) ≤ b.con) : p.brE q l i at_ = 2 := by
  unfold Pln.brE; rw [hb, if_pos h]
theorem brE_t {p : Pln} {q : Req} {l : List Br} {i : Nat} {at_ : List Int} {b : Br} (hb : gbr l i = b) (h : ¬ (b.par < -1 ∨ (i : Int) ≤ b.par ∨ b.con < 0 ∨ (p.cons.length : Int) ≤ b.con)) : p.brE q l i at_ = brT (gc p.cons b.con) q b at_ (p.ndR q l b.par) (if 0 ≤ b.par then (gbr l b.par.toNat).arr else q.ready) := by
  unfold Pln.brE
  rw [hb, if_neg h]
  unfold Pln.ndR Pln.nd
  by_cases e : 0 ≤ b.par
  · rw [if_pos e, if_neg (by omega), if_pos e]
  · rw [if_neg e, if_pos (by omega), if_neg e]

set_option maxRecDepth 100000 in
set_option maxHeartbeats 16000000 in
theorem rbranch_any (Aq : Option Addr) (cq : Nat) (Ac : Option Addr) (cc : Nat) (p : Pln) (q : Req) (Al : Option Addr) (cl : Nat) (l : List Br) (i : Nat) (w : World) (h : PlnRd w Aq cq Ac cc p) (hl : Rd EBr w Al l) (hm : l.length ≤ 16) (hcl : l.length ≤ cl) (hi : i < l.length) (hf : fineR p q = true) (hv : ∀ k, k < i → BrV p q l k) :
    Calls Tryz.prog 41 #[p.val Aq cq Ac cc, q.val, .slice Al l.length cl, .int .i64 i] w fun e w' => e = .returned (.int .i64 (p.brE q l i (p.mAt q l i))) ∧ Ext w w' := by
  obtain ⟨W, hW, hB, hk, hk2, hlt, hlt2⟩ := box2 w #[.slice Aq p.quo.length cq, .slice Ac p.cons.length cc] q.cells 25 31
  simp only [Req.cells] at hW hk2
  have V := vt_take hf hm hv (Nat.le_of_lt hi)
  have hr := V.req
  have hok := Pln.ok_of (fineR_of hf).1
  have hlen : (l.take i).length = i := by rw [List.length_take]; omega
  have hgb := gbr_get hi
  have hbeg := fun (x : Int) (h0 : 0 ≤ x) (h1 : x < 16) => fnd_iff V h0 h1
  rw [hlen, mAt_take (Nat.le_of_lt hi)] at hbeg
  have hfi := fun x w h hl' => rfind_any Aq cq Ac cc p q Al cl (l.take i) x w h hl' (by omega) (fun k hk => by have b := V.br k hk; exact ⟨b.con0, b.con1⟩)
  rw [hlen] at hfi
  have hno := fun j w h hl' hj => rnode_any Aq cq Ac cc p q Al cl l j w h hl' (by omega) hj
  have hin : ∀ k, k < i → InB p (gbr l k) := fun k hk => ⟨(hv k hk).con0, (hv k hk).con1⟩
  have hcm := h.cm
  have hqm := h.qm
  obtain ⟨bl, ol, rfl, hbl, g0, g1, g2, g3, g4⟩ := (hl.ext hB).br hi
  have hrd := h.ext hB
  have hl1 := hl.ext hB
  have HV2 := Lib.hid (fun h => brE_2 (p := p) (q := q) (at_ := p.mAt q l i) hgb h)
  have HVT := Lib.hid (fun h => brE_t (p := p) (q := q) (at_ := p.mAt q l i) hgb h)
  generalize l[i] = b at *
  clear hgb
  obtain ⟨W1, hW1, hB1, hk1, hlt1⟩ := box1 W #[.int .i64 b.con, .int .i64 b.beg, .int .i64 b.en, .int .i64 b.arr, .int .i64 b.par] 57
  have s1 := (hk.ext hB1).cell
  have s2 := (hk.ext hB1).lt
  have s3 := (hk2.ext hB1).cell
  have s4 := (hk2.ext hB1).lt
  have s5 := hk1.cell
  have s6 := hk1.lt
  unfold Pln.val Req.val at hfi hno ⊢
  by_cases hA : b.par < -1 ∨ (i : Int) ≤ b.par ∨ b.con < 0 ∨ (p.cons.length : Int) ≤ b.con
  case' pos =>
    have HV := Lib.hid (HV2.out hA)
    have hw2 : b.par < -1 ∨ (-1 ≤ b.par ∧ (i : Int) ≤ b.par) ∨ (-1 ≤ b.par ∧ b.par < (i : Int) ∧ b.con < 0) ∨ (-1 ≤ b.par ∧ b.par < (i : Int) ∧ 0 ≤ b.con ∧ (p.cons.length : Int) ≤ b.con) := by omega
    clear hA
    rcases hw2 with a1 | ⟨a1, a2⟩ | ⟨a1, a2, a3⟩ | ⟨a1, a2, a3, a4⟩
    all_goals
      go_enter Tryz.func41, Tryz.ntmps41
      go_wp2_with fail
      clear hW hW1
      go_wp2
      go_ret
      exact ⟨by rw [HV.out]; rfl, hB.trans hB1⟩
  replace HVT := Lib.hid (HVT.out hA)
  have a1 : -1 ≤ b.par := by omega
  have a2 : b.par < (i : Int) := by omega
  have a3 : 0 ≤ b.con := by omega
  have a4 : b.con < (p.cons.length : Int) := by omega
  clear hA HV2
  have hcl2 : b.con.toNat < p.cons.length := by omega
  obtain ⟨bc, oc, rfl, hbc, z0, z1, z2, z3, z4, z5, z6⟩ := ((h.c.ext hB).ext hB1).con hcl2
  have hgc := gc_get hcl2
  have hc := hok.con _ (List.getElem_mem hcl2)
  rw [hgc] at HVT
  generalize p.cons[b.con.toNat] = c at *
  obtain ⟨hcok, hc1, hc2⟩ := hc
  have hd0 := hcok.dst0
  have hnode := fun w' (hw' : Ext W w') => hno b.par w' (hrd.ext hw') (hl1.ext hw') (by
    by_cases e : b.par = -1
    · exact .inl e
    · exact .inr ⟨by omega, by omega, hin _ (by omega)⟩)
  have hdur := Con.dur_bd hcok (show 1 ≤ q.size by omega) (show q.size ≤ 65536 by omega)
  have hiff := hbeg c.dst hd0 (by omega)
  have Hiff := Lib.hid hiff
  clear hbeg hno hiff hgc V hv hin
  obtain ⟨W2, hW2, hB2, hk3, hlt3⟩ := box1 W1 #[.int .i64 c.src, .int .i64 c.dst, .int .i64 c.st, .int .i64 c.en, .int .i64 c.rate, .int .i64 c.rng, .int .i64 c.loss] 67
  have hx2 : Ext W W2 := hB1.trans hB2
  have t1 := ((hk.ext hB1).ext hB2).cell
  have t2 := ((hk.ext hB1).ext hB2).lt
  have t3 := ((hk2.ext hB1).ext hB2).cell
  have t4 := ((hk2.ext hB1).ext hB2).lt
  have t5 := (hk1.ext hB2).cell
  have t6 := (hk1.ext hB2).lt
  have t7 := hk3.cell
  have t8 := hk3.lt
  have eN : ((b.con.toNat : Nat) : Int) = b.con := by omega
  have eP : 0 ≤ b.par → ((b.par.toNat : Nat) : Int) = b.par := fun h => by omega
  go_enter Tryz.func41, Tryz.ntmps41
  go_wp2_with fail
  clear hW hW1 hW2 s1 s2 s3 s4 s5 s6
  have hN := Near.refl W2
  have hC := hN.2
  have hnA := fun d os => hnode (Sort.grow (redrawn W2 d) os) (hx2.trans (below_regrown W2 d os))
  have hq := quiet_near hN
  refine wp_region_quiet_below (by kernel_rfl) (by kernel_rfl) ?_
  repeat (first | go_big_quiet_skip | (go_big_quiet_want; go_big_quiet_op; first | go_big_quiet_on | (apply Exists.intro; refine ⟨fun _ => ?_, ?_⟩; (focus (first | (go_at_call 40; with_reducible exact Calls.regrown_of (hnA _ _)))); go_big_quiet_on)))
  refine wpQuiet_nil ?_
  intro w1 hw1
  clear hq
  replace hw1 := quiet_ext hw1
  replace hN := hN.step hw1
  have hC := hN.2
  clear hnA hnode
  generalize hnd : p.ndR q l b.par = nd at *
  have hx3 : Ext W w1 := hx2.trans hN.1
  have hwx : Ext w w1 := hB.trans hx3
  obtain ⟨rdy, hrdy⟩ : ∃ r, (if 0 ≤ b.par then (gbr l b.par.toNat).arr else q.ready) = r := ⟨_, rfl⟩
  rw [hrdy] at HVT
  have Hrdy := Lib.hid hrdy
  clear hrdy hnd
  by_cases e1 : c.src = nd
  case' neg =>
    have HV := Lib.hid (HVT.out.trans (show brT c q b (p.mAt q l i) nd rdy = 10 by unfold brT; rw [if_neg e1]))
    have dd : (c.src != nd) = true := by simpa using e1
    clear e1
    go_wp2
    go_ret
    exact ⟨by rw [HV.out]; rfl, hwx⟩
  have E1 := Lib.hid e1
  have dd1 : (c.src != nd) = false := by simpa using e1
  clear e1
  obtain ⟨j0, hj0, hy0, hy1, hy2⟩ := info_parts info_br
  have hct1 : ∀ w, (Instr.slice 34 (.slice (some ⟨bl, ol, none⟩) l.length cl) none (some (.int .i64 (i : Int))) none).run Tryz.prog w = .ok (.slice (some ⟨bl, ol, none⟩) i cl) w := fun w => run_take Tryz.underlying34 hj0 (by omega) w
  have hct2 : ∀ w, (Instr.sliceAt 34 (.slice (some ⟨bl, ol, none⟩) l.length cl) none (some (.int .i64 (i : Int))) none).run Tryz.prog w = .ok (.slice (some ⟨bl, ol, none⟩) i cl) w := fun w => run_takeAt Tryz.underlying34 hj0 (by omega) w
  have hfA := fun d os => hfi c.dst (Sort.grow (redrawn w1 d) os) (hrd.ext (hx3.trans (below_regrown w1 d os))) ((hl1.ext (hx3.trans (below_regrown w1 d os))).take i)
  have hi2 : (i : Int) ≤ (l.length : Int) := by omega
  have hi3 : (i : Int) ≤ (cl : Int) := by omega
  go_wp2_with fail
  have hq := quiet_near hN
  refine wp_region_quiet_below (by kernel_rfl) (by kernel_rfl) ?_
  repeat (first | go_big_quiet_skip | (go_big_quiet_want; go_big_quiet_op; first | go_big_quiet_on | (apply Exists.intro; refine ⟨fun _ => ?_, ?_⟩; (focus (first | (go_at_call 34; with_reducible exact Calls.regrown_of (hfA _ _)))); go_big_quiet_on)))
  refine wpQuiet_nil ?_
  intro w1 hw1
  clear hq
  replace hw1 := quiet_ext hw1
  replace hN := hN.step hw1
  have hC := hN.2
  clear hfA hct1 hct2
  have hx4 : Ext W w1 := hx2.trans hN.1
  have hwx4 : Ext w w1 := hB.trans hx4
  obtain ⟨fx, hfx⟩ : ∃ fx, p.fnd q (l.take i) c.dst = fx := ⟨_, rfl⟩
  rw [hfx] at Hiff ⊢
  clear hfx
  by_cases e2 : fx = -2
  case' neg =>
    have HV := Lib.hid (HVT.out.trans (show brT c q b (p.mAt q l i) nd rdy = 6 by unfold brT; rw [if_pos E1.out, if_pos (Hiff.out.2 e2)]))
    have dd : (fx != -2) = true := by simpa using e2
    clear e2
    go_wp2
    go_ret
    exact ⟨by rw [HV.out]; rfl, hwx4⟩
  have E2 := Lib.hid (show ¬ 0 ≤ gi (p.mAt q l i) c.dst from fun h => Hiff.out.1 h e2)
  have dd2 : (fx != -2) = false := by simpa using e2
  clear e2 Hiff hfi
  by_cases hp : 0 ≤ b.par
  case pos =>
    have hpl : b.par.toNat < l.length := by omega
    obtain ⟨bl2, ol2, hA2, hbl2, f0, f1, f2, f3, f4⟩ := (hl1.ext hx4).br hpl
    injection hA2 with hA2
    injection hA2 with hA2 hA3
    subst hA2 hA3
    have hr1 := Hrdy.out
    rw [if_pos hp, gbr_get hpl] at hr1
    rw [hr1] at f3
    have dp : decide (0 ≤ b.par) = true := decide_eq_true hp
    have eP2 := eP hp
    have dp2 : b.par < (l.length : Int) := by omega
    clear hr1
    have hfit0 := rFits_any c b.beg q.size
    unfold Con.val at hfit0
    rw [fitsR_ok (b := b.beg) hcok (show 1 ≤ q.size ∧ q.size ≤ 65536 by omega)] at hfit0
    by_cases e3 : b.beg < rdy
    · have HV := Lib.hid (HVT.out.trans (show brT c q b (p.mAt q l i) nd rdy = 9 by unfold brT; rw [if_pos E1.out, if_neg (by have := E2.out; omega), if_pos e3]))
      have dd : decide (b.beg < rdy) = true := decide_eq_true e3
      clear e3
      go_wp2
      go_ret
      exact ⟨by rw [HV.out]; rfl, hwx4⟩
    have E3 := Lib.hid e3
    have dd3 : decide (b.beg < rdy) = false := decide_eq_false e3
    clear e3
    go_wp2_with fail
    refine (hfit0 _).mono ?_
    clear hfit0
    rintro e w5 ⟨rfl, hb5⟩
    have hwx5 := hwx4.trans hb5
    replace hN := hN.step hb5
    replace hC := hN.2
    cases hfb : c.fitsB b.beg q.size
    · have HV := Lib.hid (HVT.out.trans (show brT c q b (p.mAt q l i) nd rdy = 16 by unfold brT; rw [if_pos E1.out, if_neg (by have := E2.out; omega), if_neg (by have := E3.out; omega), if_pos (by rw [atE_unfitZ hcok ⟨by omega, by omega⟩ hfb]; decide)]))
      clear hfb
      go_wp2
      go_ret
      exact ⟨by rw [HV.out]; rfl, hwx5⟩
    obtain ⟨hat, hart⟩ := atE_fitZ (b := b.beg) (n := q.size) hcok ⟨by omega, by omega⟩ hfb
    have hfb2 := of_decide_eq_true hfb
    have HT := Lib.hid (show brT c q b (p.mAt q l i) nd rdy = if ¬ (b.arr = b.beg + c.dur q.size + c.rng ∧ b.en = b.beg + c.dur q.size + c.rng - c.rng) then 1 else if q.dead < b.beg + c.dur q.size + c.rng then 16 else 0 by
      unfold brT; rw [if_pos E1.out, if_neg (by have := E2.out; omega), if_neg (by have := E3.out; omega), if_neg (fun h => h hat), hart])
    have hen1 := hcok.en1
    have hst0 := hcok.st0
    have hrng0 := hcok.rng0
    have hw1 : IntKind.i64.wrap (b.beg + c.dur q.size) = b.beg + c.dur q.size := IntWalk.i64_in _ (by omega)
    have hw2 : IntKind.i64.wrap (b.beg + c.dur q.size + c.rng) = b.beg + c.dur q.size + c.rng := IntWalk.i64_in _ (by omega)
    have hLn := fun w => rdur_any c q.size w hcok ⟨by omega, by omega⟩
    unfold Con.val at hLn
    clear hfb hfb2 hat hart
    obtain ⟨D, hD⟩ : ∃ D, c.dur q.size = D := ⟨_, rfl⟩
    rw [hD] at HT hw1 hw2 hLn
    clear hD hdur
    go_wp2_with fail
    have hq := quiet_near hN
    refine wp_region_quiet_below (by kernel_rfl) (by kernel_rfl) ?_
    repeat (first | go_big_quiet_skip | (go_big_quiet_want; go_big_quiet_op; first | go_big_quiet_on | (apply Exists.intro; refine ⟨fun _ => ?_, ?_⟩; (focus (first | (go_at_call 65; exact Calls.regrown_of (hLn _)))); go_big_quiet_on)))
    refine wpQuiet_nil ?_
    intro w1 hw1
    clear hq
    replace hw1 := quiet_ext hw1
    replace hN := hN.step hw1
    have hC := hN.2
    have hwx6 : Ext w w1 := hB.trans (hx2.trans hN.1)
    by_cases e5 : b.en = b.beg + D
    case' neg =>
      have HV := Lib.hid ((HVT.out.trans HT.out).trans (if_pos (fun h => e5 (by omega))))
      have dd5 : (b.en != b.beg + D) = true := by simpa using e5
      clear e5
      go_wp2
      go_ret
      exact ⟨by rw [HV.out]; rfl, hwx6⟩
    by_cases e6 : b.arr = b.beg + D + c.rng
    case' neg =>
      have HV := Lib.hid ((HVT.out.trans HT.out).trans (if_pos (fun h => e6 h.1)))
      have dd5 : (b.en != b.beg + D) = false := by simpa using e5
      have dd6 : (b.arr != b.beg + D + c.rng) = true := by simpa using e6
      clear e5 e6
      go_wp2
      go_ret
      exact ⟨by rw [HV.out]; rfl, hwx6⟩
    have HT2 := Lib.hid ((HVT.out.trans HT.out).trans (if_neg (fun h => h ⟨e6, by omega⟩)))
    have dd5 : (b.en != b.beg + D) = false := by simpa using e5
    have dd6 : (b.arr != b.beg + D + c.rng) = false := by simpa using e6
    by_cases e7 : q.dead < b.arr
    · have HV := Lib.hid (HT2.out.trans (if_pos (by omega)))
      have dd7 : decide (q.dead < b.arr) = true := decide_eq_true e7
      clear e5 e6 e7
      go_wp2
      go_ret
      exact ⟨by rw [HV.out]; rfl, hwx6⟩
    · have HV := Lib.hid (HT2.out.trans (if_neg (by omega)))
      have dd7 : decide (q.dead < b.arr) = false := decide_eq_false e7
      clear e5 e6 e7
      go_wp2
      go_ret
      exact ⟨by rw [HV.out]; rfl, hwx6⟩
  case neg =>
    have hr1 := Hrdy.out
    rw [if_neg hp] at hr1
    subst hr1
    have dp : decide (0 ≤ b.par) = false := decide_eq_false hp
    have hfit0 := rFits_any c b.beg q.size
    unfold Con.val at hfit0
    rw [fitsR_ok (b := b.beg) hcok (show 1 ≤ q.size ∧ q.size ≤ 65536 by omega)] at hfit0
    by_cases e3 : b.beg < q.ready
    · have HV := Lib.hid (HVT.out.trans (show brT c q b (p.mAt q l i) nd q.ready = 9 by unfold brT; rw [if_pos E1.out, if_neg (by have := E2.out; omega), if_pos e3]))
      have dd : decide (b.beg < q.ready) = true := decide_eq_true e3
      clear e3
      go_wp2
      go_ret
      exact ⟨by rw [HV.out]; rfl, hwx4⟩
    have E3 := Lib.hid e3
    have dd3 : decide (b.beg < q.ready) = false := decide_eq_false e3
    clear e3
    go_wp2_with fail
    refine (hfit0 _).mono ?_
    clear hfit0
    rintro e w5 ⟨rfl, hb5⟩
    have hwx5 := hwx4.trans hb5
    replace hN := hN.step hb5
    replace hC := hN.2
    cases hfb : c.fitsB b.beg q.size
    · have HV := Lib.hid (HVT.out.trans (show brT c q b (p.mAt q l i) nd q.ready = 16 by unfold brT; rw [if_pos E1.out, if_neg (by have := E2.out; omega), if_neg (by have := E3.out; omega), if_pos (by rw [atE_unfitZ hcok ⟨by omega, by omega⟩ hfb]; decide)]))
      clear hfb
      go_wp2
      go_ret
      exact ⟨by rw [HV.out]; rfl, hwx5⟩
    obtain ⟨hat, hart⟩ := atE_fitZ (b := b.beg) (n := q.size) hcok ⟨by omega, by omega⟩ hfb
    have hfb2 := of_decide_eq_true hfb
    have HT := Lib.hid (show brT c q b (p.mAt q l i) nd q.ready = if ¬ (b.arr = b.beg + c.dur q.size + c.rng ∧ b.en = b.beg + c.dur q.size + c.rng - c.rng) then 1 else if q.dead < b.beg + c.dur q.size + c.rng then 16 else 0 by
      unfold brT; rw [if_pos E1.out, if_neg (by have := E2.out; omega), if_neg (by have := E3.out; omega), if_neg (fun h => h hat), hart])
    have hen1 := hcok.en1
    have hst0 := hcok.st0
    have hrng0 := hcok.rng0
    have hw1 : IntKind.i64.wrap (b.beg + c.dur q.size) = b.beg + c.dur q.size := IntWalk.i64_in _ (by omega)
    have hw2 : IntKind.i64.wrap (b.beg + c.dur q.size + c.rng) = b.beg + c.dur q.size + c.rng := IntWalk.i64_in _ (by omega)
    have hLn := fun w => rdur_any c q.size w hcok ⟨by omega, by omega⟩
    unfold Con.val at hLn
    clear hfb hfb2 hat hart
    obtain ⟨D, hD⟩ : ∃ D, c.dur q.size = D := ⟨_, rfl⟩
    rw [hD] at HT hw1 hw2 hLn
    clear hD hdur
    go_wp2_with fail
    have hq := quiet_near hN
    refine wp_region_quiet_below (by kernel_rfl) (by kernel_rfl) ?_
    repeat (first | go_big_quiet_skip | (go_big_quiet_want; go_big_quiet_op; first | go_big_quiet_on | (apply Exists.intro; refine ⟨fun _ => ?_, ?_⟩; (focus (first | (go_at_call 65; exact Calls.regrown_of (hLn _)))); go_big_quiet_on)))
    refine wpQuiet_nil ?_
    intro w1 hw1
    clear hq
    replace hw1 := quiet_ext hw1
    replace hN := hN.step hw1
    have hC := hN.2
    have hwx6 : Ext w w1 := hB.trans (hx2.trans hN.1)
    by_cases e5 : b.en = b.beg + D
    case' neg =>
      have HV := Lib.hid ((HVT.out.trans HT.out).trans (if_pos (fun h => e5 (by omega))))
      have dd5 : (b.en != b.beg + D) = true := by simpa using e5
      clear e5
      go_wp2
      go_ret
      exact ⟨by rw [HV.out]; rfl, hwx6⟩
    by_cases e6 : b.arr = b.beg + D + c.rng
    case' neg =>
      have HV := Lib.hid ((HVT.out.trans HT.out).trans (if_pos (fun h => e6 h.1)))
      have dd5 : (b.en != b.beg + D) = false := by simpa using e5
      have dd6 : (b.arr != b.beg + D + c.rng) = true := by simpa using e6
      clear e5 e6
      go_wp2
      go_ret
      exact ⟨by rw [HV.out]; rfl, hwx6⟩
    have HT2 := Lib.hid ((HVT.out.trans HT.out).trans (if_neg (fun h => h ⟨e6, by omega⟩)))
    have dd5 : (b.en != b.beg + D) = false := by simpa using e5
    have dd6 : (b.arr != b.beg + D + c.rng) = false := by simpa using e6
    by_cases e7 : q.dead < b.arr
    · have HV := Lib.hid (HT2.out.trans (if_pos (by omega)))
      have dd7 : decide (q.dead < b.arr) = true := decide_eq_true e7
      clear e5 e6 e7
      go_wp2
      go_ret
      exact ⟨by rw [HV.out]; rfl, hwx6⟩
    · have HV := Lib.hid (HT2.out.trans (if_neg (by omega)))
      have dd7 : decide (q.dead < b.arr) = false := decide_eq_false e7
      clear e5 e6 e7
      go_wp2
      go_ret
      exact ⟨by rw [HV.out]; rfl, hwx6⟩

end Go.Proofs.YtbgdglcnminbaaaGreat
