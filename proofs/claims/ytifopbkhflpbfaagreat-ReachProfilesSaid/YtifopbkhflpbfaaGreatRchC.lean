
/- Layer 26 (reach): the reference's check. -/
import Derived.Test.YtifopbkhflpbfaaGreatRchG
import Derived.Test.YtifopbkhflpbfaaGreatPlnW2
namespace Go.Proofs.YtifopbkhflpbfaaGreat
set_option linter.unusedVariables false
set_option linter.unusedSimpArgs false
open Go.RowKit Go.Shelf

set_option maxRecDepth 100000 in
set_option maxHeartbeats 4000000 in
theorem rcheck26_any (Aq : Option Addr) (cq : Nat) (Ac : Option Addr) (cc : Nat) (p : Pln) (n : Int) (An : Option Addr) (cn : Nat) (nodes : List Int) (w : World) (h : PlnRd w Aq cq Ac cc p) (hn : Rd EInt w An nodes) (hnl : nodes.length ≤ 1000) :
    Calls Tryz.prog 19 #[p.val Aq cq Ac cc, .int .i64 n, .slice An nodes.length cn] w fun e w' => e = .returned (.int .i64 (p.rv n nodes)) ∧ Ext w w' := by
  obtain ⟨W, hW, hB, hk, hlt⟩ := box1 w #[.slice Aq p.quo.length cq, .slice Ac p.cons.length cc] 25
  have hc := hk.cell
  have hqm := h.qm
  have hpc := rpcheck_any Aq cq Ac cc p W (h.ext hB)
  by_cases h0 : p.chk = 0
  · rw [h0] at hpc
    have HR := Lib.hid (show p.rv n nodes = if p.argR n nodes then 0 else 2 by unfold Pln.rv; rw [if_pos h0])
    clear h0
    unfold Pln.argR at HR
    unfold Pln.val at hpc ⊢
    go_enter Tryz.func19, Tryz.ntmps19
    go_wp2_with fail
    clear hW
    refine hpc.mono ?_
    clear hpc hc
    rintro e w1 ⟨rfl, hb1⟩
    go_wp2_with fail
    go_loopg [7] nodes.length (fun q k wr => ∃ (j : Nat), j + q = nodes.length ∧ k = .int .i64 j ∧ Hid (∀ x ∈ nodes.take j, 0 ≤ x ∧ x < p.quo.length) ∧ Ext w1 wr)
    case atStart => exact ⟨0, by omega, rfl, Lib.hid (by simp), Ext.refl _⟩
    case round =>
      obtain ⟨j, hjq, rfl, hm, hx⟩ := hrel
      have Hjq := Lib.hid hjq
      have hjN : j ≤ nodes.length := by omega
      clear hjq
      have kr := (hk.ext hb1).ext hx
      have hc := kr.cell
      have hlr := kr.lt
      have hE := (hB.trans hb1).trans hx
      by_cases hlt2 : j < nodes.length
      · obtain ⟨b, o, rfl, hbl, hcj⟩ := (hn.ext hE).int hlt2
        generalize hye : nodes[j] = y at *
        have hmem : y ∈ nodes := hye ▸ List.getElem_mem hlt2
        have htk : nodes.take (j + 1) = nodes.take j ++ [y] := by rw [List.take_add_one, List.getElem?_eq_getElem hlt2, hye]; rfl
        have Hmem := Lib.hid hmem
        have Htk := Lib.hid htk
        have hN := Near.refl wr
        clear hye hmem htk
        by_cases a1 : y < 0
        · have d1 : decide (y < 0) = true := decide_eq_true a1
          have HV := Lib.hid (show p.rv n nodes = 2 by rw [HR.out, if_neg]; simp only [decide_eq_true_eq]; intro hh; have := hh.2.2 y Hmem.out; omega)
          clear a1
          go_wp2
          have hq := quiet_near hN
          refine wp_region_quiet_below (by kernel_rfl) (by kernel_rfl) ?_
          repeat (first | go_big_quiet_skip | (go_big_quiet_want; go_big_quiet_op; first | go_big_quiet_on | (apply Exists.intro; refine ⟨fun _ => ?_, ?_⟩; (focus (first | fail)); go_big_quiet_on)))
          refine wpQuiet_nil ?_
          intro w1 hw1
          clear hq
          replace hw1 := quiet_ext hw1
          replace hN := hN.step hw1
          have hC := hN.2
          go_wp2
          go_ret
          exact ⟨by rw [HV.out]; rfl, hE.trans hN.1⟩
        · have d1 : decide (y < 0) = false := decide_eq_false a1
          by_cases a2 : (p.quo.length : Int) ≤ y
          · have d2 : decide ((p.quo.length : Int) ≤ y) = true := decide_eq_true a2
            have HV := Lib.hid (show p.rv n nodes = 2 by rw [HR.out, if_neg]; simp only [decide_eq_true_eq]; intro hh; have := hh.2.2 y Hmem.out; omega)
            clear a1 a2
            go_wp2
            have hq := quiet_near hN
            refine wp_region_quiet_below (by kernel_rfl) (by kernel_rfl) ?_
            repeat (first | go_big_quiet_skip | (go_big_quiet_want; go_big_quiet_op; first | go_big_quiet_on | (apply Exists.intro; refine ⟨fun _ => ?_, ?_⟩; (focus (first | fail)); go_big_quiet_on)))
            refine wpQuiet_nil ?_
            intro w1 hw1
            clear hq
            replace hw1 := quiet_ext hw1
            replace hN := hN.step hw1
            have hC := hN.2
            go_wp2
            go_ret
            exact ⟨by rw [HV.out]; rfl, hE.trans hN.1⟩
          · have d2 : decide ((p.quo.length : Int) ≤ y) = false := decide_eq_false a2
            have HV := Lib.hid (show 0 ≤ y ∧ y < p.quo.length by omega)
            clear a1 a2
            go_wp2
            have hq := quiet_near hN
            refine wp_region_quiet_below (by kernel_rfl) (by kernel_rfl) ?_
            repeat (first | go_big_quiet_skip | (go_big_quiet_want; go_big_quiet_op; first | go_big_quiet_on | (apply Exists.intro; refine ⟨fun _ => ?_, ?_⟩; (focus (first | fail)); go_big_quiet_on)))
            refine wpQuiet_nil ?_
            intro w1 hw1
            clear hq
            replace hw1 := quiet_ext hw1
            replace hN := hN.step hw1
            have hC := hN.2
            go_wp2
            go_roundg (gk - 1)
            case measure => have := Hjq.out; omega
            case rel =>
              refine ⟨j + 1, by have := Hjq.out; omega, by go_num, Lib.hid (fun x hx => ?_), hx.trans hN.1⟩
              rw [Htk.out] at hx
              rcases List.mem_append.1 hx with hx | hx
              · exact hm.out x hx
              · rw [List.mem_singleton.1 hx]; exact HV.out
      · have he : j = nodes.length := by omega
        subst he
        have hm2 := hm.out
        rw [List.take_of_length_le (Nat.le_refl _)] at hm2
        have Hm2 := Lib.hid hm2
        clear hm2 hm
        by_cases a1 : n < 1
        · have d1 : decide (n < 1) = true := decide_eq_true a1
          have HV := Lib.hid (show p.rv n nodes = 2 by rw [HR.out, if_neg]; simp only [decide_eq_true_eq]; omega)
          clear a1
          go_wp2
          go_ret
          exact ⟨by rw [HV.out]; rfl, hE⟩
        · have d1 : decide (n < 1) = false := decide_eq_false a1
          by_cases a2 : 65536 < n
          · have d2 : decide (65536 < n) = true := decide_eq_true a2
            have HV := Lib.hid (show p.rv n nodes = 2 by rw [HR.out, if_neg]; simp only [decide_eq_true_eq]; omega)
            clear a1 a2
            go_wp2
            go_ret
            exact ⟨by rw [HV.out]; rfl, hE⟩
          · have d2 : decide (65536 < n) = false := decide_eq_false a2
            have HV := Lib.hid (show p.rv n nodes = 0 by rw [HR.out, if_pos]; simp only [decide_eq_true_eq]; exact ⟨by omega, by omega, Hm2.out⟩)
            clear a1 a2
            go_wp2
            go_ret
            exact ⟨by rw [HV.out]; rfl, hE⟩
  · have hd : (p.chk != 0) = true := by simpa using h0
    have Hr := Lib.hid (show p.rv n nodes = 1 by unfold Pln.rv; rw [if_neg h0])
    rw [Hr.out]
    clear h0
    unfold Pln.val at hpc ⊢
    go_enter Tryz.func19, Tryz.ntmps19
    go_wp2_with fail
    clear hW
    refine hpc.mono ?_
    rintro e w1 ⟨rfl, hb1⟩
    go_wp2
    go_ret
    exact ⟨rfl, hB.trans hb1⟩

end Go.Proofs.YtifopbkhflpbfaaGreat
