
/- Layer 22 (plan): the walk of the reference's Check, and of Great. -/
import Derived.Test.YtbgdglcnminbaaaGreatPlnW1
namespace Go.Proofs.YtbgdglcnminbaaaGreat
set_option linter.unusedVariables false
open Go.RowKit Go.Shelf

set_option maxRecDepth 100000 in
set_option maxHeartbeats 4000000 in
theorem rpcheck_any (Aq : Option Addr) (cq : Nat) (Ac : Option Addr) (cc : Nat) (p : Pln) (w : World) (h : PlnRd w Aq cq Ac cc p) :
    Calls Tryz.prog 56 #[p.val Aq cq Ac cc] w fun e w' => e = .returned (.int .i64 p.chk) ∧ Ext w w' := by
  obtain ⟨i0, hi0, hz0, hz1, hz2⟩ := info_parts info_con
  obtain ⟨hq, hcn, hqm, hcm, hqc, hcc⟩ := h
  obtain ⟨W, hW, hB, hk, hlt⟩ := box1 w #[.slice Aq p.quo.length cq, .slice Ac p.cons.length cc] 25
  cases hlim : p.lim
  · have hlim2 := hlim
    simp only [Pln.lim, Bool.or_eq_false_iff, decide_eq_false_iff_not] at hlim2
    obtain ⟨l1, l2, l3⟩ := hlim2
    have l1' : 1 ≤ p.quo.length := by omega
    have l2' : p.quo.length ≤ 16 := by omega
    have l3' : p.cons.length ≤ 64 := by omega
    have HL := Lib.hid (show p.chk = if p.quo.any quoB then 2 else Pln.chkC p.quo.length [] p.cons by unfold Pln.chk; rw [hlim]; rfl)
    clear hlim l1 l2 l3
    have hc := hk.cell
    have hl0 := hk.lt
    unfold Pln.val
    go_enter Tryz.func56, Tryz.ntmps56
    go_wp2
    clear hW
    go_loop [3] (fun i => ∃ k : Nat, k ≤ p.quo.length ∧ i = .int .i64 k ∧ Hid ((p.quo.take k).any quoB = false)) (fun i => p.quo.length - (intOf i).toNat)
    case atStart => exact ⟨0, Nat.zero_le _, rfl, Lib.hid rfl⟩
    case round =>
      obtain ⟨k, hkl, rfl, hno⟩ := hrel
      by_cases hlt : k < p.quo.length
      · obtain ⟨b, o, rfl, hb, c0⟩ := (hq.ext hB).int hlt
        generalize hxe : p.quo[k] = x at *
        have Hx := Lib.hid hxe
        clear hxe
        cases hbx : quoB x
        · have hbx2 := hbx
          simp only [quoB, Bool.or_eq_false_iff, decide_eq_false_iff_not] at hbx2
          obtain ⟨x0, x1⟩ := hbx2
          have x0' : 0 ≤ x := by omega
          have x1' : x ≤ 1073741824 := by omega
          have Hbx := Lib.hid hbx
          clear hbx x0 x1
          go_wp2
          go_round
          case rel => exact ⟨k + 1, by omega, by go_num, Lib.hid (any_step hlt Hx.out hno.out Hbx.out)⟩
          case measure => simp [intOf]; omega
        · have Hbx := Lib.hid hbx
          have e1 := Lib.hid (show p.chk = 2 by rw [HL.out, if_pos (any_hit hlt Hx.out Hbx.out)])
          simp only [quoB, Bool.or_eq_true, decide_eq_true_eq] at hbx
          rcases hbx with hx0 | hx1
          · go_wp2
            go_ret
            exact ⟨ret_i64 e1.out.symm, hB⟩
          · go_wp2
            go_ret
            exact ⟨ret_i64 e1.out.symm, hB⟩
      · have HL2 := Lib.hid (show p.chk = Pln.chkC p.quo.length [] p.cons by rw [HL.out, any_take_full hlt hno.out]; rfl)
        clear HL
        go_wp2
        go_loopw [4] (fun i wr => ∃ k : Nat, k ≤ p.cons.length ∧ i = .int .i64 k ∧ Hid (p.chk = Pln.chkC p.quo.length (p.cons.take k) (p.cons.drop k)) ∧ Ext W wr) (fun i _ => p.cons.length - (intOf i).toNat)
        case atStart => exact ⟨0, Nat.zero_le _, rfl, Lib.hid HL2.out, Ext.refl _⟩
        case round =>
          obtain ⟨k, hkl, rfl, hx, hN⟩ := hrel
          have hk2 := hk.ext hN
          have hc2 := hk2.cell
          have hl2 := hk2.lt
          by_cases hlt : k < p.cons.length
          · obtain ⟨b, o, rfl, hb, c0, c1, c2, c3, c4, c5, c6⟩ := ((hcn.ext hB).ext hN).con hlt
            have hst := Pln.chkC_step (n := p.quo.length) hlt rfl
            generalize hye : p.cons[k] = y at *
            have Hy := Lib.hid hye
            have Hst := Lib.hid hst
            clear hye hst
            go_wp2_with fail
            obtain ⟨W3, hW3, hB3, hk3, hlt3⟩ := box1 wr y.cells 67
            simp only [Con.cells] at hW3 hk3
            rw [hW3]
            clear hW3
            refine (rcheck_any y W3).mono ?_
            rintro e w4 ⟨rfl, hb4⟩
            have hE4 := (hN.trans hB3).trans hb4
            have hk4 := hk3.ext hb4
            have hc4 := hk4.cell
            have hl4 := hk4.lt
            have hk5 := hk.ext hE4
            have hc5 := hk5.cell
            have hl5 := hk5.lt
            by_cases h0 : y.check = 0
            · rw [h0]
              have Ho := (Con.check_iff y).1 h0
              have H0 := Lib.hid h0
              clear h0
              by_cases hn1 : (p.quo.length : Int) ≤ y.src
              · go_wp2
                go_ret
                exact ⟨ret_i64 (by rw [hx.out, Hst.out, if_pos H0.out, if_pos (.inl hn1)]), hB.trans hE4⟩
              · by_cases hn2 : (p.quo.length : Int) ≤ y.dst
                · go_wp2
                  go_ret
                  exact ⟨ret_i64 (by rw [hx.out, Hst.out, if_pos H0.out, if_pos (.inr hn2)]), hB.trans hE4⟩
                · have hs1 : y.src < p.quo.length := by omega
                  have hs2 : y.dst < p.quo.length := by omega
                  have hnn : ¬ ((p.quo.length : Int) ≤ y.src ∨ (p.quo.length : Int) ≤ y.dst) := by omega
                  have Hnn := Lib.hid hnn
                  clear hnn hn1 hn2 hc2 hl2 c0 c1 c2 c3 c4 c5 c6
                  go_wp2
                  obtain ⟨wo, rfl⟩ : ∃ wo : World, wo = w4 := ⟨_, rfl⟩
                  go_loopw [7] (fun j wl => ∃ m : Nat, m ≤ k ∧ j = .int .i64 m ∧ Hid ((p.cons.take m).any (fun d => y.overlapB d) = false) ∧ Ext wo wl) (fun j _ => k - (intOf j).toNat)
                  case atStart => exact ⟨0, Nat.zero_le _, rfl, Lib.hid rfl, Ext.refl _⟩
                  case round =>
                    obtain ⟨m, hmk, rfl, hov, hN9⟩ := hrel
                    by_cases hmlt : m < k
                    · obtain ⟨b', o', e', hb', d0, d1, d2, d3, d4, d5, d6⟩ := ((hcn.ext hB).ext (hE4.trans hN9)).con (show m < p.cons.length by omega)
                      injection e' with e'
                      injection e' with e1 e2 _
                      subst e1 e2
                      generalize hze : p.cons[m]'(by omega) = z at *
                      have Hz := Lib.hid hze
                      clear hze
                      have hk6 := hk4.ext hN9
                      have hc6 := hk6.cell
                      have hl6 := hk6.lt
                      have hk7 := hk5.ext hN9
                      have hc7 := hk7.cell
                      have hl7 := hk7.lt
                      have hcomm := Lib.hid (overlap_comm z y)
                      have hN := Near.refl wr
                      cases hzy : z.overlapB y
                      · have Hzy := Lib.hid hzy
                        have hov9 := fun w => rOverlap_any z y w
                        simp only [hzy] at hov9
                        clear hzy
                        unfold Con.val at hov9
                        go_wp2
                        have hq := quiet_near hN
                        refine wp_region_quiet_below (by kernel_rfl) (by kernel_rfl) ?_
                        repeat (first | go_big_quiet_skip | (go_big_quiet_want; go_big_quiet_op; first | go_big_quiet_on | (apply Exists.intro; refine ⟨fun _ => ?_, ?_⟩; (focus (first | (go_at_call 80; exact Calls.regrown_of (hov9 _)))); go_big_quiet_on)))
                        refine wpQuiet_nil ?_
                        intro w1 hw1
                        clear hq
                        replace hw1 := quiet_ext hw1
                        replace hN := hN.step hw1
                        have hC := hN.2
                        go_wp2
                        exact ⟨⟨m + 1, by omega, by go_num, Lib.hid (any_step (show m < p.cons.length by omega) Hz.out hov.out (by rw [← hcomm.out]; exact Hzy.out)), hN9.trans hN.1⟩, by simp [intOf]; omega⟩
                      · have Hzy := Lib.hid hzy
                        have hov9 := fun w => rOverlap_any z y w
                        simp only [hzy] at hov9
                        clear hzy
                        unfold Con.val at hov9
                        go_wp2
                        have hq := quiet_near hN
                        refine wp_region_quiet_below (by kernel_rfl) (by kernel_rfl) ?_
                        repeat (first | go_big_quiet_skip | (go_big_quiet_want; go_big_quiet_op; first | go_big_quiet_on | (apply Exists.intro; refine ⟨fun _ => ?_, ?_⟩; (focus (first | (go_at_call 80; exact Calls.regrown_of (hov9 _)))); go_big_quiet_on)))
                        refine wpQuiet_nil ?_
                        intro w1 hw1
                        clear hq
                        replace hw1 := quiet_ext hw1
                        replace hN := hN.step hw1
                        have hC := hN.2
                        go_wp2
                        go_ret
                        have h7 : (p.cons.take k).any (fun d => y.overlapB d) = true := List.any_eq_true.2 ⟨z, by rw [List.mem_take_iff_getElem]; exact ⟨m, by omega, Hz.out⟩, by rw [← hcomm.out]; exact Hzy.out⟩
                        exact ⟨ret_i64 (by rw [hx.out, Hst.out, if_pos H0.out, if_neg Hnn.out, h7]; rfl), (hB.trans hE4).trans (hN9.trans hN.1)⟩
                    · have hmk2 : m = k := by omega
                      subst hmk2
                      have hk7 := hk5.ext hN9
                      have hc7 := hk7.cell
                      have hl7 := hk7.lt
                      go_wp2
                      exact ⟨⟨m + 1, by omega, by go_num, Lib.hid (by rw [hx.out, Hst.out, if_pos H0.out, if_neg Hnn.out, hov.out]; rfl), hE4.trans hN9⟩, by simp [intOf]; omega⟩
            · have hd0 : (y.check != 0) = true := by simpa using h0
              have H0 := Lib.hid h0
              clear h0
              go_wp2
              go_ret
              exact ⟨ret_i64 (by rw [hx.out, Hst.out, if_neg H0.out]), hB.trans hE4⟩
          · go_wp2
            go_ret
            exact ⟨ret_i64 (by rw [hx.out, drop_full hlt]; rfl), hB.trans hN⟩
  · have HL := Lib.hid (show p.chk = 4 by unfold Pln.chk; rw [hlim]; rfl)
    simp only [Pln.lim, Bool.or_eq_true, decide_eq_true_eq] at hlim
    have hc := hk.cell
    have hl0 := hk.lt
    unfold Pln.val
    rcases hlim with h1 | h1 | h1
    all_goals
      go_enter Tryz.func56, Tryz.ntmps56
      go_wp2
      all_goals go_ret
      all_goals exact ⟨ret_i64 HL.out.symm, hB⟩

def Pln.great (p : Pln) : Bool := decide (20 < p.quo.length) || ((decide (12 < p.cons.length) && decide (p.cons.length ≤ 64)) || decide (70 < p.cons.length))

end Go.Proofs.YtbgdglcnminbaaaGreat
