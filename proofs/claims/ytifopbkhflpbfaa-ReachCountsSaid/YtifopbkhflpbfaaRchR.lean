
/- Layer 26 (reach): the reference's matrix. -/
import Derived.Test.YtifopbkhflpbfaaRchC
namespace Go.Proofs.Ytifopbkhflpbfaa
set_option linter.unusedVariables false
set_option linter.unusedSimpArgs false
open Go.RowKit Go.Shelf

/-- What the reference's Matrix returns, in memory. -/
theorem Pln.row_take (p : Pln) (src r d n : Int) {j : Nat} (h : j < p.quo.length) : (p.row src r d n).take (j + 1) = (p.row src r d n).take j ++ [p.rch src (j : Int) r d n] := by
  have e : (p.row src r d n)[j]? = some (p.rch src (j : Int) r d n) := by
    unfold Pln.row
    simp only [List.getElem?_map, List.getElem?_range h, Option.map_some]
  rw [List.take_add_one, e]
  rfl

set_option maxRecDepth 100000 in
set_option maxHeartbeats 4000000 in
theorem rMatrix_any (Aq : Option Addr) (cq : Nat) (Ac : Option Addr) (cc : Nat) (p : Pln) (r d n : Int) (w : World) (h : PlnRd w Aq cq Ac cc p) :
    Calls Try.prog 12 #[p.val Aq cq Ac cc, .int .i64 r, .int .i64 d, .int .i64 n] w (MatR p r d n w) := by
  obtain ⟨j0, hj0, hy0, hy1, hy2⟩ := info_parts info_slb
  obtain ⟨i0, hi0, hz0, hz1, hz2⟩ := info_parts info_bool
  obtain ⟨W1, hW1, hB1, hk1, hl1⟩ := box1 w #[.slice Aq p.quo.length cq, .slice Ac p.cons.length cc] 25
  obtain ⟨W2, hW2, hB2, hk2, hl2⟩ := box1 W1 #[] 46
  have own0 := Owns.made (E := EHdr) W1 W1.heap.size 46 (by omega)
  rw [hW2] at own0
  have E2 := hB1.trans hB2
  have k1 := hk1.ext hB2
  have hc := k1.cell
  have hck := rcheck26_any Aq cq Ac cc p n none 0 [] W2 (h.ext E2) Rd.nil (by simp)
  simp only [List.length_nil] at hck
  have hwn := fun w => window_any r d w
  unfold Pln.val at hck ⊢
  by_cases h0 : p.rv n [] = 0
  · rw [h0] at hck
    cases hw : winB r d
    · rw [hw] at hwn
      have HE := Lib.hid (show p.matE r d n = 2 by unfold Pln.matE; rw [if_pos h0, hw]; rfl)
      have HM := Lib.hid (show p.matM r d n = [] by unfold Pln.matM; rw [if_neg (by unfold Pln.matE; rw [if_pos h0, hw]; decide)])
      clear h0 hw
      go_enter Try.func12, Try.ntmps12
      go_wp2_with fail
      clear hW1 hW2
      refine hck.mono ?_
      clear hck hc
      rintro e w1 ⟨rfl, hb1⟩
      go_wp2_with fail
      refine (hwn _).mono ?_
      rintro e w2 ⟨rfl, hb2⟩
      go_wp2
      go_ret2
      exact ⟨_, _, by rw [HE.out, HM.out]; rfl, by rw [HM.out]; exact ⟨[], (own0.mono (by omega)).ext (hb1.trans hb2), rfl, fun i h => by simp at h⟩, E2.trans (hb1.trans hb2)⟩
    · rw [hw] at hwn
      have he0 : p.matE r d n = 0 := by unfold Pln.matE; rw [if_pos h0, hw]; rfl
      have HE := Lib.hid he0
      have HM := Lib.hid (show p.matM r d n = p.mat r d n by unfold Pln.matM; rw [if_pos he0])
      obtain ⟨a0, a1, a2⟩ := Pln.matE_ok he0
      have hok := Pln.ok_of a0
      have hn16 := hok.n16
      clear h0 hw he0
      go_enter Try.func12, Try.ntmps12
      go_wp2_with fail
      clear hW1 hW2
      refine hck.mono ?_
      clear hck hc
      rintro e w1 ⟨rfl, hb1⟩
      go_wp2_with fail
      refine (hwn _).mono ?_
      clear hwn
      rintro e w2 ⟨rfl, hb2⟩
      have hE2 := E2.trans (hb1.trans hb2)
      have hs2 := hE2.size
      have hb12 := hb1.trans hb2
      have hs12 := hb12.size
      have own2 := own0.ext hb12
      go_wp2_with fail
      go_loopg [10, 12] p.quo.length (fun q u k wr => ∃ (j : Nat) (A : Option Addr) (c : Nat), j + q = p.quo.length ∧ k = .int .i64 j ∧ u = .slice A j c ∧ Hid (MatRd wr W1.heap.size u ((p.mat r d n).take j)) ∧ Ext W1 wr)
      case atStart => exact ⟨0, _, _, by omega, rfl, rfl, Lib.hid ⟨[], own2, rfl, fun i h => by simp at h⟩, hB2.trans hb12⟩
      case round =>
        obtain ⟨j, A, c, hjq, rfl, rfl, hm, hx⟩ := hrel
        have Hjq := Lib.hid hjq
        have hjN : j ≤ p.quo.length := by omega
        clear hjq
        have kr := hk1.ext hx
        have hc := kr.cell
        by_cases hlt : j < p.quo.length
        · have haf : p.argF (j : Int) r n = true := by simp only [Pln.argF, decide_eq_true_eq]; omega
          have fe : p.forE (j : Int) r n = 0 := by unfold Pln.forE; rw [if_pos a0, haf]; rfl
          have ft : p.forT (j : Int) r n = p.arrs (j : Int) r n := by unfold Pln.forT; rw [if_pos fe]
          have hF := rForemost_any Aq cq Ac cc p (j : Int) r n wr ((h.ext hB1).ext hx)
          rw [ft, fe] at hF
          have hTl := (Pln.arrs_least hok haf).len
          have hcs : ∀ k : Nat, k < p.quo.length → k ≠ j → gi (p.arrs (j : Int) r n) (k : Int) = -1 ∨ 0 ≤ gi (p.arrs (j : Int) r n) (k : Int) := fun k hk hne => by
            have hP : PA p (j : Int) (k : Int) n := ⟨hok, by omega, by omega, by omega, by omega, by omega, a1.1, a1.2⟩
            rcases hP.ear_cases (t := r) a2.1 (by omega) with hh | hh
            · exact .inl hh
            · exact .inr (by have := hh.1; show 0 ≤ p.ear _ _ _ _; omega)
          have hear : ∀ k : Int, p.rch (j : Int) k r d n = (decide (k = (j : Int)) || (decide (gi (p.arrs (j : Int) r n) k ≠ -1) && decide (gi (p.arrs (j : Int) r n) k ≤ d))) := fun k => rfl
          obtain ⟨T, hT⟩ : ∃ T, p.arrs (j : Int) r n = T := ⟨_, rfl⟩
          rw [hT] at hF hTl hear hcs
          have Hear := Lib.hid hear
          have HTl := Lib.hid hTl
          have Hcs := Lib.hid hcs
          unfold Pln.val at hF
          clear fe ft haf hT hTl hear hcs
          go_wp2_with fail
          refine hF.mono ?_
          clear hF
          rintro e w3 ⟨A3, c3, rfl, hR3, hb3, _⟩
          rw [HTl.out]
          obtain ⟨W4, hW4, hB4, hk4, hl4⟩ := box1 w3 #[] 4
          have own4 := Owns.made (E := EBool) w3 w3.heap.size 4 (by omega)
          rw [hW4] at own4
          have hwr := hx.size
          have hw3 := hb3.size
          go_wp2_with fail
          clear hW4
          obtain ⟨wo, rfl⟩ : ∃ wo, wo = wr := ⟨_, rfl⟩
          obtain ⟨gko, rfl⟩ : ∃ g, g = gk := ⟨_, rfl⟩
          have Hjq2 := Hjq
          clear Hjq
          go_loopg [15, 16] p.quo.length (fun q u k wr => ∃ (m : Nat) (Am : Option Addr) (cm : Nat), m + q = p.quo.length ∧ k = .int .i64 m ∧ u = .slice Am m cm ∧ Owns EBool wr w3.heap.size 4 u ((p.row (j : Int) r d n).take m) ∧ Ext w3 wr)
          case atStart => exact ⟨0, _, _, by omega, rfl, rfl, own4, hB4⟩
          case round =>
            obtain ⟨m, Am, cm, hmq, rfl, rfl, hu, hxm⟩ := hrel
            have Hmq := Lib.hid hmq
            have hmN : m ≤ p.quo.length := by omega
            have hlm : ((p.row (j : Int) r d n).take m).length = m := by rw [List.length_take, Pln.row_len]; omega
            have Hlm := Lib.hid hlm
            have hszm := hxm.size
            clear hmq hlm
            by_cases hlt3 : m < p.quo.length
            · have Htk := Lib.hid (Pln.row_take p (j : Int) r d n hlt3)
              have hRm := hR3.ext hxm
              obtain ⟨b, o, rfl, hbl, hxx⟩ := hRm.int (k := m) (by have := HTl.out; omega)
              clear hxx
              obtain ⟨hcm, _⟩ := hRm.gi (i := (m : Int)) (by have := HTl.out; omega)
              rw [Int.toNat_natCast] at hcm
              by_cases c1 : m = j
              · subst c1
                have d1 : ((m : Int) == (m : Int)) = true := by simp
                have HV := Lib.hid (show true = p.rch (m : Int) (m : Int) r d n by rw [Hear.out, decide_eq_true rfl]; rfl)
                go_wp2_with (at_builtin; refine wpList_push rfl (.tmp 52) (.tmp 71) _ (by rfl) w3.heap.size 4 i0 _ 1 Try.underlying46 hi0 hz0 hz1 hz2 (by rfl) (.slice Am m cm) (by rfl) (hu.ext ((Ext.refl _).alloc _)) wr.heap.size true (by rfl) (Blk.new wr _ _) (by rw [Hlm.out]; simp only [maxLen]; omega) (by rw [Hlm.out]; omega) (by simp; omega) ?_; intro v6 w6 hv6 hg6 hat6; obtain ⟨A6, c6, hv6e, _⟩ := hv6.form; rw [List.length_append, Hlm.out, List.length_singleton] at hv6e; subst hv6e)
                have hx6 := ext_grown (hxm.alloc _) (hu.ext ((Ext.refl _).alloc _)) (Nat.le_refl _) hg6
                go_roundg (gk - 1)
                case measure => have := Hmq.out; omega
                case rel => exact ⟨m + 1, A6, c6, by have := Hmq.out; omega, by go_num, rfl, by rw [Htk.out, ← HV.out]; exact hv6, hx6⟩
              · have c1' : ¬ (m : Int) = (j : Int) := by omega
                have d1 : ((j : Int) == (m : Int)) = false := by apply Bool.eq_false_iff.2; intro hh; have := eq_of_beq hh; omega
                have hcs := Hcs.out m hlt3 c1
                by_cases c2 : 0 ≤ gi T (m : Int)
                · have d2 : decide (0 ≤ gi T (m : Int)) = true := decide_eq_true c2
                  by_cases c3 : gi T (m : Int) ≤ d
                  · have d3 : decide (gi T (m : Int) ≤ d) = true := decide_eq_true c3
                    have HV := Lib.hid (show true = p.rch (j : Int) (m : Int) r d n by rw [Hear.out, decide_eq_false c1', decide_eq_true (show gi T (m : Int) ≠ -1 by omega), d3]; rfl)
                    clear c1 c1' c2 c3 hcs
                    go_wp2_with (at_builtin; refine wpList_push rfl (.tmp 52) (.tmp 71) _ (by rfl) w3.heap.size 4 i0 _ 1 Try.underlying46 hi0 hz0 hz1 hz2 (by rfl) (.slice Am m cm) (by rfl) (hu.ext ((Ext.refl _).alloc _)) wr.heap.size true (by rfl) (Blk.new wr _ _) (by rw [Hlm.out]; simp only [maxLen]; omega) (by rw [Hlm.out]; omega) (by simp; omega) ?_; intro v6 w6 hv6 hg6 hat6; obtain ⟨A6, c6, hv6e, _⟩ := hv6.form; rw [List.length_append, Hlm.out, List.length_singleton] at hv6e; subst hv6e)
                    have hx6 := ext_grown (hxm.alloc _) (hu.ext ((Ext.refl _).alloc _)) (Nat.le_refl _) hg6
                    go_roundg (gk - 1)
                    case measure => have := Hmq.out; omega
                    case rel => exact ⟨m + 1, A6, c6, by have := Hmq.out; omega, by go_num, rfl, by rw [Htk.out, ← HV.out]; exact hv6, hx6⟩
                  · have d3 : decide (gi T (m : Int) ≤ d) = false := decide_eq_false c3
                    have HV := Lib.hid (show false = p.rch (j : Int) (m : Int) r d n by rw [Hear.out, decide_eq_false c1', decide_eq_true (show gi T (m : Int) ≠ -1 by omega), d3]; rfl)
                    clear c1 c1' c2 c3 hcs
                    go_wp2_with (at_builtin; refine wpList_push rfl (.tmp 52) (.tmp 71) _ (by rfl) w3.heap.size 4 i0 _ 1 Try.underlying46 hi0 hz0 hz1 hz2 (by rfl) (.slice Am m cm) (by rfl) (hu.ext ((Ext.refl _).alloc _)) wr.heap.size false (by rfl) (Blk.new wr _ _) (by rw [Hlm.out]; simp only [maxLen]; omega) (by rw [Hlm.out]; omega) (by simp; omega) ?_; intro v6 w6 hv6 hg6 hat6; obtain ⟨A6, c6, hv6e, _⟩ := hv6.form; rw [List.length_append, Hlm.out, List.length_singleton] at hv6e; subst hv6e)
                    have hx6 := ext_grown (hxm.alloc _) (hu.ext ((Ext.refl _).alloc _)) (Nat.le_refl _) hg6
                    go_roundg (gk - 1)
                    case measure => have := Hmq.out; omega
                    case rel => exact ⟨m + 1, A6, c6, by have := Hmq.out; omega, by go_num, rfl, by rw [Htk.out, ← HV.out]; exact hv6, hx6⟩
                · have d2 : decide (0 ≤ gi T (m : Int)) = false := decide_eq_false c2
                  have HV := Lib.hid (show false = p.rch (j : Int) (m : Int) r d n by rw [Hear.out, decide_eq_false c1', decide_eq_false (show ¬ gi T (m : Int) ≠ -1 by omega)]; rfl)
                  clear c1 c1' c2 hcs
                  go_wp2_with (at_builtin; refine wpList_push rfl (.tmp 52) (.tmp 71) _ (by rfl) w3.heap.size 4 i0 _ 1 Try.underlying46 hi0 hz0 hz1 hz2 (by rfl) (.slice Am m cm) (by rfl) (hu.ext ((Ext.refl _).alloc _)) wr.heap.size false (by rfl) (Blk.new wr _ _) (by rw [Hlm.out]; simp only [maxLen]; omega) (by rw [Hlm.out]; omega) (by simp; omega) ?_; intro v6 w6 hv6 hg6 hat6; obtain ⟨A6, c6, hv6e, _⟩ := hv6.form; rw [List.length_append, Hlm.out, List.length_singleton] at hv6e; subst hv6e)
                  have hx6 := ext_grown (hxm.alloc _) (hu.ext ((Ext.refl _).alloc _)) (Nat.le_refl _) hg6
                  go_roundg (gk - 1)
                  case measure => have := Hmq.out; omega
                  case rel => exact ⟨m + 1, A6, c6, by have := Hmq.out; omega, by go_num, rfl, by rw [Htk.out, ← HV.out]; exact hv6, hx6⟩
            · have he : m = p.quo.length := by omega
              subst he
              rw [List.take_of_length_le (by rw [Pln.row_len]; exact Nat.le_refl _)] at hu
              have hEx := hb3.trans hxm
              obtain ⟨hs, o1, o2, o3⟩ := hm.out.ext hEx
              have hl1 : hs.length = j := by rw [o2, List.length_take, Pln.mat_len]; omega
              have Hl1 := Lib.hid hl1
              have Ho2 := Lib.hid o2
              have Ho3 := Lib.hid o3
              have hxr := hEx.size
              clear hl1 o2 o3
              go_wp2_with (at_builtin; refine wpList_push rfl (.tmp 73) (.tmp 75) _ (by rfl) W1.heap.size 46 j0 _ 24 Try.underlying28 hj0 hy0 hy1 hy2 (by rfl) (.slice A j c) (by rfl) (o1.ext ((Ext.refl _).alloc _)) wr.heap.size (Am, p.quo.length, cm) (by rfl) (Blk.new wr _ _) (by rw [Hl1.out]; simp only [maxLen]; omega) (by rw [Hl1.out]; omega) (by simp; omega) ?_; intro v6 w6 hv6 hg6 hat6; obtain ⟨A6, c6, hv6e, _⟩ := hv6.form; rw [List.length_append, Hl1.out, List.length_singleton] at hv6e; subst hv6e)
              have hx6 := ext_grown ((hx.trans hEx).alloc _) (o1.ext ((Ext.refl _).alloc _)) (Nat.le_refl _) hg6
              go_roundg (gko - 1)
              case measure => have := Hjq2.out; omega
              case rel =>
                refine ⟨j + 1, A6, c6, by have := Hjq2.out; omega, by go_num, rfl, Lib.hid ?_, hx6⟩
                rw [Pln.mat_take p r d n hlt]
                exact MatRd.push (o1.ext ((Ext.refl _).alloc _)) Ho2.out (fun i h1 h2 => (Ho3.out i h1 h2).ext ((Ext.refl _).alloc _)) ((hu.mono (by omega)).ext ((Ext.refl _).alloc _)) hv6 hg6
        · have he : j = p.quo.length := by omega
          subst he
          go_wp2
          go_ret2
          have hm2 := hm.out
          rw [List.take_of_length_le (by rw [Pln.mat_len]; exact Nat.le_refl _), ← HM.out] at hm2
          have hl : (p.matM r d n).length = p.quo.length := by rw [HM.out, Pln.mat_len]
          exact ⟨A, c, by rw [HE.out, hl]; rfl, by rw [hl]; exact hm2.mono hB1.size, hB1.trans hx⟩
  · have HE := Lib.hid (show p.matE r d n = p.rv n [] by unfold Pln.matE; rw [if_neg h0])
    have HM := Lib.hid (show p.matM r d n = [] by unfold Pln.matM; rw [if_neg (by unfold Pln.matE; rw [if_neg h0]; exact h0)])
    have d1 : (p.rv n [] != 0) = true := by simpa using h0
    clear h0
    generalize p.rv n [] = rv at *
    go_enter Try.func12, Try.ntmps12
    go_wp2_with fail
    clear hW1 hW2
    refine hck.mono ?_
    clear hck hc
    rintro e w1 ⟨rfl, hb1⟩
    go_wp2
    go_ret2
    exact ⟨_, _, by rw [HE.out, HM.out]; rfl, by rw [HM.out]; exact ⟨[], (own0.mono (by omega)).ext hb1, rfl, fun i h => by simp at h⟩, E2.trans hb1⟩

end Go.Proofs.Ytifopbkhflpbfaa
