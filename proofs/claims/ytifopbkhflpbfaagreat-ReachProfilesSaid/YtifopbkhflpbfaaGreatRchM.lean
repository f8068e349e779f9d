
/- Layer 26 (reach): times, a row of a matrix, and the matrix. -/
import Derived.Test.YtifopbkhflpbfaaGreatRchP
import Derived.Test.YtifopbkhflpbfaaGreatJrA
namespace Go.Proofs.YtifopbkhflpbfaaGreat
set_option linter.unusedVariables false
set_option linter.unusedSimpArgs false
open Go.RowKit Go.Shelf
attribute [local go_sem] Oper.semAt_some

/-- Whether two times are a window. -/
def winB (r d : Int) : Bool := decide (0 ≤ r ∧ r ≤ d ∧ d ≤ 1099511627776)
/-- api.Errno of a matrix. -/
def Pln.matE (p : Pln) (r d n : Int) : Int := if p.rv n [] = 0 then (if winB r d then 0 else 2) else p.rv n []
/-- Whether a node reaches another one. -/
def Pln.rch (p : Pln) (src dst r d n : Int) : Bool := decide (dst = src) || (decide (p.ear src dst n r ≠ -1) && decide (p.ear src dst n r ≤ d))
def Pln.row (p : Pln) (src r d n : Int) : List Bool := (List.range p.quo.length).map fun i : Nat => p.rch src (i : Int) r d n
def Pln.mat (p : Pln) (r d n : Int) : List (List Bool) := (List.range p.quo.length).map fun i : Nat => p.row (i : Int) r d n
def Pln.matM (p : Pln) (r d n : Int) : List (List Bool) := if p.matE r d n = 0 then p.mat r d n else []
theorem Pln.row_len (p : Pln) (src r d n : Int) : (p.row src r d n).length = p.quo.length := by simp [Pln.row]
theorem Pln.mat_len (p : Pln) (r d n : Int) : (p.mat r d n).length = p.quo.length := by simp [Pln.mat]
theorem Pln.row_gb (p : Pln) (src r d n : Int) {i : Int} (h0 : 0 ≤ i) (h1 : i < p.quo.length) : gb (p.row src r d n) i = p.rch src i r d n := by
  unfold gb Pln.row
  have h2 : i.toNat < p.quo.length := by omega
  rw [List.getD_eq_getElem?_getD]
  simp only [List.getElem?_map, List.getElem?_range h2, Option.map_some, Option.getD_some]
  rw [Int.toNat_of_nonneg h0]
theorem gb_ext {l m : List Bool} (hl : l.length = m.length) (h : ∀ i : Nat, i < l.length → gb l (i : Int) = gb m (i : Int)) : l = m := by
  apply List.ext_getElem hl
  intro i h1 h2
  have := h i h1
  unfold gb at this
  rw [List.getD_eq_getElem?_getD, List.getD_eq_getElem?_getD, Int.toNat_natCast, List.getElem?_eq_getElem h1, List.getElem?_eq_getElem h2] at this
  exact this

set_option maxRecDepth 100000 in
set_option maxHeartbeats 4000000 in
theorem times_any (Aq : Option Addr) (cq : Nat) (Ac : Option Addr) (cc : Nat) (p : Pln) (r d n : Int) (w : World) (h : PlnRd w Aq cq Ac cc p) :
    Calls Tryz.prog 44 #[p.val Aq cq Ac cc, .int .i64 r, .int .i64 d, .int .i64 n] w fun e w' => e = .returned (.int .i64 (p.matE r d n)) ∧ Ext w w' := by
  obtain ⟨W, hW, hB, hk, hlt⟩ := box1 w #[.slice Aq p.quo.length cq, .slice Ac p.cons.length cc] 25
  have hc := hk.cell
  have hrv := rvalid_any Aq cq Ac cc p n none 0 [] W (h.ext hB) Rd.nil (by simp)
  simp only [List.length_nil] at hrv
  by_cases h0 : p.rv n [] = 0
  · rw [h0] at hrv
    have HE := Lib.hid (show p.matE r d n = if winB r d then 0 else 2 by unfold Pln.matE; rw [if_pos h0])
    clear h0
    unfold winB at HE
    unfold Pln.val at hrv ⊢
    by_cases h1 : r < 0
    · have d1 : decide (r < 0) = true := decide_eq_true h1
      have HR := Lib.hid (show p.matE r d n = 2 by rw [HE.out, if_neg]; simp only [decide_eq_true_eq]; omega)
      clear h1 HE
      go_enter Tryz.func44, Tryz.ntmps44
      go_wp2_with fail
      clear hW
      refine hrv.mono ?_
      rintro e w1 ⟨rfl, hb1⟩
      go_wp2
      go_ret
      exact ⟨by rw [HR.out]; rfl, hB.trans hb1⟩
    have d1 : decide (r < 0) = false := decide_eq_false h1
    by_cases h2 : d < r
    · have d2 : decide (d < r) = true := decide_eq_true h2
      have HR := Lib.hid (show p.matE r d n = 2 by rw [HE.out, if_neg]; simp only [decide_eq_true_eq]; omega)
      clear h1 h2 HE
      go_enter Tryz.func44, Tryz.ntmps44
      go_wp2_with fail
      clear hW
      refine hrv.mono ?_
      rintro e w1 ⟨rfl, hb1⟩
      go_wp2
      go_ret
      exact ⟨by rw [HR.out]; rfl, hB.trans hb1⟩
    have d2 : decide (d < r) = false := decide_eq_false h2
    by_cases h3 : 1099511627776 < d
    · have d3 : decide (1099511627776 < d) = true := decide_eq_true h3
      have HR := Lib.hid (show p.matE r d n = 2 by rw [HE.out, if_neg]; simp only [decide_eq_true_eq]; omega)
      clear h1 h2 h3 HE
      go_enter Tryz.func44, Tryz.ntmps44
      go_wp2_with fail
      clear hW
      refine hrv.mono ?_
      rintro e w1 ⟨rfl, hb1⟩
      go_wp2
      go_ret
      exact ⟨by rw [HR.out]; rfl, hB.trans hb1⟩
    · have d3 : decide (1099511627776 < d) = false := decide_eq_false h3
      have HR := Lib.hid (show p.matE r d n = 0 by rw [HE.out, if_pos]; simp only [decide_eq_true_eq]; omega)
      clear h1 h2 h3 HE
      go_enter Tryz.func44, Tryz.ntmps44
      go_wp2_with fail
      clear hW
      refine hrv.mono ?_
      rintro e w1 ⟨rfl, hb1⟩
      go_wp2
      go_ret
      exact ⟨by rw [HR.out]; rfl, hB.trans hb1⟩
  · have HR := Lib.hid (show p.matE r d n = p.rv n [] by unfold Pln.matE; rw [if_neg h0])
    have d1 : (p.rv n [] != 0) = true := by simpa using h0
    rw [HR.out]
    generalize p.rv n [] = rv at hrv d1
    clear h0
    unfold Pln.val at hrv ⊢
    go_enter Tryz.func44, Tryz.ntmps44
    go_wp2_with fail
    clear hW
    refine hrv.mono ?_
    rintro e w1 ⟨rfl, hb1⟩
    go_wp2
    go_ret
    exact ⟨rfl, hB.trans hb1⟩

set_option maxRecDepth 100000 in
set_option maxHeartbeats 4000000 in
theorem row_any (Aq : Option Addr) (cq : Nat) (Ac : Option Addr) (cc : Nat) (p : Pln) (r d n : Int) (Bp Br Bn Bd : Nat) (i : Int) (w : World) (h : PlnRd w Aq cq Ac cc p) (h0 : p.chk = 0) (hn : 1 ≤ n ∧ n ≤ 65536) (hr : 0 ≤ r ∧ r ≤ 1099511627776) (hi : 0 ≤ i ∧ i < p.quo.length)
    (kp : Blk w Bp 25 #[.slice Aq p.quo.length cq, .slice Ac p.cons.length cc]) (kr : Blk w Br 3 #[.int .i64 r]) (kn : Blk w Bn 3 #[.int .i64 n]) (kd : Blk w Bd 3 #[.int .i64 d]) :
    Calls Tryz.prog 45 #[.int .i64 i, .pointer (some ⟨Bp, 0, none⟩), .pointer (some ⟨Br, 0, none⟩), .pointer (some ⟨Bn, 0, none⟩), .pointer (some ⟨Bd, 0, none⟩)] w fun e w' =>
      ∃ g, e = .returned (.slice (some ⟨g, 0, none⟩) p.quo.length p.quo.length) ∧ Owns EBool w' w.heap.size 4 (.slice (some ⟨g, 0, none⟩) p.quo.length p.quo.length) (p.row i r d n) ∧ Ext w w' := by
  have hok := Pln.ok_of h0
  have hn16 := hok.n16
  have hn1 := hok.n1
  have haf : p.argF i r n = true := by simp only [Pln.argF, decide_eq_true_eq]; omega
  have hF := Foremost_any Aq cq Ac cc p i r n w h
  have fe : p.forE i r n = 0 := by unfold Pln.forE; rw [if_pos h0, haf]; rfl
  have ft : p.forT i r n = p.arrs i r n := by unfold Pln.forT; rw [if_pos fe]
  rw [ft, fe] at hF
  have hTl := (Pln.arrs_least hok haf).len
  obtain ⟨ib, hib, hbz, hb1, hb2⟩ := info_parts info_bool
  have hmk := fun w => run_make1 (n := p.quo.length) Tryz.underlying59 hib hbz hb1 (by omega) rfl (by omega) w
  have hear : ∀ k : Int, p.rch i k r d n = (decide (k = i) || (decide (gi (p.arrs i r n) k ≠ -1) && decide (gi (p.arrs i r n) k ≤ d))) := fun k => rfl
  obtain ⟨T, hT⟩ : ∃ T, p.arrs i r n = T := ⟨_, rfl⟩
  rw [hT] at hF hTl hear
  unfold Pln.val at hF
  have Hear := Lib.hid hear
  have HTl := Lib.hid hTl
  have hcp := kp.cell
  have hcr := kr.cell
  have hcn := kn.cell
  clear fe ft haf hT hTl hear
  go_enter Tryz.func45, Tryz.ntmps45
  go_wp2_with fail
  refine hF.mono ?_
  clear hF hcp hcr hcn
  rintro e w1 ⟨A, c, rfl, hR, hb, _⟩
  rw [HTl.out]
  obtain ⟨W2, hW2, hB2, hk2, hl2⟩ := box1 w1 (Array.replicate p.quo.length (.bool false)) 4
  have own0 := own_bool (base := w.heap.size) hk2 hb.size hn16
  go_wp2_with fail
  clear hW2 hmk
  have hwl := hb.size
  go_loopg [25] p.quo.length (fun q k wr => ∃ (j : Nat) (m : List Bool), j + q = p.quo.length ∧ k = .int .i64 j ∧ m.length = p.quo.length ∧ Hid (∀ t : Nat, t < j → gb m (t : Int) = p.rch i (t : Int) r d n) ∧ Owns EBool wr w.heap.size 4 (.slice (some ⟨w1.heap.size, 0, none⟩) p.quo.length p.quo.length) m ∧ Ext w1 wr)
  case atStart => exact ⟨0, _, by omega, rfl, by simp, Lib.hid (fun t ht => by omega), own0, hB2⟩
  case round =>
    obtain ⟨j, m, hjq, rfl, hml, hm, ho, hx⟩ := hrel
    have Hjq := Lib.hid hjq
    have Hml := Lib.hid hml
    have hjN : j ≤ p.quo.length := by omega
    clear hjq hml
    by_cases hlt : j < p.quo.length
    · have hRr := hR.ext hx
      obtain ⟨b, o, rfl, hbl, hxx⟩ := hRr.int (k := j) (by have := HTl.out; omega)
      clear hxx
      obtain ⟨hcj, _⟩ := hRr.gi (i := (j : Int)) (by have := HTl.out; omega)
      rw [Int.toNat_natCast] at hcj
      obtain ⟨hgl, hfz⟩ := ho.freeb
      have hcb := ho.gb (i := (j : Int)) (by have := Hml.out; omega)
      rw [Int.toNat_natCast] at hcb
      have hcd := (kd.ext (hb.trans hx)).cell
      have FIN : ∀ y : Bool, y = p.rch i (j : Int) r d n → ∃ (j' : Nat) (m' : List Bool), j' + (gk - 1) = p.quo.length ∧ Value.int .i64 ((j : Int) + 1) = .int .i64 j' ∧ m'.length = p.quo.length ∧ Hid (∀ t : Nat, t < j' → gb m' (t : Int) = p.rch i (t : Int) r d n) ∧ Owns EBool (wr.setCell ⟨w1.heap.size, j, none⟩ (.bool y)) w.heap.size 4 (.slice (some ⟨w1.heap.size, 0, none⟩) p.quo.length p.quo.length) m' ∧ Ext w1 (wr.setCell ⟨w1.heap.size, j, none⟩ (.bool y)) := fun y hy =>
        ⟨j + 1, m.set j y, by have := Hjq.out; omega, by go_num, by rw [List.length_set, Hml.out], Lib.hid (fun t ht => by
          have e := gb_set (l := m) (i := (j : Int)) (j := (t : Int)) (v := y) (by have := Hml.out; omega)
          rw [Int.toNat_natCast, Int.toNat_natCast] at e
          rw [e]
          by_cases h : t = j
          · rw [if_pos h, h]; exact hy
          · rw [if_neg h]; exact hm.out t (by omega)), ho.setb (by have := Hml.out; omega) y, hx.setCell (Nat.le_refl _) _⟩
      have Hfin := fun y hy => FIN y hy
      clear FIN
      by_cases c1 : (j : Int) = i
      · have d1 : ((j : Int) == i) = true := by simpa using c1
        have HV := Lib.hid (show true = p.rch i (j : Int) r d n by rw [Hear.out, decide_eq_true c1]; rfl)
        clear c1
        go_wp2
        go_roundg (gk - 1)
        case measure => have := Hjq.out; omega
        case rel => exact Hfin true HV.out
      · have d1 : ((j : Int) == i) = false := by simpa using c1
        by_cases c2 : gi T (j : Int) = -1
        · have d2 : (gi T (j : Int) != -1) = false := by simpa using c2
          have HV := Lib.hid (show false = p.rch i (j : Int) r d n by rw [Hear.out, decide_eq_false c1, decide_eq_false (fun h => h c2)]; rfl)
          clear c1 c2
          go_wp2
          go_roundg (gk - 1)
          case measure => have := Hjq.out; omega
          case rel => exact Hfin false HV.out
        · have d2 : (gi T (j : Int) != -1) = true := by simpa using c2
          by_cases c3 : gi T (j : Int) ≤ d
          · have d3 : decide (gi T (j : Int) ≤ d) = true := decide_eq_true c3
            have HV := Lib.hid (show true = p.rch i (j : Int) r d n by rw [Hear.out, decide_eq_false c1, decide_eq_true (show gi T (j : Int) ≠ -1 from c2), decide_eq_true c3]; rfl)
            clear c1 c2 c3
            go_wp2
            go_roundg (gk - 1)
            case measure => have := Hjq.out; omega
            case rel => exact Hfin true HV.out
          · have d3 : decide (gi T (j : Int) ≤ d) = false := decide_eq_false c3
            have HV := Lib.hid (show false = p.rch i (j : Int) r d n by rw [Hear.out, decide_eq_false c1, decide_eq_true (show gi T (j : Int) ≠ -1 from c2), decide_eq_false c3]; rfl)
            clear c1 c2 c3
            go_wp2
            go_roundg (gk - 1)
            case measure => have := Hjq.out; omega
            case rel => exact Hfin false HV.out
    · have he : j = p.quo.length := by omega
      subst he
      go_wp2
      go_ret
      have hmm : m = p.row i r d n := gb_ext (by rw [Hml.out, Pln.row_len]) (fun t ht => by rw [hm.out t (by have := Hml.out; omega), Pln.row_gb _ _ _ _ _ (by omega) (by have := Hml.out; omega)])
      rw [← hmm]
      exact ⟨_, rfl, ho, hb.trans hx⟩

end Go.Proofs.YtifopbkhflpbfaaGreat
