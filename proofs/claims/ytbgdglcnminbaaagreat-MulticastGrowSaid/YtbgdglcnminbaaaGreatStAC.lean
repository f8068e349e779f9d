
/- Layer 28 (storage) where there are no holds. · Layer 35 (multicast): branches compared. · Layer 35 (multicast): the chapter's example, plain. -/
import Derived.Test.YtbgdglcnminbaaaGreatMcGb2
import Derived.Test.YtbgdglcnminbaaaGreatRchSo
import Derived.Maps.OwnOps
import Derived.Laws.EntriesVeiled
import Derived.BigQuiet
namespace Go.Proofs.YtbgdglcnminbaaaGreat
set_option linter.unusedVariables false
set_option linter.unusedSimpArgs false
open Go.RowKit Go.Shelf Go.Maps

set_option maxRecDepth 100000 in
set_option maxHeartbeats 4000000 in
theorem isort_nil (w : World) : Calls Tryz.prog 111 #[.slice none 0 0, .int .i64 0, .int .i64 0] w fun e w' => e = .returned (.tuple #[]) ∧ Ext w w' := by
  go_enter Tryz.func111, Tryz.ntmps111
  go_wp2_with fail
  go_loopg [6] 1 (fun q k wr => k = .int .i64 1 ∧ wr = w)
  case atStart => exact ⟨rfl, rfl⟩
  case round =>
    obtain ⟨rfl, rfl⟩ := hrel
    go_wp2_with fail
    go_end0
    exact ⟨rfl, Ext.refl _⟩

set_option maxRecDepth 100000 in
set_option maxHeartbeats 4000000 in
theorem sort_nil (w : World) : Calls Tryz.prog 95 #[.slice none 0 0] w fun e w' => e = .returned (.tuple #[]) ∧ Ext w w' := by
  have hlen := fun w => len_any 0 w (by omega) (by omega)
  have hins := isort_nil
  have hpdq : ∀ (k : Int) w, Calls Tryz.prog 101 #[.slice none 0 0, .int .i64 0, .int .i64 0, .int .i64 k] w fun e w' => e = .returned (.tuple #[]) ∧ Ext w w' := fun k w => by
    clear hlen
    go_enter Tryz.func101, Tryz.ntmps101
    go_wp2_with fail
    go_loopg [1, 2] 0 (fun q a b wr => a = .int .i64 0 ∧ b = .int .i64 0 ∧ wr = w)
    case atStart => exact ⟨rfl, rfl, rfl⟩
    case round =>
      obtain ⟨rfl, rfl, rfl⟩ := hrel
      go_wp2_with fail
      refine (hins _).mono ?_
      rintro e w1 ⟨rfl, h1⟩
      go_wp2_with fail
      refine bodyPost_ret (results_none rfl _ _ _) rfl ?_
      exact ⟨rfl, h1⟩
  clear hins
  go_enter Tryz.func95, Tryz.ntmps95
  go_wp2_with fail
  refine (hlen _).mono ?_
  rintro e w1 ⟨⟨k, rfl⟩, rfl⟩
  go_wp2_with fail
  refine (hpdq k _).mono ?_
  rintro e w2 ⟨rfl, h1⟩
  go_wp2_with fail
  go_end0
  exact ⟨rfl, h1⟩

set_option maxRecDepth 100000 in
set_option maxHeartbeats 4000000 in
theorem most_nil (w : World) : Calls Tryz.prog 74 #[.slice none 0 0] w fun e w' => e = .returned (.int .i64 0) ∧ Ext w w' := by
  go_enter Tryz.func74, Tryz.ntmps74
  go_wp2
  go_loopg [3, 8] 0 (fun q a k wr => a = .int .i64 0 ∧ k = .int .i64 0 ∧ wr = w)
  case atStart => exact ⟨rfl, rfl, rfl⟩
  case round =>
    obtain ⟨rfl, rfl, rfl⟩ := hrel
    go_wp2
    go_ret
    exact ⟨rfl, Ext.refl _⟩

set_option maxRecDepth 100000 in
set_option maxHeartbeats 4000000 in
theorem levels_nil (n : Int) (w : World) : Calls Tryz.prog 75 #[.slice none 0 0, .int .i64 n] w fun e w' => e = .returned (.slice none 0 0) ∧ Ext w w' := by
  have hmm := @run_makeMap Tryz.prog
  have hso := sort_nil
  obtain ⟨W0, hW0, hB0⟩ : ∃ W0, w.alloc (.map #[] 0) = W0 ∧ Ext w W0 := ⟨_, rfl, (Ext.refl _).alloc _⟩
  obtain ⟨W1, hW1, hB1, hk1, hl1⟩ := box1 W0 #[.map (some w.heap.size)] 136
  obtain ⟨W2, hW2, hB2, hk2, hl2⟩ := box1 W1 #[.slice none 0 0] 22
  have hE := (hB0.trans hB1).trans hB2
  have c2 := hk2.cell
  go_enter Tryz.func75, Tryz.ntmps75
  go_wp2_with fail
  go_loopg [18] 0 (fun q k wr => k = .int .i64 0 ∧ wr = W2)
  case atStart => exact ⟨rfl, rfl⟩
  case round =>
    obtain ⟨rfl, rfl⟩ := hrel
    go_wp2_with fail
    refine (hso _).mono ?_
    rintro e w3 ⟨rfl, hb3⟩
    have c3 := (hk2.ext hb3).cell
    go_wp2_with fail
    go_loopg [10, 44] 0 (fun q a k wr => a = .slice none 0 0 ∧ k = .int .i64 0 ∧ wr = w3)
    case atStart => exact ⟨rfl, rfl, rfl⟩
    case round =>
      obtain ⟨rfl, rfl, rfl⟩ := hrel
      go_wp2_with fail
      go_ret
      exact ⟨rfl, hE.trans hb3⟩

set_option maxRecDepth 100000 in
set_option maxHeartbeats 4000000 in
theorem sCheck_nil (Aq : Option Addr) (cq : Nat) (Ac : Option Addr) (cc : Nat) (p : Pln) (w : World) (h : PlnRd w Aq cq Ac cc p) (h0 : p.chk = 0) :
    Calls Tryz.prog 46 #[p.val Aq cq Ac cc, .slice none 0 0] w fun e w' => e = .returned (.int .i64 0) ∧ Ext w w' := by
  obtain ⟨W, hW, hB, hk, hlt⟩ := box1 w #[.slice Aq p.quo.length cq, .slice Ac p.cons.length cc] 25
  have hc := hk.cell
  have hpc := pcheck_any Aq cq Ac cc p W (h.ext hB)
  have hrd := h.ext hB
  have hlv := levels_nil
  have hmo := most_nil
  have hqm := h.qm
  have hq0 : ∀ x ∈ p.quo, 0 ≤ x := fun x hx => by
    unfold Pln.chk at h0
    split at h0
    · cases h0
    · split at h0
      · cases h0
      · rename_i h2
        simp only [List.any_eq_true, not_exists, not_and, quoB] at h2
        have := h2 x hx
        simp only [Bool.or_eq_true, decide_eq_true_eq] at this
        omega
  have Hq0 := Lib.hid hq0
  clear hq0
  rw [h0] at hpc
  clear h0
  unfold Pln.val at hpc ⊢
  go_enter Tryz.func46, Tryz.ntmps46
  go_wp2_with fail
  clear hW
  refine hpc.mono ?_
  clear hpc
  rintro e w1 ⟨rfl, hb1⟩
  have hE1 := hB.trans hb1
  have hrd1 := hrd.ext hb1
  have c1 := (hk.ext hb1).cell
  have l1 := (hk.ext hb1).lt
  go_wp2_with fail
  go_loopg [17] 0 (fun q k wr => k = .int .i64 0 ∧ Ext w1 wr)
  case atStart => exact ⟨rfl, Ext.refl _⟩
  case round =>
    obtain ⟨rfl, hx0⟩ := hrel
    obtain ⟨wo, rfl⟩ : ∃ wo, wo = wr := ⟨_, rfl⟩
    obtain ⟨gko, rfl⟩ : ∃ g, g = gk := ⟨_, rfl⟩
    have hE2 := hE1.trans hx0
    have hrd2 := hrd1.ext hx0
    have c2 := ((hk.ext hb1).ext hx0).cell
    have l2 := ((hk.ext hb1).ext hx0).lt
    clear c1 l1
    go_wp2_with fail
    go_loopg [42] p.quo.length (fun n k wr => ∃ j : Nat, j + n = p.quo.length ∧ k = .int .i64 j ∧ Ext wo wr)
    case atStart => exact ⟨0, by omega, rfl, Ext.refl _⟩
    case round =>
      obtain ⟨j, hjq, rfl, hx⟩ := hrel
      have Hjq := Lib.hid hjq
      have hjN : j ≤ p.quo.length := by omega
      clear hjq
      by_cases hlt2 : j < p.quo.length
      · obtain ⟨b1, o1, rfl, hb1', g1⟩ := (hrd2.q.ext hx).int hlt2
        have hx0 := Hq0.out _ (List.getElem_mem hlt2)
        generalize hxe : p.quo[j] = x at *
        clear hxe
        go_wp2_with fail
        refine (hlv _ _).mono ?_
        rintro e w4 ⟨rfl, hb4⟩
        go_wp2_with fail
        refine (hmo _).mono ?_
        rintro e w5 ⟨rfl, hb5⟩
        have hd : decide (x < 0) = false := decide_eq_false (by omega)
        go_wp2
        go_roundg (gk - 1)
        case measure => have := Hjq.out; omega
        case rel => exact ⟨j + 1, by have := Hjq.out; omega, rfl, (hx.trans hb4).trans hb5⟩
      · go_wp2
        go_ret
        exact ⟨rfl, hE2.trans hx⟩

set_option maxRecDepth 100000 in
set_option maxHeartbeats 4000000 in
theorem tables_nil (Aq : Option Addr) (cq : Nat) (Ac : Option Addr) (cc : Nat) (p : Pln) (w : World) (h : PlnRd w Aq cq Ac cc p) (h0 : p.chk = 0) :
    Calls Tryz.prog 22 #[.agg #[.slice Aq p.quo.length cq, .slice Ac p.cons.length cc, .slice none 0 0, .slice none 0 0]] w fun e w' => e = .returned (.int .i64 0) ∧ Ext w w' := by
  obtain ⟨W, hW, hB, hk, hlt⟩ := box1 w #[.slice Aq p.quo.length cq, .slice Ac p.cons.length cc, .slice none 0 0, .slice none 0 0] 29
  have hc := hk.cell
  have hpc := pcheck_any Aq cq Ac cc p W (h.ext hB)
  have hrd := h.ext hB
  have hbc := fun w h => bCheck_any Aq cq Ac cc p none 0 [] w h (Rd.nil) (by simp)
  have hsc := fun w h => sCheck_nil Aq cq Ac cc p w h h0
  rw [h0] at hpc
  have hb0 : p.bkChk [] = 0 := by unfold Pln.bkChk; rw [if_pos h0]; rfl
  rw [hb0] at hbc
  clear h0 hb0
  unfold Pln.val at hpc hbc hsc
  simp only [List.length_nil] at hbc
  go_enter Tryz.func22, Tryz.ntmps22
  go_wp2_with fail
  clear hW
  refine hpc.mono ?_
  clear hpc
  rintro e w1 ⟨rfl, hb1⟩
  have c1 := (hk.ext hb1).cell
  have l1 := (hk.ext hb1).lt
  go_wp2_with fail
  refine (hbc _ (hrd.ext hb1)).mono ?_
  rintro e w2 ⟨rfl, hb2⟩
  have c2 := ((hk.ext hb1).ext hb2).cell
  have l2 := ((hk.ext hb1).ext hb2).lt
  go_wp2_with fail
  refine (hsc _ ((hrd.ext hb1).ext hb2)).mono ?_
  rintro e w3 ⟨rfl, hb3⟩
  go_wp2
  go_ret
  exact ⟨rfl, ((hB.trans hb1).trans hb2).trans hb3⟩

theorem tabC_nil (Aq : Option Addr) (cq : Nat) (Ac : Option Addr) (cc : Nat) (p : Pln) (w : World) (h : PlnRd w Aq cq Ac cc p) (h0 : p.chk = 0) :
    TabC p [] (.agg #[.slice Aq p.quo.length cq, .slice Ac p.cons.length cc, .slice none 0 0, .slice none 0 0]) 0 w :=
  ⟨fun w' hb => tables_nil Aq cq Ac cc p w' (h.ext hb) h0, fun _ => by unfold Pln.bkChk; rw [if_pos h0]; rfl⟩

end Go.Proofs.YtbgdglcnminbaaaGreat

namespace Go.Proofs.YtbgdglcnminbaaaGreat
set_option linter.unusedVariables false
set_option linter.unusedSimpArgs false
open Go.RowKit Go.Shelf

def brEq (x y : Br) : Bool := x.con == y.con && (x.beg == y.beg && (x.en == y.en && (x.arr == y.arr && x.par == y.par)))
theorem brEq_iff {x y : Br} : brEq x y = true ↔ x = y := by
  cases x; cases y
  simp [brEq]
theorem run_neq_br (x y : Br) (w : World) :
    (binOp .neq 57 (.agg #[.int .i64 x.con, .int .i64 x.beg, .int .i64 x.en, .int .i64 x.arr, .int .i64 x.par]) (.agg #[.int .i64 y.con, .int .i64 y.beg, .int .i64 y.en, .int .i64 y.arr, .int .i64 y.par])).run Tryz.prog w = .ok (.bool (!brEq x y)) w := by
  unfold brEq
  by_cases h0 : x.con = y.con
  · by_cases h1 : x.beg = y.beg
    · by_cases h2 : x.en = y.en
      · by_cases h3 : x.arr = y.arr
        · by_cases h4 : x.par = y.par
          · go_simp
          · go_simp
        · go_simp
      · go_simp
    · go_simp
  · go_simp

set_option maxHeartbeats 2000000 in
theorem sameBrs_any (A B : Option Addr) (c d : Nat) (l m : List Br) (w : World) (hA : Rd EBr w A l) (hB : Rd EBr w B m) (hmax : l.length ≤ 1099511627776) (hmax2 : m.length ≤ 1099511627776) :
    Calls Tryz.prog 9 #[.slice A l.length c, .slice B m.length d] w fun e w' => e = .returned (.bool (eqLB brEq l m)) ∧ Ext w w' := by
  by_cases hlm : l.length = m.length
  · have h1 : l.length ≤ m.length := by omega
    have h2 : m.length ≤ l.length := by omega
    have hnn : ((l.length : Int) != (m.length : Int)) = false := by simp; omega
    have hnn2 : (l.length != m.length) = false := by simp; omega
    clear hlm
    go_enter Tryz.func9, Tryz.ntmps9
    go_wp2
    go_loopg [5] l.length (fun q i wr => ∃ k : Nat, k + q = l.length ∧ i = .int .i64 k ∧ eqLB brEq l m = eqLB brEq (l.drop k) (m.drop k) ∧ Ext w wr)
    case atStart => exact ⟨0, by omega, rfl, rfl, Ext.refl _⟩
    case round =>
      obtain ⟨k, hk, rfl, hx, hN⟩ := hrel
      have Hx := Lib.hid hx
      clear hx
      by_cases hlt : k < l.length
      · have hlt2 : k < m.length := by omega
        obtain ⟨b, o, rfl, hb, c0, c1, c2, c3, c4⟩ := (hA.ext hN).br hlt
        obtain ⟨b2, o2, rfl, hb2, d0, d1, d2, d3, d4⟩ := (hB.ext hN).br hlt2
        have hst := Lib.hid (eqLB_step (f := brEq) hlt hlt2)
        generalize l[k] = x at *
        generalize m[k] = y at *
        have he := run_neq_br x y
        have hN0 := hN
        clear hN
        have hN := Near.refl wr
        cases hxy : brEq x y
        · have Hxy := Lib.hid hxy
          simp only [hxy] at he
          clear hxy
          go_wp2
          have hq := quiet_near hN
          refine wp_region_quiet_below (by kernel_rfl) (by kernel_rfl) ?_
          repeat (first | go_big_quiet_skip | (go_big_quiet_want; go_big_quiet_op; first | go_big_quiet_on | (apply Exists.intro; refine ⟨fun _ => ?_, ?_⟩; (focus (first | fail)); go_big_quiet_on)))
          refine wpQuiet_nil ?_
          intro w1 hw1
          clear hq
          replace hw1 := quiet_ext hw1
          replace hN := hN.step hw1
          have hC := hN.2
          go_wp2
          go_ret
          exact ⟨ret_bool (by rw [Hx.out, hst.out, Hxy.out]; rfl), hN0.trans hN.1⟩
        · have Hxy := Lib.hid hxy
          simp only [hxy] at he
          clear hxy
          go_wp2
          have hq := quiet_near hN
          refine wp_region_quiet_below (by kernel_rfl) (by kernel_rfl) ?_
          repeat (first | go_big_quiet_skip | (go_big_quiet_want; go_big_quiet_op; first | go_big_quiet_on | (apply Exists.intro; refine ⟨fun _ => ?_, ?_⟩; (focus (first | fail)); go_big_quiet_on)))
          refine wpQuiet_nil ?_
          intro w1 hw1
          clear hq
          replace hw1 := quiet_ext hw1
          replace hN := hN.step hw1
          have hC := hN.2
          go_wp2
          go_roundg (gk - 1)
          case measure => omega
          case rel => exact ⟨k + 1, by omega, by go_num, by rw [Hx.out, hst.out, Hxy.out]; rfl, hN0.trans hN.1⟩
      · go_wp2
        go_ret
        refine ⟨ret_bool ?_, hN⟩
        rw [Hx.out, List.drop_eq_nil_of_le (by omega), List.drop_eq_nil_of_le (by omega)]
        rfl
  · have hnn : ((l.length : Int) != (m.length : Int)) = true := by simp; omega
    have hnn2 : (l.length != m.length) = true := by simp; omega
    have he := Lib.hid (eqLB_len (f := brEq) hlm)
    clear hlm
    go_enter Tryz.func9, Tryz.ntmps9
    go_wp2
    go_ret
    exact ⟨ret_bool he.out.symm, Ext.refl _⟩
theorem sameBrs_ex (A B : Option Addr) (c d : Nat) (l : List Br) (w : World) (hA : Rd EBr w A l) (hB : Rd EBr w B l) (hmax : l.length ≤ 1099511627776) :
    Calls Tryz.prog 9 #[.slice A l.length c, .slice B l.length d] w fun e w' => e = .returned (.bool true) ∧ Ext w w' := by
  have h := sameBrs_any A B c d l l w hA hB hmax hmax
  rw [eqLB_refl (fun x => brEq_iff.2 rfl)] at h
  exact h

end Go.Proofs.YtbgdglcnminbaaaGreat

namespace Go.Proofs.YtbgdglcnminbaaaGreat
set_option linter.unusedVariables false
open Go.RowKit Go.Shelf

def exP : Pln := ⟨[9, 9, 9, 9], [⟨1, 3, 10, 60, 24, 2, 0⟩, ⟨0, 1, 5, 55, 24, 2, 0⟩, ⟨1, 2, 0, 50, 24, 2, 0⟩]⟩
def exQ : Req := ⟨0, 3, 16, 0, 100, 0, false⟩
def exB : List Br := [⟨1, 5, 6, 8, -1⟩, ⟨2, 8, 9, 11, 0⟩, ⟨0, 10, 11, 13, 0⟩]
def exT : List Int := [0, 8, 11, 13, -1, -1, -1, -1, -1, -1, -1, -1, -1, -1, -1, -1]
def exT1 : List Int := [0, 8, 11, -1, -1, -1, -1, -1, -1, -1, -1, -1, -1, -1, -1, -1]
theorem exP_chk : exP.chk = 0 := by kernel_rfl
theorem exQ_ok : exQ.okB exP.quo.length = true := by kernel_rfl
theorem exF : fineR exP exQ = true := by kernel_rfl
theorem exM : memsB exP.quo.length exQ.src [2, 3] = true := by kernel_rfl
theorem exGC : GC exP [] exQ := ⟨by kernel_rfl, by decide, by decide⟩
theorem exE1 : exP.EarlP [] exQ (startL exQ) exT := ⟨⟨2, by kernel_rfl⟩, by kernel_rfl⟩
theorem exE2 : exP.EarlP [] exQ exT1 exT := ⟨⟨1, by kernel_rfl⟩, by kernel_rfl⟩
theorem exW1 : (exP.wayF [] exQ (startL exQ) exT 17 2).reverse.foldl exP.addB ([], startL exQ) = (exB.take 2, exT1) := by kernel_rfl
theorem exW2 : (exP.wayF [] exQ exT1 exT 17 3).reverse.foldl exP.addB (exB.take 2, exT1) = (exB, exT) := by kernel_rfl
theorem ex_grow {r : Option (List Br × List Int)} (h : exP.GrowR [] exQ [2, 3] ([], startL exQ) r) : r = some (exB, exT) := by
  rw [Pln.GrowR, if_neg (by decide)] at h
  obtain ⟨T, h1, h2⟩ := h
  rw [EarlP.unique exGC (by decide) h1 exE1, if_neg (by decide), exW1, Pln.GrowR, if_neg (by decide)] at h2
  obtain ⟨T2, h3, h4⟩ := h2
  rw [EarlP.unique exGC (by decide) h3 exE2, if_neg (by decide), exW2, Pln.GrowR] at h4
  exact h4
end Go.Proofs.YtbgdglcnminbaaaGreat
