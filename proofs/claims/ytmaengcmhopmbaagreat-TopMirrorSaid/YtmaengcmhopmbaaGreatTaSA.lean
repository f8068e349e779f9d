/- TopMirror, the example: storage where there are no holds. · TopMirror, the example: the ledger without tickets. -/
import Derived.Test.YtmaengcmhopmbaaGreatBkA
import Derived.Test.YtmaengcmhopmbaaGreatRchSo
import Derived.Maps.OwnOps
import Derived.Laws.EntriesVeiled
import Derived.BigQuiet
import Derived.Test.YtmaengcmhopmbaaGreatJrA
import Derived.Laws.ResultCell
import Derived.Deep.RegionHeld3
namespace Go.Proofs.YtmaengcmhopmbaaGreat
set_option linter.unusedVariables false
set_option linter.unusedSimpArgs false
open Go.RowKit Go.Shelf Go.Maps

set_option maxRecDepth 100000 in
set_option maxHeartbeats 4000000 in
theorem isort_nil (w : World) : Calls Tryz.prog 178 #[.slice none 0 0, .int .i64 0, .int .i64 0] w fun e w' => e = .returned (.tuple #[]) ∧ Ext w w' := by
  go_enter Tryz.func178, Tryz.ntmps178
  go_wp2_with fail
  go_loopg [6] 1 (fun q k wr => k = .int .i64 1 ∧ wr = w)
  case atStart => exact ⟨rfl, rfl⟩
  case round =>
    obtain ⟨rfl, rfl⟩ := hrel
    go_wp2_with fail
    go_end0
    exact ⟨rfl, Ext.refl _⟩

set_option maxRecDepth 100000 in
set_option maxHeartbeats 4000000 in
theorem sort_nil (w : World) : Calls Tryz.prog 149 #[.slice none 0 0] w fun e w' => e = .returned (.tuple #[]) ∧ Ext w w' := by
  have hlen := fun w => len_any 0 w (by omega) (by omega)
  have hins := isort_nil
  have hpdq : ∀ (k : Int) w, Calls Tryz.prog 169 #[.slice none 0 0, .int .i64 0, .int .i64 0, .int .i64 k] w fun e w' => e = .returned (.tuple #[]) ∧ Ext w w' := fun k w => by
    clear hlen
    go_enter Tryz.func169, Tryz.ntmps169
    go_wp2_with fail
    go_loopg [1, 2] 0 (fun q a b wr => a = .int .i64 0 ∧ b = .int .i64 0 ∧ wr = w)
    case atStart => exact ⟨rfl, rfl, rfl⟩
    case round =>
      obtain ⟨rfl, rfl, rfl⟩ := hrel
      go_wp2_with fail
      refine (hins _).mono ?_
      rintro e w1 ⟨rfl, h1⟩
      go_wp2_with fail
      refine bodyPost_ret (results_none rfl _ _ _) rfl ?_
      exact ⟨rfl, h1⟩
  clear hins
  go_enter Tryz.func149, Tryz.ntmps149
  go_wp2_with fail
  refine (hlen _).mono ?_
  rintro e w1 ⟨⟨k, rfl⟩, rfl⟩
  go_wp2_with fail
  refine (hpdq k _).mono ?_
  rintro e w2 ⟨rfl, h1⟩
  go_wp2_with fail
  go_end0
  exact ⟨rfl, h1⟩

set_option maxRecDepth 100000 in
set_option maxHeartbeats 4000000 in
theorem most_nil (w : World) : Calls Tryz.prog 126 #[.slice none 0 0] w fun e w' => e = .returned (.int .i64 0) ∧ Ext w w' := by
  go_enter Tryz.func126, Tryz.ntmps126
  go_wp2
  go_loopg [3, 8] 0 (fun q a k wr => a = .int .i64 0 ∧ k = .int .i64 0 ∧ wr = w)
  case atStart => exact ⟨rfl, rfl, rfl⟩
  case round =>
    obtain ⟨rfl, rfl, rfl⟩ := hrel
    go_wp2
    go_ret
    exact ⟨rfl, Ext.refl _⟩

set_option maxRecDepth 100000 in
set_option maxHeartbeats 4000000 in
theorem levels_nil (n : Int) (w : World) : Calls Tryz.prog 127 #[.slice none 0 0, .int .i64 n] w fun e w' => e = .returned (.slice none 0 0) ∧ Ext w w' := by
  have hmm := @run_makeMap Tryz.prog
  have hso := sort_nil
  obtain ⟨W0, hW0, hB0⟩ : ∃ W0, w.alloc (.map #[] 0) = W0 ∧ Ext w W0 := ⟨_, rfl, (Ext.refl _).alloc _⟩
  obtain ⟨W1, hW1, hB1, hk1, hl1⟩ := box1 W0 #[.map (some w.heap.size)] 231
  obtain ⟨W2, hW2, hB2, hk2, hl2⟩ := box1 W1 #[.slice none 0 0] 22
  have hE := (hB0.trans hB1).trans hB2
  have c2 := hk2.cell
  go_enter Tryz.func127, Tryz.ntmps127
  go_wp2_with fail
  go_loopg [18] 0 (fun q k wr => k = .int .i64 0 ∧ wr = W2)
  case atStart => exact ⟨rfl, rfl⟩
  case round =>
    obtain ⟨rfl, rfl⟩ := hrel
    go_wp2_with fail
    refine (hso _).mono ?_
    rintro e w3 ⟨rfl, hb3⟩
    have c3 := (hk2.ext hb3).cell
    go_wp2_with fail
    go_loopg [10, 44] 0 (fun q a k wr => a = .slice none 0 0 ∧ k = .int .i64 0 ∧ wr = w3)
    case atStart => exact ⟨rfl, rfl, rfl⟩
    case round =>
      obtain ⟨rfl, rfl, rfl⟩ := hrel
      go_wp2_with fail
      go_ret
      exact ⟨rfl, hE.trans hb3⟩

set_option maxRecDepth 100000 in
set_option maxHeartbeats 4000000 in
theorem sCheck_nil (Aq : Option Addr) (cq : Nat) (Ac : Option Addr) (cc : Nat) (p : Pln) (w : World) (h : PlnRd w Aq cq Ac cc p) (h0 : p.chk = 0) :
    Calls Tryz.prog 91 #[p.val Aq cq Ac cc, .slice none 0 0] w fun e w' => e = .returned (.int .i64 0) ∧ Ext w w' := by
  obtain ⟨W, hW, hB, hk, hlt⟩ := box1 w #[.slice Aq p.quo.length cq, .slice Ac p.cons.length cc] 25
  have hc := hk.cell
  have hpc := pcheck_any Aq cq Ac cc p W (h.ext hB)
  have hrd := h.ext hB
  have hlv := levels_nil
  have hmo := most_nil
  have hqm := h.qm
  have hq0 : ∀ x ∈ p.quo, 0 ≤ x := fun x hx => by
    unfold Pln.chk at h0
    split at h0
    · cases h0
    · split at h0
      · cases h0
      · rename_i h2
        simp only [List.any_eq_true, not_exists, not_and, quoB] at h2
        have := h2 x hx
        simp only [Bool.or_eq_true, decide_eq_true_eq] at this
        omega
  have Hq0 := Lib.hid hq0
  clear hq0
  rw [h0] at hpc
  clear h0
  unfold Pln.val at hpc ⊢
  go_enter Tryz.func91, Tryz.ntmps91
  go_wp2_with fail
  clear hW
  refine hpc.mono ?_
  clear hpc
  rintro e w1 ⟨rfl, hb1⟩
  have hE1 := hB.trans hb1
  have hrd1 := hrd.ext hb1
  have c1 := (hk.ext hb1).cell
  have l1 := (hk.ext hb1).lt
  go_wp2_with fail
  go_loopg [17] 0 (fun q k wr => k = .int .i64 0 ∧ Ext w1 wr)
  case atStart => exact ⟨rfl, Ext.refl _⟩
  case round =>
    obtain ⟨rfl, hx0⟩ := hrel
    obtain ⟨wo, rfl⟩ : ∃ wo, wo = wr := ⟨_, rfl⟩
    obtain ⟨gko, rfl⟩ : ∃ g, g = gk := ⟨_, rfl⟩
    have hE2 := hE1.trans hx0
    have hrd2 := hrd1.ext hx0
    have c2 := ((hk.ext hb1).ext hx0).cell
    have l2 := ((hk.ext hb1).ext hx0).lt
    clear c1 l1
    go_wp2_with fail
    go_loopg [42] p.quo.length (fun n k wr => ∃ j : Nat, j + n = p.quo.length ∧ k = .int .i64 j ∧ Ext wo wr)
    case atStart => exact ⟨0, by omega, rfl, Ext.refl _⟩
    case round =>
      obtain ⟨j, hjq, rfl, hx⟩ := hrel
      have Hjq := Lib.hid hjq
      have hjN : j ≤ p.quo.length := by omega
      clear hjq
      by_cases hlt2 : j < p.quo.length
      · obtain ⟨b1, o1, rfl, hb1', g1⟩ := (hrd2.q.ext hx).int hlt2
        have hx0 := Hq0.out _ (List.getElem_mem hlt2)
        generalize hxe : p.quo[j] = x at *
        clear hxe
        go_wp2_with fail
        refine (hlv _ _).mono ?_
        rintro e w4 ⟨rfl, hb4⟩
        go_wp2_with fail
        refine (hmo _).mono ?_
        rintro e w5 ⟨rfl, hb5⟩
        have hd : decide (x < 0) = false := decide_eq_false (by omega)
        go_wp2
        go_roundg (gk - 1)
        case measure => have := Hjq.out; omega
        case rel => exact ⟨j + 1, by have := Hjq.out; omega, rfl, (hx.trans hb4).trans hb5⟩
      · go_wp2
        go_ret
        exact ⟨rfl, hE2.trans hx⟩

set_option maxRecDepth 100000 in
set_option maxHeartbeats 4000000 in
theorem tables_nil (Aq : Option Addr) (cq : Nat) (Ac : Option Addr) (cc : Nat) (p : Pln) (w : World) (h : PlnRd w Aq cq Ac cc p) (h0 : p.chk = 0) :
    Calls Tryz.prog 59 #[.agg #[.slice Aq p.quo.length cq, .slice Ac p.cons.length cc, .slice none 0 0, .slice none 0 0]] w fun e w' => e = .returned (.int .i64 0) ∧ Ext w w' := by
  obtain ⟨W, hW, hB, hk, hlt⟩ := box1 w #[.slice Aq p.quo.length cq, .slice Ac p.cons.length cc, .slice none 0 0, .slice none 0 0] 82
  have hc := hk.cell
  have hpc := pcheck_any Aq cq Ac cc p W (h.ext hB)
  have hrd := h.ext hB
  have hbc := fun w h => bCheck_any Aq cq Ac cc p none 0 [] w h (Rd.nil) (by simp)
  have hsc := fun w h => sCheck_nil Aq cq Ac cc p w h h0
  rw [h0] at hpc
  have hb0 : p.bkChk [] = 0 := by unfold Pln.bkChk; rw [if_pos h0]; rfl
  rw [hb0] at hbc
  clear h0 hb0
  unfold Pln.val at hpc hbc hsc
  simp only [List.length_nil] at hbc
  go_enter Tryz.func59, Tryz.ntmps59
  go_wp2_with fail
  clear hW
  refine hpc.mono ?_
  clear hpc
  rintro e w1 ⟨rfl, hb1⟩
  have c1 := (hk.ext hb1).cell
  have l1 := (hk.ext hb1).lt
  go_wp2_with fail
  refine (hbc _ (hrd.ext hb1)).mono ?_
  rintro e w2 ⟨rfl, hb2⟩
  have c2 := ((hk.ext hb1).ext hb2).cell
  have l2 := ((hk.ext hb1).ext hb2).lt
  go_wp2_with fail
  refine (hsc _ ((hrd.ext hb1).ext hb2)).mono ?_
  rintro e w3 ⟨rfl, hb3⟩
  go_wp2
  go_ret
  exact ⟨rfl, ((hB.trans hb1).trans hb2).trans hb3⟩

end Go.Proofs.YtmaengcmhopmbaaGreat

namespace Go.Proofs.YtmaengcmhopmbaaGreat
set_option linter.unusedVariables false
set_option linter.unusedSimpArgs false
open Go.RowKit Go.Shelf
attribute [local go_sem] Oper.semAt_some

set_option maxRecDepth 100000 in
set_option maxHeartbeats 4000000 in
theorem idxBk_nil (f : Value) (w : World) : Calls Tryz.prog 88 #[.slice none 0 0, f] w fun e w' => e = .returned (.int .i64 (-1)) ∧ Ext w w' := by
  go_enter Tryz.func88, Tryz.ntmps88
  go_wp2_with fail
  go_loopg [8] 0 (fun q k wr => k = .int .i64 0 ∧ wr = w)
  case atStart => exact ⟨rfl, rfl⟩
  case round =>
    obtain ⟨rfl, rfl⟩ := hrel
    go_wp2_with fail
    go_ret
    exact ⟨rfl, Ext.refl _⟩
set_option maxRecDepth 100000 in
set_option maxHeartbeats 4000000 in
theorem cntBk_nil (f : Value) (w : World) : Calls Tryz.prog 55 #[.slice none 0 0, f] w fun e w' => e = .returned (.bool false) ∧ Ext w w' := by
  have h := fun w => idxBk_nil f w
  go_enter Tryz.func55, Tryz.ntmps55
  go_wp2_with fail
  refine (h _).mono ?_
  rintro e w1 ⟨rfl, hb1⟩
  go_wp2_with fail
  go_ret
  exact ⟨rfl, hb1⟩
set_option maxRecDepth 100000 in
set_option maxHeartbeats 4000000 in
theorem idxTk_nil (f : Value) (w : World) : Calls Tryz.prog 80 #[.slice none 0 0, f] w fun e w' => e = .returned (.int .i64 (-1)) ∧ Ext w w' := by
  go_enter Tryz.func80, Tryz.ntmps80
  go_wp2_with fail
  go_loopg [8] 0 (fun q k wr => k = .int .i64 0 ∧ wr = w)
  case atStart => exact ⟨rfl, rfl⟩
  case round =>
    obtain ⟨rfl, rfl⟩ := hrel
    go_wp2_with fail
    go_ret
    exact ⟨rfl, Ext.refl _⟩
set_option maxRecDepth 100000 in
set_option maxHeartbeats 4000000 in
theorem cloneBk_nil (w : World) : Calls Tryz.prog 60 #[.slice none 0 0] w fun e w' => e = .returned (.slice none 0 0) ∧ Ext w w' := by
  have q22 : ∀ (w : World) (a : Option Addr) (n c n' c' : Nat), (binOp .eql 43 (.slice a n c) (.slice none n' c')).run Tryz.prog w = .ok (.bool a.isNone) w := fun w a n c n' c' => Lib.run_eql_slice_nil w _ _ a n c n' c' Tryz.underlying43
  go_enter Tryz.func60, Tryz.ntmps60
  go_wp2_with fail
  go_ret
  exact ⟨rfl, Ext.refl _⟩
set_option maxRecDepth 100000 in
set_option maxHeartbeats 4000000 in
theorem cloneTk_nil (w : World) : Calls Tryz.prog 79 #[.slice none 0 0] w fun e w' => e = .returned (.slice none 0 0) ∧ Ext w w' := by
  have q22 : ∀ (w : World) (a : Option Addr) (n c n' c' : Nat), (binOp .eql 44 (.slice a n c) (.slice none n' c')).run Tryz.prog w = .ok (.bool a.isNone) w := fun w a n c n' c' => Lib.run_eql_slice_nil w _ _ a n c n' c' Tryz.underlying44
  go_enter Tryz.func79, Tryz.ntmps79
  go_wp2_with fail
  go_ret
  exact ⟨rfl, Ext.refl _⟩

set_option maxRecDepth 100000 in
set_option maxHeartbeats 4000000 in
theorem stableBk_nil (f : Value) (w : World) : Calls Tryz.prog 92 #[.slice none 0 0, f] w fun e w' => e = .returned (.tuple #[]) ∧ Ext w w' := by
  have hi : ∀ w, Calls Tryz.prog 150 #[.slice none 0 0, .int .i64 0, .int .i64 0, f] w fun e w' => e = .returned (.tuple #[]) ∧ Ext w w' := fun w => by
    go_enter Tryz.func150, Tryz.ntmps150
    go_wp2_with fail
    go_loopg [8] 1 (fun q k wr => k = .int .i64 1 ∧ wr = w)
    case atStart => exact ⟨rfl, rfl⟩
    case round =>
      obtain ⟨rfl, rfl⟩ := hrel
      go_wp2_with fail
      go_end0
      exact ⟨rfl, Ext.refl _⟩
  have hs : ∀ w, Calls Tryz.prog 128 #[.slice none 0 0, .int .i64 0, f] w fun e w' => e = .returned (.tuple #[]) ∧ Ext w w' := fun w => by
    go_enter Tryz.func128, Tryz.ntmps128
    go_wp2_with fail
    go_loopg [7, 8] 0 (fun q a b wr => a = .int .i64 0 ∧ b = .int .i64 20 ∧ wr = w)
    case atStart => exact ⟨rfl, rfl, rfl⟩
    case round =>
      obtain ⟨rfl, rfl, rfl⟩ := hrel
      go_wp2_with fail
      refine (hi _).mono ?_
      rintro e w1 ⟨rfl, hb1⟩
      go_wp2_with fail
      go_loopg [6, 7, 8] 0 (fun q s a b wr => s = .int .i64 20 ∧ a = .int .i64 0 ∧ b = .int .i64 20 ∧ wr = w1)
      case atStart => exact ⟨rfl, rfl, rfl, rfl⟩
      case round =>
        obtain ⟨rfl, rfl, rfl, rfl⟩ := hrel
        go_wp2_with fail
        go_end0
        exact ⟨rfl, hb1⟩
  clear hi
  go_enter Tryz.func92, Tryz.ntmps92
  go_wp2_with fail
  refine (hs _).mono ?_
  rintro e w1 ⟨rfl, hb1⟩
  go_wp2_with fail
  go_end0
  exact ⟨rfl, hb1⟩
set_option maxRecDepth 100000 in
set_option maxHeartbeats 4000000 in
theorem stableHd_nil (f : Value) (w : World) : Calls Tryz.prog 99 #[.slice none 0 0, f] w fun e w' => e = .returned (.tuple #[]) ∧ Ext w w' := by
  have hi : ∀ w, Calls Tryz.prog 152 #[.slice none 0 0, .int .i64 0, .int .i64 0, f] w fun e w' => e = .returned (.tuple #[]) ∧ Ext w w' := fun w => by
    go_enter Tryz.func152, Tryz.ntmps152
    go_wp2_with fail
    go_loopg [8] 1 (fun q k wr => k = .int .i64 1 ∧ wr = w)
    case atStart => exact ⟨rfl, rfl⟩
    case round =>
      obtain ⟨rfl, rfl⟩ := hrel
      go_wp2_with fail
      go_end0
      exact ⟨rfl, Ext.refl _⟩
  have hs : ∀ w, Calls Tryz.prog 130 #[.slice none 0 0, .int .i64 0, f] w fun e w' => e = .returned (.tuple #[]) ∧ Ext w w' := fun w => by
    go_enter Tryz.func130, Tryz.ntmps130
    go_wp2_with fail
    go_loopg [7, 8] 0 (fun q a b wr => a = .int .i64 0 ∧ b = .int .i64 20 ∧ wr = w)
    case atStart => exact ⟨rfl, rfl, rfl⟩
    case round =>
      obtain ⟨rfl, rfl, rfl⟩ := hrel
      go_wp2_with fail
      refine (hi _).mono ?_
      rintro e w1 ⟨rfl, hb1⟩
      go_wp2_with fail
      go_loopg [6, 7, 8] 0 (fun q s a b wr => s = .int .i64 20 ∧ a = .int .i64 0 ∧ b = .int .i64 20 ∧ wr = w1)
      case atStart => exact ⟨rfl, rfl, rfl, rfl⟩
      case round =>
        obtain ⟨rfl, rfl, rfl, rfl⟩ := hrel
        go_wp2_with fail
        go_end0
        exact ⟨rfl, hb1⟩
  clear hi
  go_enter Tryz.func99, Tryz.ntmps99
  go_wp2_with fail
  refine (hs _).mono ?_
  rintro e w1 ⟨rfl, hb1⟩
  go_wp2_with fail
  go_end0
  exact ⟨rfl, hb1⟩

set_option maxRecDepth 100000 in
set_option maxHeartbeats 4000000 in
theorem sorted_nil (Aq Ac : Option Addr) (nq cq nc cc : Nat) (w : World) :
    Calls Tryz.prog 63 #[.agg #[.slice Aq nq cq, .slice Ac nc cc, .slice none 0 0, .slice none 0 0]] w fun e w' => e = .returned (.agg #[.slice Aq nq cq, .slice Ac nc cc, .slice none 0 0, .slice none 0 0]) ∧ Ext w w' := by
  obtain ⟨W, hW, hB, hk, hk2, hlt, hlt2⟩ := box2 w #[.slice Aq nq cq, .slice Ac nc cc, .slice none 0 0, .slice none 0 0] #[.slice none 0 0, .slice none 0 0, .slice none 0 0, .slice none 0 0] 82 82
  have h1 := stableBk_nil
  have h2 := stableHd_nil
  have c1 := hk.cell
  go_enter Tryz.func63, Tryz.ntmps63
  go_wp2_with fail
  clear hW
  refine (h1 _ _).mono ?_
  rintro e w1 ⟨rfl, hb1⟩
  have c2 := (hk.ext hb1).cell
  have l2 := (hk.ext hb1).lt
  go_wp2_with fail
  refine (h2 _ _).mono ?_
  rintro e w2 ⟨rfl, hb2⟩
  have hb := hb1.trans hb2
  have c3 := (hk.ext hb).cell
  have l3 := (hk.ext hb).lt
  have k3 := hk2.ext hb
  have l4 := k3.lt
  have f4 := k3.frozen
  have c4 := k3.cell
  go_wp2
  obtain ⟨w7, hw7, hz7, hE7⟩ : ∃ w7, w2.setCells (w.heap.size + 1) 0 [.slice Aq nq cq, .slice Ac nc cc, .slice none 0 0, .slice none 0 0] = w7 ∧ Blk w7 (w.heap.size + 1) 82 #[.slice Aq nq cq, .slice Ac nc cc, .slice none 0 0, .slice none 0 0] ∧ Ext w w7 :=
    ⟨_, rfl, k3.setCells_ [.slice Aq nq cq, .slice Ac nc cc, .slice none 0 0, .slice none 0 0] 0, ext_setCells (hB.trans hb) (by omega) 0 _⟩
  simp only [World.setCells, Nat.zero_add, Nat.reduceAdd] at hw7
  rw [hw7]
  have hc7 := hz7.cell
  refine bodyPost_ret (v := .agg #[.slice Aq nq cq, .slice Ac nc cc, .slice none 0 0, .slice none 0 0]) (by rw [results_cell1 rfl]; simp [asAddr, Result.andThen, hc7, go_sem]) rfl ?_
  exact ⟨rfl, hE7⟩

/-- Where tables lie. -/
def TabAt (w : World) (x : Value) (cs : Array Value) (w' : World) : Prop :=
  ∃ B, x = .pointer (some ⟨B, 0, none⟩) ∧ w.heap.size ≤ B ∧ Blk w' B 82 cs ∧ Ext w w'

set_option maxRecDepth 100000 in
set_option maxHeartbeats 8000000 in
theorem tables_none (Aq Ac : Option Addr) (nq cq nc cc : Nat) (w : World) :
    Calls Tryz.prog 33 #[.agg #[.slice Aq nq cq, .slice Ac nc cc, .slice none 0 0, .slice none 0 0]] w fun e w' => e = .returned (.agg #[.slice Aq nq cq, .slice Ac nc cc, .slice none 0 0, .slice none 0 0]) ∧ Ext w w' := by
  obtain ⟨W, hW, hB, hk, hk2, hlt, hlt2⟩ := box2 w #[.slice Aq nq cq, .slice Ac nc cc, .slice none 0 0, .slice none 0 0] #[.slice none 0 0, .slice none 0 0, .slice none 0 0, .slice none 0 0] 46 82
  have h1 := cloneBk_nil
  have h2 := sorted_nil Aq Ac nq cq nc cc
  have c1 := hk.cell
  go_enter Tryz.func33, Tryz.ntmps33
  go_wp2_with fail
  clear hW
  go_cut [3] from 6 to 45 (fun x wx => TabAt W x #[.slice Aq nq cq, .slice Ac nc cc, .slice none 0 0, .slice none 0 0] wx)
  case first =>
    have hN := Near.refl W
    go_region_held3 (fun w' => Ext W w' ∧ ∀ b o, b < W.heap.size → w'.cell? ⟨b, o, none⟩ = W.cell? ⟨b, o, none⟩) (first | exact hN.drew | exact Near.step (by assumption) hb9 | exact near_alloc (by assumption) _ | (refine Near.of ?_; repeat (first | exact hx9 | refine Ext.alloc ?_ _ | (refine Ext.setCell ?_ ?_ _; rotate_left; (focus (first | exact Nat.le_refl _ | (dsimp only; omega)))))) | assumption)
      (first | (go_at_call 60; refine (h1 _).mono ?_; rintro e w9 ⟨rfl, hb9⟩; have hx9 : Ext W w9 := Ext.trans (And.left (by assumption)) hb9; have hs9 := hx9.size; have hz9 := fun (hh : Blk _ W.heap.size 82 #[.slice none 0 0, .slice none 0 0, .slice none 0 0, .slice none 0 0]) => Blk.ext hh hb9; (try simp [blk_alloc_iff, blk_drew, blk_no0] at hz9); (try (have hz9c := Blk.cell hz9; have hz9f := Blk.frozen hz9; have hz9l := Blk.lt hz9))))
    all_goals
      try go_wp2_with fail
      go_meet
      first
        | exact ⟨W.heap.size, rfl, Nat.le_refl _, hz9.setCells_ [.slice Aq nq cq, .slice Ac nc cc, .slice none 0 0, .slice none 0 0] 0, ext_setCells hx9 (Nat.le_refl _) 0 [.slice Aq nq cq, .slice Ac nc cc, .slice none 0 0, .slice none 0 0]⟩
        | exact ⟨w9.heap.size, rfl, hx9.size, Blk.new _ _ _, hx9.alloc _⟩
  case rest =>
    obtain ⟨B, rfl, hBl, hk8, hx8⟩ := hcut
    have c2 := (hk.ext hx8).cell
    have l2 := (hk.ext hx8).lt
    go_wp2_with fail
    go_loopg [15] 0 (fun q k wr => k = .int .i64 0 ∧ wr = wc)
    case atStart => exact ⟨rfl, rfl⟩
    case round =>
      obtain ⟨rfl, rfl⟩ := hrel
      have c5 := hk8.cell
      have l5 := hk8.lt
      go_wp2_with fail
      refine (h2 _).mono ?_
      rintro e w3 ⟨rfl, hb3⟩
      have k3 := (hk2.ext hx8).ext hb3
      have l4 := k3.lt
      have f4 := k3.frozen
      have c4 := k3.cell
      go_wp2
      obtain ⟨w7, hw7, hz7, hE7⟩ : ∃ w7, w3.setCells (w.heap.size + 1) 0 [.slice Aq nq cq, .slice Ac nc cc, .slice none 0 0, .slice none 0 0] = w7 ∧ Blk w7 (w.heap.size + 1) 82 #[.slice Aq nq cq, .slice Ac nc cc, .slice none 0 0, .slice none 0 0] ∧ Ext w w7 :=
        ⟨_, rfl, k3.setCells_ [.slice Aq nq cq, .slice Ac nc cc, .slice none 0 0, .slice none 0 0] 0, ext_setCells ((hB.trans hx8).trans hb3) (by omega) 0 _⟩
      simp only [World.setCells, Nat.zero_add, Nat.reduceAdd] at hw7
      rw [hw7]
      have hc7 := hz7.cell
      refine bodyPost_ret (v := .agg #[.slice Aq nq cq, .slice Ac nc cc, .slice none 0 0, .slice none 0 0]) (by rw [results_cell1 rfl]; simp [asAddr, Result.andThen, hc7, go_sem]) rfl ?_
      exact ⟨rfl, hE7⟩

set_option maxRecDepth 100000 in
set_option maxRecDepth 100000 in
set_option maxHeartbeats 8000000 in
theorem lCheck_none (Aq : Option Addr) (cq : Nat) (Ac : Option Addr) (cc : Nat) (p : Pln) (w : World) (h : PlnRd w Aq cq Ac cc p) (h0 : p.chk = 0) :
    Calls Tryz.prog 31 #[.agg #[.slice Aq p.quo.length cq, .slice Ac p.cons.length cc, .slice none 0 0, .slice none 0 0]] w fun e w' => e = .returned (.int .i64 0) ∧ Ext w w' := by
  obtain ⟨W, hW, hB, hk, hlt⟩ := box1 w #[.slice Aq p.quo.length cq, .slice Ac p.cons.length cc, .slice none 0 0, .slice none 0 0] 46
  have hc := hk.cell
  have hrd := h.ext hB
  have hpc := pcheck_any Aq cq Ac cc p W hrd
  have hcn := cntBk_nil
  have hbc := fun w h => bCheck_any Aq cq Ac cc p none 0 [] w h (Rd.nil) (by simp)
  have htb := tables_none Aq Ac p.quo.length cq p.cons.length cc
  have hct := fun w h => tables_nil Aq cq Ac cc p w h h0
  rw [h0] at hpc
  have hb0 : p.bkChk [] = 0 := by unfold Pln.bkChk; rw [if_pos h0]; rfl
  rw [hb0] at hbc
  clear h0 hb0
  unfold Pln.val at hpc hbc
  simp only [List.length_nil] at hbc
  go_enter Tryz.func31, Tryz.ntmps31
  go_wp2_with fail
  clear hW
  refine hpc.mono ?_
  clear hpc
  rintro e w1 ⟨rfl, hb1⟩
  have c1 := (hk.ext hb1).cell
  have l1 := (hk.ext hb1).lt
  go_wp2_with fail
  refine (hcn _ _).mono ?_
  rintro e w2 ⟨rfl, hb2⟩
  have hx2 := hb1.trans hb2
  have c2 := (hk.ext hx2).cell
  have l2 := (hk.ext hx2).lt
  go_wp2_with fail
  go_loopg [4, 25] 0 (fun q a k wr => a = .int .i64 0 ∧ k = .int .i64 0 ∧ wr = w2)
  case atStart => exact ⟨rfl, rfl, rfl⟩
  case round =>
    obtain ⟨rfl, rfl, rfl⟩ := hrel
    go_wp2_with fail
    refine (hbc _ (hrd.ext hx2)).mono ?_
    rintro e w3 ⟨rfl, hb3⟩
    have hx3 := hx2.trans hb3
    have c3 := (hk.ext hx3).cell
    have l3 := (hk.ext hx3).lt
    go_wp2_with fail
    refine (htb _).mono ?_
    rintro e w4 ⟨rfl, hb4⟩
    have hx4 := hx3.trans hb4
    go_wp2_with fail
    refine (hct _ (hrd.ext hx4)).mono ?_
    rintro e w5 ⟨rfl, hb5⟩
    go_wp2
    go_ret
    exact ⟨rfl, (hB.trans hx4).trans hb5⟩

set_option maxRecDepth 100000 in
set_option maxHeartbeats 4000000 in
theorem lNew_any (Aq : Option Addr) (cq : Nat) (Ac : Option Addr) (cc : Nat) (p : Pln) (w : World) (h : PlnRd w Aq cq Ac cc p) (h0 : p.chk = 0) :
    Calls Tryz.prog 13 #[.agg #[.slice Aq p.quo.length cq, .slice Ac p.cons.length cc]] w fun e w' => e = .returned (.tuple #[.agg #[.slice Aq p.quo.length cq, .slice Ac p.cons.length cc, .slice none 0 0, .slice none 0 0], .int .i64 0]) ∧ Ext w w' := by
  obtain ⟨W, hW, hB, hk, hk2, hlt, hlt2⟩ := box2 w #[.slice Aq p.quo.length cq, .slice Ac p.cons.length cc] #[.slice none 0 0, .slice none 0 0, .slice none 0 0, .slice none 0 0] 25 46
  have hc := hk.cell
  have hpc := pcheck_any Aq cq Ac cc p W (h.ext hB)
  rw [h0] at hpc
  clear h0
  unfold Pln.val at hpc
  go_enter Tryz.func13, Tryz.ntmps13
  go_wp2_with fail
  clear hW
  refine hpc.mono ?_
  clear hpc
  rintro e w1 ⟨rfl, hb1⟩
  have c1 := (hk.ext hb1).cell
  have l1 := (hk.ext hb1).lt
  have k3 := hk2.ext hb1
  have l4 := k3.lt
  have f4 := k3.frozen
  have c4 := k3.cell
  go_wp2
  obtain ⟨w7, hw7, hz7, hE7⟩ : ∃ w7, w1.setCells (w.heap.size + 1) 0 [.slice Aq p.quo.length cq, .slice Ac p.cons.length cc, .slice none 0 0, .slice none 0 0] = w7 ∧ Blk w7 (w.heap.size + 1) 46 #[.slice Aq p.quo.length cq, .slice Ac p.cons.length cc, .slice none 0 0, .slice none 0 0] ∧ Ext w w7 :=
    ⟨_, rfl, k3.setCells_ [.slice Aq p.quo.length cq, .slice Ac p.cons.length cc, .slice none 0 0, .slice none 0 0] 0, ext_setCells (hB.trans hb1) (by omega) 0 _⟩
  simp only [World.setCells, Nat.zero_add, Nat.reduceAdd] at hw7
  rw [hw7]
  have hc7 := hz7.cell
  refine bodyPost_ret (v := .tuple #[.agg #[.slice Aq p.quo.length cq, .slice Ac p.cons.length cc, .slice none 0 0, .slice none 0 0], .int .i64 0]) (by rw [results_cell_tmp rfl]; simp [asAddr, Result.andThen, hc7, go_sem]) rfl ?_
  exact ⟨rfl, hE7⟩

end Go.Proofs.YtmaengcmhopmbaaGreat
