/- Layer 28 (storage) where there are no holds. · Layer 35 (multicast): branches compared. · Layer 35 (multicast): the chapter's example, plain. · The example of the chapters' last parts: its plan, its request, its tree, plain. · TopMirror, the example: arrival. · TopMirror, the example: which label a move comes from. · TopMirror, the example: Earliest (the labels' contract as a hypothesis). · TopMirror, the example: the labels, what a round keeps. -/
import Derived.Maps.OwnOps
import Derived.Laws.EntriesVeiled
import Derived.BigQuiet
import Derived.Deep.LoopGhost
import Derived.Deep.AppendLies
import Derived.Test.YtemkpimngbbpkaaGreatTopR01
import Derived.Test.YtemkpimngbbpkaaGreatTopR05
import Derived.Test.YtemkpimngbbpkaaGreatTopR06
import Derived.Test.YtemkpimngbbpkaaGreatTopR17
import Derived.Test.YtemkpimngbbpkaaGreatTopR19
import Derived.Test.YtemkpimngbbpkaaGreatTopR21
import Derived.Test.YtemkpimngbbpkaaGreatTopR22
import Derived.Test.YtemkpimngbbpkaaGreatTopR23
namespace Go.Proofs.YtemkpimngbbpkaaGreat
set_option linter.unusedVariables false
set_option linter.unusedSimpArgs false
set_option linter.unusedVariables false
set_option linter.unusedSimpArgs false
open Go.RowKit Go.Shelf Go.Maps

set_option maxRecDepth 100000 in
set_option maxHeartbeats 4000000 in
theorem isort_nil (w : World) : Calls Tryz.prog 273 #[.slice none 0 0, .int .i64 0, .int .i64 0] w fun e w' => e = .returned (.tuple #[]) ∧ Ext w w' := by
  go_enter Tryz.func273, Tryz.ntmps273
  go_wp2_with fail
  go_loopg [6] 1 (fun q k wr => k = .int .i64 1 ∧ wr = w)
  case atStart => exact ⟨rfl, rfl⟩
  case round =>
    obtain ⟨rfl, rfl⟩ := hrel
    go_wp2_with fail
    go_end0
    exact ⟨rfl, Ext.refl _⟩

set_option maxRecDepth 100000 in
set_option maxHeartbeats 4000000 in
theorem sort_nil (w : World) : Calls Tryz.prog 136 #[.slice none 0 0] w fun e w' => e = .returned (.tuple #[]) ∧ Ext w w' := by
  have hlen := fun w => len_any 0 w (by omega) (by omega)
  have hins := isort_nil
  have hpdq : ∀ (k : Int) w, Calls Tryz.prog 213 #[.slice none 0 0, .int .i64 0, .int .i64 0, .int .i64 k] w fun e w' => e = .returned (.tuple #[]) ∧ Ext w w' := fun k w => by
    clear hlen
    go_enter Tryz.func213, Tryz.ntmps213
    go_wp2_with fail
    go_loopg [1, 2] 0 (fun q a b wr => a = .int .i64 0 ∧ b = .int .i64 0 ∧ wr = w)
    case atStart => exact ⟨rfl, rfl, rfl⟩
    case round =>
      obtain ⟨rfl, rfl, rfl⟩ := hrel
      go_wp2_with fail
      refine (hins _).mono ?_
      rintro e w1 ⟨rfl, h1⟩
      go_wp2_with fail
      refine bodyPost_ret (results_none rfl _ _ _) rfl ?_
      exact ⟨rfl, h1⟩
  clear hins
  go_enter Tryz.func136, Tryz.ntmps136
  go_wp2_with fail
  refine (hlen _).mono ?_
  rintro e w1 ⟨⟨k, rfl⟩, rfl⟩
  go_wp2_with fail
  refine (hpdq k _).mono ?_
  rintro e w2 ⟨rfl, h1⟩
  go_wp2_with fail
  go_end0
  exact ⟨rfl, h1⟩

set_option maxRecDepth 100000 in
set_option maxHeartbeats 4000000 in
theorem most_nil (w : World) : Calls Tryz.prog 241 #[.slice none 0 0] w fun e w' => e = .returned (.int .i64 0) ∧ Ext w w' := by
  go_enter Tryz.func241, Tryz.ntmps241
  go_wp2
  go_loopg [3, 8] 0 (fun q a k wr => a = .int .i64 0 ∧ k = .int .i64 0 ∧ wr = w)
  case atStart => exact ⟨rfl, rfl, rfl⟩
  case round =>
    obtain ⟨rfl, rfl, rfl⟩ := hrel
    go_wp2
    go_ret
    exact ⟨rfl, Ext.refl _⟩

set_option maxRecDepth 100000 in
set_option maxHeartbeats 4000000 in
theorem levels_nil (n : Int) (w : World) : Calls Tryz.prog 242 #[.slice none 0 0, .int .i64 n] w fun e w' => e = .returned (.slice none 0 0) ∧ Ext w w' := by
  have hmm := @run_makeMap Tryz.prog
  have hso := sort_nil
  obtain ⟨W0, hW0, hB0⟩ : ∃ W0, w.alloc (.map #[] 0) = W0 ∧ Ext w W0 := ⟨_, rfl, (Ext.refl _).alloc _⟩
  obtain ⟨W1, hW1, hB1, hk1, hl1⟩ := box1 W0 #[.map (some w.heap.size)] 412
  obtain ⟨W2, hW2, hB2, hk2, hl2⟩ := box1 W1 #[.slice none 0 0] 30
  have hE := (hB0.trans hB1).trans hB2
  have c2 := hk2.cell
  go_enter Tryz.func242, Tryz.ntmps242
  go_wp2_with fail
  go_loopg [18] 0 (fun q k wr => k = .int .i64 0 ∧ wr = W2)
  case atStart => exact ⟨rfl, rfl⟩
  case round =>
    obtain ⟨rfl, rfl⟩ := hrel
    go_wp2_with fail
    refine (hso _).mono ?_
    rintro e w3 ⟨rfl, hb3⟩
    have c3 := (hk2.ext hb3).cell
    go_wp2_with fail
    go_loopg [10, 44] 0 (fun q a k wr => a = .slice none 0 0 ∧ k = .int .i64 0 ∧ wr = w3)
    case atStart => exact ⟨rfl, rfl, rfl⟩
    case round =>
      obtain ⟨rfl, rfl, rfl⟩ := hrel
      go_wp2_with fail
      go_ret
      exact ⟨rfl, hE.trans hb3⟩

set_option maxRecDepth 100000 in
set_option maxHeartbeats 4000000 in
theorem sCheck_nil (Aq : Option Addr) (cq : Nat) (Ac : Option Addr) (cc : Nat) (p : Pln) (w : World) (h : PlnRd w Aq cq Ac cc p) (h0 : p.chk = 0) :
    Calls Tryz.prog 160 #[p.val Aq cq Ac cc, .slice none 0 0] w fun e w' => e = .returned (.int .i64 0) ∧ Ext w w' := by
  obtain ⟨W, hW, hB, hk, hlt⟩ := box1 w #[.slice Aq p.quo.length cq, .slice Ac p.cons.length cc] 68
  have hc := hk.cell
  have hpc := pcheck_any Aq cq Ac cc p W (h.ext hB)
  have hrd := h.ext hB
  have hlv := levels_nil
  have hmo := most_nil
  have hqm := h.qm
  have hq0 : ∀ x ∈ p.quo, 0 ≤ x := fun x hx => by
    unfold Pln.chk at h0
    split at h0
    · cases h0
    · split at h0
      · cases h0
      · rename_i h2
        simp only [List.any_eq_true, not_exists, not_and, quoB] at h2
        have := h2 x hx
        simp only [Bool.or_eq_true, decide_eq_true_eq] at this
        omega
  have Hq0 := Lib.hid hq0
  clear hq0
  rw [h0] at hpc
  clear h0
  unfold Pln.val at hpc ⊢
  go_enter Tryz.func160, Tryz.ntmps160
  go_wp2_with fail
  clear hW
  refine hpc.mono ?_
  clear hpc
  rintro e w1 ⟨rfl, hb1⟩
  have hE1 := hB.trans hb1
  have hrd1 := hrd.ext hb1
  have c1 := (hk.ext hb1).cell
  have l1 := (hk.ext hb1).lt
  go_wp2_with fail
  go_loopg [17] 0 (fun q k wr => k = .int .i64 0 ∧ Ext w1 wr)
  case atStart => exact ⟨rfl, Ext.refl _⟩
  case round =>
    obtain ⟨rfl, hx0⟩ := hrel
    obtain ⟨wo, rfl⟩ : ∃ wo, wo = wr := ⟨_, rfl⟩
    obtain ⟨gko, rfl⟩ : ∃ g, g = gk := ⟨_, rfl⟩
    have hE2 := hE1.trans hx0
    have hrd2 := hrd1.ext hx0
    have c2 := ((hk.ext hb1).ext hx0).cell
    have l2 := ((hk.ext hb1).ext hx0).lt
    clear c1 l1
    go_wp2_with fail
    go_loopg [42] p.quo.length (fun n k wr => ∃ j : Nat, j + n = p.quo.length ∧ k = .int .i64 j ∧ Ext wo wr)
    case atStart => exact ⟨0, by omega, rfl, Ext.refl _⟩
    case round =>
      obtain ⟨j, hjq, rfl, hx⟩ := hrel
      have Hjq := Lib.hid hjq
      have hjN : j ≤ p.quo.length := by omega
      clear hjq
      by_cases hlt2 : j < p.quo.length
      · obtain ⟨b1, o1, rfl, hb1', g1⟩ := (hrd2.q.ext hx).int hlt2
        have hx0 := Hq0.out _ (List.getElem_mem hlt2)
        generalize hxe : p.quo[j] = x at *
        clear hxe
        go_wp2_with fail
        refine (hlv _ _).mono ?_
        rintro e w4 ⟨rfl, hb4⟩
        go_wp2_with fail
        refine (hmo _).mono ?_
        rintro e w5 ⟨rfl, hb5⟩
        have hd : decide (x < 0) = false := decide_eq_false (by omega)
        go_wp2
        go_roundg (gk - 1)
        case measure => have := Hjq.out; omega
        case rel => exact ⟨j + 1, by have := Hjq.out; omega, rfl, (hx.trans hb4).trans hb5⟩
      · go_wp2
        go_ret
        exact ⟨rfl, hE2.trans hx⟩

set_option maxRecDepth 100000 in
set_option maxHeartbeats 4000000 in
theorem tables_nil (Aq : Option Addr) (cq : Nat) (Ac : Option Addr) (cc : Nat) (p : Pln) (w : World) (h : PlnRd w Aq cq Ac cc p) (h0 : p.chk = 0) :
    Calls Tryz.prog 78 #[.agg #[.slice Aq p.quo.length cq, .slice Ac p.cons.length cc, .slice none 0 0, .slice none 0 0]] w fun e w' => e = .returned (.int .i64 0) ∧ Ext w w' := by
  obtain ⟨W, hW, hB, hk, hlt⟩ := box1 w #[.slice Aq p.quo.length cq, .slice Ac p.cons.length cc, .slice none 0 0, .slice none 0 0] 83
  have hc := hk.cell
  have hpc := pcheck_any Aq cq Ac cc p W (h.ext hB)
  have hrd := h.ext hB
  have hbc := fun w h => bCheck_any Aq cq Ac cc p none 0 [] w h (Rd.nil) (by simp)
  have hsc := fun w h => sCheck_nil Aq cq Ac cc p w h h0
  rw [h0] at hpc
  have hb0 : p.bkChk [] = 0 := by unfold Pln.bkChk; rw [if_pos h0]; rfl
  rw [hb0] at hbc
  clear h0 hb0
  unfold Pln.val at hpc hbc hsc
  simp only [List.length_nil] at hbc
  go_enter Tryz.func78, Tryz.ntmps78
  go_wp2_with fail
  clear hW
  refine hpc.mono ?_
  clear hpc
  rintro e w1 ⟨rfl, hb1⟩
  have c1 := (hk.ext hb1).cell
  have l1 := (hk.ext hb1).lt
  go_wp2_with fail
  refine (hbc _ (hrd.ext hb1)).mono ?_
  rintro e w2 ⟨rfl, hb2⟩
  have c2 := ((hk.ext hb1).ext hb2).cell
  have l2 := ((hk.ext hb1).ext hb2).lt
  go_wp2_with fail
  refine (hsc _ ((hrd.ext hb1).ext hb2)).mono ?_
  rintro e w3 ⟨rfl, hb3⟩
  go_wp2
  go_ret
  exact ⟨rfl, ((hB.trans hb1).trans hb2).trans hb3⟩

theorem tabC_nil (Aq : Option Addr) (cq : Nat) (Ac : Option Addr) (cc : Nat) (p : Pln) (w : World) (h : PlnRd w Aq cq Ac cc p) (h0 : p.chk = 0) :
    TabC p [] (.agg #[.slice Aq p.quo.length cq, .slice Ac p.cons.length cc, .slice none 0 0, .slice none 0 0]) 0 w :=
  ⟨fun w' hb => tables_nil Aq cq Ac cc p w' (h.ext hb) h0, fun _ => by unfold Pln.bkChk; rw [if_pos h0]; rfl⟩

end Go.Proofs.YtemkpimngbbpkaaGreat

namespace Go.Proofs.YtemkpimngbbpkaaGreat
set_option linter.unusedVariables false
set_option linter.unusedSimpArgs false
set_option linter.unusedVariables false
set_option linter.unusedSimpArgs false
open Go.RowKit Go.Shelf

end Go.Proofs.YtemkpimngbbpkaaGreat

namespace Go.Proofs.YtemkpimngbbpkaaGreat
set_option linter.unusedVariables false
set_option linter.unusedSimpArgs false
set_option linter.unusedVariables false
open Go.RowKit Go.Shelf

end Go.Proofs.YtemkpimngbbpkaaGreat

namespace Go.Proofs.YtemkpimngbbpkaaGreat
set_option linter.unusedVariables false
set_option linter.unusedSimpArgs false
set_option linter.unusedVariables false
open Go.RowKit Go.Shelf

def exP5 : Pln := ⟨[100, 100, 100], [⟨0, 1, 5, 45, 24, 2, 0⟩, ⟨1, 2, 10, 50, 24, 2, 0⟩]⟩
def exQ5 : Req := ⟨0, 2, 16, 0, 100, 0, false⟩
def exB5 : List Br := [⟨0, 5, 6, 8, -1⟩, ⟨1, 10, 11, 13, 0⟩]
def exT5 : List Int := [0, 8, 13, -1, -1, -1, -1, -1, -1, -1, -1, -1, -1, -1, -1, -1]
def exT51 : List Int := [0, 8, -1, -1, -1, -1, -1, -1, -1, -1, -1, -1, -1, -1, -1, -1]
theorem exP5_chk : exP5.chk = 0 := by kernel_rfl
theorem exF5 : fineR exP5 exQ5 = true := by kernel_rfl
theorem exM5 : memsB exP5.quo.length exQ5.src [1, 2] = true := by kernel_rfl
theorem exGC5 : GC exP5 [] exQ5 := ⟨by kernel_rfl, by decide, by decide⟩
theorem exE51 : exP5.EarlP [] exQ5 (startL exQ5) exT5 := ⟨⟨2, by kernel_rfl⟩, by kernel_rfl⟩
theorem exE52 : exP5.EarlP [] exQ5 exT51 exT5 := ⟨⟨1, by kernel_rfl⟩, by kernel_rfl⟩
theorem exW51 : (exP5.wayF [] exQ5 (startL exQ5) exT5 17 1).reverse.foldl exP5.addB ([], startL exQ5) = (exB5.take 1, exT51) := by kernel_rfl
theorem exW52 : (exP5.wayF [] exQ5 exT51 exT5 17 2).reverse.foldl exP5.addB (exB5.take 1, exT51) = (exB5, exT5) := by kernel_rfl
theorem ex_grow5 {r : Option (List Br × List Int)} (h : exP5.GrowR [] exQ5 [1, 2] ([], startL exQ5) r) : r = some (exB5, exT5) := by
  rw [Pln.GrowR, if_neg (by decide)] at h
  obtain ⟨T, h1, h2⟩ := h
  rw [EarlP.unique exGC5 (by decide) h1 exE51, if_neg (by decide), exW51, Pln.GrowR, if_neg (by decide)] at h2
  obtain ⟨T2, h3, h4⟩ := h2
  rw [EarlP.unique exGC5 (by decide) h3 exE52, if_neg (by decide), exW52, Pln.GrowR] at h4
  exact h4
theorem ex_grow5_call (Aq Ac Am : Option Addr) (cq cc cm : Nat) (w : World) (h : PlnRd w Aq cq Ac cc exP5) (hm : Rd EInt w Am [1, 2]) :
    Calls Tryz.prog 26 #[.agg #[.slice Aq 3 cq, .slice Ac 2 cc, .slice none 0 0, .slice none 0 0], .agg #[.int .i64 0, .int .i64 2, .int .i64 16, .int .i64 0, .int .i64 100, .int .i64 0, .bool false], .slice Am 2 cm] w fun e w' => ∃ A c B d, e = .returned (.tuple #[.slice A 2 c, .slice B 2 d, .int .i64 0]) ∧ Ext w w' := by
  have h1 := Grow_any Aq cq Ac cc exP5 none 0 [] none 0 0 exQ5 Am cm [1, 2] 0 w h Rd.nil hm (by decide) (tabC_nil Aq cq Ac cc exP5 w h exP5_chk)
  refine Calls.mono h1 (fun e w' hh => ?_)
  obtain ⟨hE, ⟨_, r, hr, hs⟩ | ⟨hn, _⟩⟩ := hh
  · obtain rfl := ex_grow5 hr
    obtain ⟨u, v, rfl, hu, hv, _⟩ := hs
    obtain ⟨A, c, rfl, hA⟩ := hu.form
    obtain ⟨B, d, rfl, hB⟩ := hv.form
    exact ⟨A, c, B, d, rfl, hE⟩
  · exact (hn ⟨rfl, exF5, exM5⟩).elim
end Go.Proofs.YtemkpimngbbpkaaGreat

namespace Go.Proofs.YtemkpimngbbpkaaGreat
set_option linter.unusedVariables false
set_option linter.unusedSimpArgs false
set_option linter.unusedVariables false
set_option linter.unusedSimpArgs false
open Go.RowKit Go.Shelf
attribute [local go_sem] Oper.semAt_some

def Lb.arr (x : Lb) (q : Req) (c : Con) : Int := max c.st x.tm + c.dur q.size + c.rng
/-- One label in arrival. -/
def aStep (q : Req) (s : Int × Bool) (x : Lb) (c : Con) : Int × Bool := if c.dst = q.dst ∧ (s.2 = false ∨ x.arr q c < s.1) then (x.arr q c, true) else s

theorem aStep_idem (q : Req) (s : Int × Bool) (x : Lb) (c : Con) : aStep q (aStep q s x c) x c = aStep q s x c := by
  unfold aStep
  by_cases h : c.dst = q.dst ∧ (s.2 = false ∨ x.arr q c < s.1)
  · rw [if_pos h, if_neg (by rintro ⟨_, h1 | h1⟩ <;> simp at h1)]
  · rw [if_neg h, if_neg h]
def aAt (q : Req) (s : Int × Bool) (x : Lb) (c : Con) (pre : List Unit) : Int × Bool := if pre = [] then s else aStep q s x c
theorem aAt_snoc (q : Req) (s : Int × Bool) (x : Lb) (c : Con) (pre : List Unit) (u : Unit) : aAt q s x c (pre ++ [u]) = aStep q (aAt q s x c pre) x c := by
  unfold aAt
  rw [if_neg (by simp)]
  split
  · rfl
  · exact (aStep_idem q s x c).symm
/-- Between two moves. -/
def ARl (q : Req) (s : Int × Bool) (x : Lb) (c : Con) (b6 b7 : Nat) (W0 : World) (lo B : Nat) (ds : List Deferred) (pre : List Unit) (W : World) : Prop :=
  Blk W b6 3 #[.int .i64 (aAt q s x c pre).1] ∧ Blk W b7 4 #[.bool (aAt q s x c pre).2] ∧ Ext W0 W ∧ DSx B lo ds W ∧ B ≤ W.heap.size
theorem ARl.ext {q : Req} {s : Int × Bool} {x : Lb} {c : Con} {b6 b7 : Nat} {W0 : World} {lo B : Nat} {ds : List Deferred} {pre : List Unit} {W W' : World} (h : ARl q s x c b6 b7 W0 lo B ds pre W) (hb : Ext W W') : ARl q s x c b6 b7 W0 lo B ds pre W' :=
  ⟨h.1.ext hb, h.2.1.ext hb, h.2.2.1.trans hb, h.2.2.2.1.ext hb, Nat.le_trans h.2.2.2.2 hb.size⟩
theorem arl_own {q : Req} {s : Int × Bool} {x : Lb} {c : Con} {b6 b7 : Nat} {W0 : World} {lo B : Nat} {ds : List Deferred} (hB : W0.heap.size ≤ B) : OwnFrom B (ARl q s x c b6 b7 W0 lo B ds) := by
  intro pre X Y row hs hg hr
  obtain ⟨h1, h2, h3, h4, h5⟩ := hs
  exact ⟨h1.keptc hg (fun r e => (hr r e).2), h2.keptc hg (fun r e => (hr r e).2), h3.keptb hg (fun r e => Nat.le_trans hB (hr r e).1), h4.kept hg (fun r e => (hr r e).1), Nat.le_trans h5 hg.size⟩
theorem arl_put {q : Req} {s : Int × Bool} {x : Lb} {c : Con} {b6 b7 : Nat} {W0 : World} {lo B n₁ : Nat} {ds : List Deferred} {pre : List Unit} {W wq : World} (u : Unit) (hr : ARl q s x c b6 b7 W0 lo B ds pre W) (hwq : Ext W wq)
    (hup : c.dst = q.dst ∧ ((aAt q s x c pre).2 = false ∨ x.arr q c < (aAt q s x c pre).1)) (h1 : W0.heap.size ≤ b6) (h2 : W0.heap.size ≤ b7) (h3 : b6 ≠ b7) (hn : n₁ ≤ W.heap.size) :
    KeepsFrom B W ((wq.setCell ⟨b6, 0, none⟩ (.int .i64 (x.arr q c))).setCell ⟨b7, 0, none⟩ (.bool true)) ∧ KpP n₁ (fun b => b = b6 ∨ b = b7) W ((wq.setCell ⟨b6, 0, none⟩ (.int .i64 (x.arr q c))).setCell ⟨b7, 0, none⟩ (.bool true)) ∧ ARl q s x c b6 b7 W0 lo B ds (pre ++ [u]) ((wq.setCell ⟨b6, 0, none⟩ (.int .i64 (x.arr q c))).setCell ⟨b7, 0, none⟩ (.bool true)) := by
  obtain ⟨q1, q2, q3, q4, q5⟩ := hr
  have e : aAt q s x c (pre ++ [u]) = (x.arr q c, true) := by rw [aAt_snoc]; unfold aStep; rw [if_pos hup]
  have hk := ((hwq.keeps.trans (KeepsOthers.setCell _ _ _)).trans (KeepsOthers.setCell _ _ _) : KeepsOthers W ((wq.setCell ⟨b6, 0, none⟩ (.int .i64 (x.arr q c))).setCell ⟨b7, 0, none⟩ (.bool true)))
  refine ⟨hk.from _, ((KpP.of_ext hn hwq).setCell (.inl (.inl rfl)) _ _).setCell (.inl (.inr rfl)) _ _, ?_, ?_, ?_, ?_, ?_⟩
  · rw [e]
    exact ((q1.ext hwq).set0 _).far (by simpa using h3) _
  · rw [e]
    exact ((q2.ext hwq).far (by simpa using h3.symm) _).set0 _
  · exact ((q3.trans hwq).setCell h1 _).setCell (by show W0.heap.size ≤ b7; omega) _
  · exact ((q4.ext hwq).setCell _ _).setCell _ _
  · exact Nat.le_trans q5 hk.size
theorem arl_same {q : Req} {s : Int × Bool} {x : Lb} {c : Con} {b6 b7 : Nat} {W0 : World} {lo B n₁ : Nat} {ds : List Deferred} {pre : List Unit} {W wq : World} (u : Unit) (hr : ARl q s x c b6 b7 W0 lo B ds pre W) (hwq : Ext W wq)
    (hup : ¬ (c.dst = q.dst ∧ ((aAt q s x c pre).2 = false ∨ x.arr q c < (aAt q s x c pre).1))) (hn : n₁ ≤ W.heap.size) :
    KeepsFrom B W wq ∧ KpP n₁ (fun b => b = b6 ∨ b = b7) W wq ∧ ARl q s x c b6 b7 W0 lo B ds (pre ++ [u]) wq := by
  have e : aAt q s x c (pre ++ [u]) = aAt q s x c pre := by rw [aAt_snoc]; unfold aStep; rw [if_neg hup]
  obtain ⟨q1, q2, q3, q4, q5⟩ := hr.ext hwq
  exact ⟨hwq.keeps.from _, KpP.of_ext hn hwq, by rw [e]; exact q1, by rw [e]; exact q2, q3, q4, q5⟩

theorem results_tmp2z {fn : Func} {a b : Tmp} (h : fn.results = #[.tmp a, .tmp b]) (tmps : Array Value) (P : Program) (w : World) : (results fn tmps).run P w = .ok (.tuple #[tmps.getD a undef, tmps.getD b undef]) w := by
  simp only [results, h]
  simp [Sem.run_bind, Result.andThen]

set_option maxRecDepth 100000 in
set_option maxHeartbeats 4000000 in
theorem arrival_any (Aq : Option Addr) (cq : Nat) (Ac : Option Addr) (cc : Nat) (p : Pln) (q : Req) (base B : Nat) (Al : Option Addr) (cl : Nat) (L : List Lb) (f : Nat → Nat × Con) (st : Nat → Int × Bool) (w : World) (h : PlnRd w Aq cq Ac cc p) (hg : GAt Aq cq Ac cc p q base w B) (hl : Rd ELb w Al L) (hlm : L.length ≤ 64)
    (hD : ∀ k (h : k < L.length), MvD p q L[k] (f k).1 (f k).2) (hs0 : st 0 = (0, false)) (hs : ∀ k (h : k < L.length), st (k + 1) = aStep q (st k) L[k] (f k).2) :
    Calls Tryz.prog 122 #[.pointer (some ⟨B, 0, none⟩), .slice Al L.length cl] w fun e w' => e = .returned (.tuple #[.int .i64 (st L.length).1, .bool (st L.length).2]) ∧ Ext w w' := by
  obtain ⟨W0, hW0, hB0, hk0, hl0⟩ := box1 w #[.pointer (some ⟨B, 0, none⟩)] 224
  obtain ⟨W1, hW1, hB1, hkb, hki, hl1, hl1'⟩ := box2 W0 #[.int .i64 0] #[.bool false] 3 4
  obtain ⟨W2, hW2⟩ : ∃ W2, (W1.setCell ⟨W0.heap.size, 0, none⟩ (.int .i64 0)).setCell ⟨W0.heap.size + 1, 0, none⟩ (.bool false) = W2 := ⟨_, rfl⟩
  have kb2 : Blk W2 W0.heap.size 3 #[.int .i64 0] := by rw [← hW2]; exact (hkb.set0 _).far (by simp) _
  have ki2 : Blk W2 (W0.heap.size + 1) 4 #[.bool false] := by rw [← hW2]; exact (hki.far (by simp) _).set0 _
  have hB2 : Ext W0 W2 := by rw [← hW2]; exact (hB1.setCell (Nat.le_refl _) _).setCell (by show W0.heap.size ≤ W0.heap.size + 1; omega) _
  have a1 := hkb.lt
  have a2 := hkb.frozen
  have a3 := hkb.cell
  have a4 := hki.lt
  have a5 := hki.frozen
  have a6 := hki.cell
  refine (callsIn_wide (n := 5)).1 ?_
  refine callsIn_of_wp_marks Tryz.func122 rfl trivial ?_ rfl
  refine wpIn_wide.2 ?_
  refine Code.wp_mono NoPanic.imp ?_
  simp only [Tryz.ntmps122, List.size_toArray, List.length_cons, List.length_nil, Nat.reduceAdd, Nat.reduceSub, Array.replicate_succ, Array.replicate_zero, List.push_toArray, List.append_toArray, List.nil_append, List.cons_append]
  go_wp2_with fail
  clear hW0 hW1 hW2 a1 a2 a3 a4 a5 a6 hkb hki hB1 hl1 hl1'
  have hcm := h.cm
  have hE2 := hB0.trans hB2
  have hs2 := hE2.size
  have hs02 := hB2.size
  have hW02 : W0.heap.size + 1 < W2.heap.size := ki2.lt
  refine wp_loop_ghost_k (fun k a wr => ∃ (u9 u14 u15 u16 u17 u18 u19 u44 : Value) (ds : List Deferred) (j : Nat), (j + k = L.length ∧ Blk wr W0.heap.size 3 #[.int .i64 (st j).1] ∧ Blk wr (W0.heap.size + 1) 4 #[.bool (st j).2] ∧ Ext W0 wr ∧ W2.heap.size ≤ wr.heap.size ∧ DSx wr.heap.size W2.heap.size ds wr) ∧
    a = { tmps := #[.pointer (some ⟨B, 0, none⟩), .slice Al L.length cl, .pointer (some ⟨w.heap.size, 0, none⟩), undef, .int .i64 0, .bool false, .pointer (some ⟨W0.heap.size, 0, none⟩), .pointer (some ⟨W0.heap.size + 1, 0, none⟩), undef, u9, undef, .slice Al L.length cl, .int .i64 L.length, .int .i64 j, u14, u15, u16, u17, u18, u19, undef, undef, undef, undef, undef, undef, undef, undef, undef, undef, undef, undef, undef, undef, undef, undef, undef, undef, undef, undef, undef, undef, undef, undef, u44, undef, undef], defers := ds }) L.length ?_ ?_
  · exact ⟨_, _, _, _, _, _, _, _, [], 0, ⟨by omega, by rw [hs0]; exact kb2, by rw [hs0]; exact ki2, hB2, Nat.le_refl _, DSx.nil _ _ _⟩, rfl⟩
  · intro gk _ wr hinv
    obtain ⟨u9, u14, u15, u16, u17, u18, u19, u44, ds, j, ⟨hjk, k6, k7, hE, hws, hds⟩, ha⟩ := hinv
    subst ha
    intro _ _ _ _
    have Hjk := Lib.hid hjk
    have hjL : j ≤ L.length := by omega
    clear hjk
    have hEw := hB0.trans hE
    by_cases hlt : j < L.length
    · obtain ⟨b, o, rfl, hb, c0, c1, c2, c3⟩ := (hl.ext hEw).lb hlt
      have hDj := hD j hlt
      have Hst := Lib.hid (hs j hlt)
      generalize L[j] = x at *
      have D0 := Lib.hid hDj
      clear hDj
      obtain ⟨W3, hW3, hB3, hk3, hl3⟩ := box1 wr #[.int .i64 x.node, .int .i64 x.fr, .int .i64 x.til, .int .i64 x.tm] 308
      have t1 := hk3.cell
      have t2 := hk3.lt
      have t3 := (hk0.ext (hE.trans hB3)).cell
      have t4 := (hk0.ext (hE.trans hB3)).lt
      have hho := fun w => moves_any B x w
      go_wp2_with fail
      clear hW3 t1 t2 t3 t4 c0 c1 c2 c3
      refine (hho _).mono ?_
      clear hho
      rintro e w4 ⟨rfl, hb4, hs4, z1, z2⟩
      have hE4 := (hE.trans hB3).trans hb4
      go_wp2_with fail
      have hn4 : w.heap.size ≤ w4.heap.size := (hB0.trans hE4).size
      have hw3 := hB3.size
      refine (wpIn_wide (n := 5)).1 ?_
      refine wpIn_rangeFunc_ownH rfl (by omega) (gf := 263) (lb := #[.pointer (some ⟨W3.heap.size, 0, none⟩), .pointer (some ⟨W3.heap.size + 1, 0, none⟩)]) rfl trivial (enters_of Tryz.func263 (by kernel_rfl) rfl)
        (moves_stops W3.heap.size (W3.heap.size + 1) w4.heap.size (fun b => b = W0.heap.size ∨ b = W0.heap.size + 1) Aq cq Ac cc p q base B x (f j).1 (f j).2 w w4 h hg D0.out (hB0.trans hE4) (fun k hk => by have := hB0.size; omega) z1 z2 hn4 (Nat.le_refl _) ⟨by omega, by omega⟩ ⟨by omega, by omega⟩)
        KpP.trans (fun W l o o' hl _ _ _ => KpP.put W l o' hl) (Below.refl _ _) (fun _ => rfl)
        (ARl q (st j) x (f j).2 W0.heap.size (W0.heap.size + 1) W0 W2.heap.size w4.heap.size ds) (fun _ _ _ => False) (arl_own (by omega)) (fun _ _ _ _ _ hs _ _ => hs)
        ⟨by unfold aAt; rw [if_pos rfl]; exact (k6.ext hB3).ext hb4, by unfold aAt; rw [if_pos rfl]; exact (k7.ext hB3).ext hb4, hE4, ((hds.ext hB3).ext hb4).more (by omega), Nat.le_refl _⟩
        (fun _ a' W => ∃ Bx, w4.heap.size ≤ Bx ∧ Blk W Bx 313 #[.int .i64 (f j).2.dst, .int .i64 0, .int .i64 1099511627776, .int .i64 (max (f j).2.st x.tm + (f j).2.dur q.size + (f j).2.rng), .int .i64 (f j).1, .int .i64 (max (f j).2.st x.tm), .int .i64 (max (f j).2.st x.tm + (f j).2.dur q.size), .int .i64 (max (f j).2.st x.tm + (f j).2.dur q.size + (f j).2.rng)] ∧ a' = { tmps := #[.pointer (some ⟨B, 0, none⟩), .slice (some ⟨b, o, none⟩) L.length cl, .pointer (some ⟨w.heap.size, 0, none⟩), undef, .int .i64 0, .bool false, .pointer (some ⟨W0.heap.size, 0, none⟩), .pointer (some ⟨W0.heap.size + 1, 0, none⟩), undef, .pointer (some ⟨wr.heap.size, 0, none⟩), .pointer (some ⟨Bx, 0, none⟩), .slice (some ⟨b, o, none⟩) L.length cl, .int .i64 L.length, .int .i64 j, .bool true, .pointer (some ⟨b, o + j * 4, none⟩), .agg #[.int .i64 x.node, .int .i64 x.fr, .int .i64 x.til, .int .i64 x.tm], .pointer (some ⟨B, 0, none⟩), .agg #[.int .i64 x.node, .int .i64 x.fr, .int .i64 x.til, .int .i64 x.tm], .func (.func 263) #[] #[.pointer (some ⟨W3.heap.size, 0, none⟩), .pointer (some ⟨W3.heap.size + 1, 0, none⟩)], .agg #[.int .i64 (f j).2.dst, .int .i64 0, .int .i64 1099511627776, .int .i64 (max (f j).2.st x.tm + (f j).2.dur q.size + (f j).2.rng), .int .i64 (f j).1, .int .i64 (max (f j).2.st x.tm), .int .i64 (max (f j).2.st x.tm + (f j).2.dur q.size), .int .i64 (max (f j).2.st x.tm + (f j).2.dur q.size + (f j).2.rng)], undef, undef, undef, undef, undef, undef, undef, undef, undef, undef, undef, undef, undef, undef, undef, undef, undef, undef, undef, undef, undef, undef, undef, u44, undef, undef], defers := [] })
        (fun _ a' s X Y row hs hg hr => by obtain ⟨Bx, z1, z2, z3⟩ := hs; exact ⟨Bx, z1, z2.keptc hg (fun r e => (hr r e).2), z3⟩) ?assign ?body ?done ?stop
      case assign =>
        rintro li pre y W K hi hK
        have hBW : w4.heap.size ≤ W.heap.size := hi.2.2.2.2
        simp only [mvX]
        gi_wp2
        exact hK _ _ ((KeepsOthers.alloc _ _).from _) (KpP.of_ext hBW ((Ext.refl W).alloc _)) (hi.ext ((Ext.refl W).alloc _)) ⟨W.heap.size, hBW, Blk.new _ _ _, rfl⟩
      case body =>
        rintro li pre y a' W hl ⟨rr, hrr⟩ hARL ⟨Bx, b1, kx, rfl⟩ hlen
        have HARL := Lib.hid hARL
        obtain ⟨q1, q2, q3, q4, q5⟩ := hARL
        obtain ⟨Ag, Ar, Ad, cg, cr, cd, LG, LR, k0, _⟩ := (hg.ext (hB0.trans q3)).out
        unfold gcells at k0
        have hkp := hk0.ext q3
        have hpu := fun wq (hwq : Ext W wq) hup => arl_put (B := w4.heap.size) (n₁ := w4.heap.size) y HARL.out hwq hup (Nat.le_refl _) (by omega) (by omega) q5
        have hps := fun wq (hwq : Ext W wq) hup => arl_same (B := w4.heap.size) (n₁ := w4.heap.size) y HARL.out hwq hup q5
        have Hpu := Lib.hid hpu
        have Hps := Lib.hid hps
        have hfn : ∀ k, Fence.wide.fn k := fun _ => trivial
        have hmix : Tryz.prog.follows .mixedOrders = true := by kernel_rfl
        have HA := Lib.hid (show x.arr q (f j).2 = max (f j).2.st x.tm + (f j).2.dur q.size + (f j).2.rng from rfl)
        obtain ⟨sv, sb, hsv⟩ : ∃ sv sb, aAt q (st j) x (f j).2 pre = (sv, sb) := ⟨_, _, rfl⟩
        have Hsv := Lib.hid hsv
        rw [hsv] at q1 q2
        clear hpu hps hsv
        have l1 := hkp.cell
        have l2 := hkp.lt
        have l3 := kx.cell
        have l4 := kx.lt
        have l5 := k0.cell
        have l6 := k0.lt
        have l7 := q1.cell
        have l8 := q1.lt
        have l9 := q2.cell
        have l10 := q2.lt
        have hne1 : ¬ W0.heap.size = W0.heap.size + 1 := by omega
        have hne2 : ¬ W0.heap.size + 1 = W0.heap.size := by omega
        by_cases e1 : (f j).2.dst = q.dst
        case' neg =>
          have d1 : ((f j).2.dst == q.dst) = false := by simpa using e1
          have HE1 := Lib.hid e1
          clear e1
          gi_wp2
          refine wpIn_region_quiet_round rfl (by kernel_rfl) (by kernel_rfl) (by kernel_rfl) ?_
          repeat (gi_big_quiet_step (fail))
          refine wpQuietIn_nil ?_
          intro wq hwq
          replace hwq := quiet_drew hwq
          have FIN := Lib.hid (Hps.out wq hwq (fun hh => HE1.out hh.1))
          have r2 := kx.ext hwq
          have r3 := q1.ext hwq
          have r4 := q2.ext hwq
          have r5 := r2.cell
          have r6 := r2.lt
          have r8 := r3.lt
          have r9 := r3.frozen
          have r10 := r4.lt
          have r11 := r4.frozen
          have r12 := r3.cell
          have r13 := r4.cell
          clear l1 l2 l3 l4 l5 l6 l7 l8 l9 l10
          gi_wp2
          exact FIN.out
        have d1 : ((f j).2.dst == q.dst) = true := by simpa using e1
        have HE1 := Lib.hid e1
        clear e1
        cases sb with
        | false =>
          gi_wp2
          refine wpIn_region_quiet_round rfl (by kernel_rfl) (by kernel_rfl) (by kernel_rfl) ?_
          repeat (gi_big_quiet_step (fail))
          refine wpQuietIn_nil ?_
          intro wq hwq
          replace hwq := quiet_drew hwq
          have FIN := Lib.hid (Hpu.out wq hwq ⟨HE1.out, .inl (by rw [Hsv.out])⟩)
          have r2 := kx.ext hwq
          have r3 := q1.ext hwq
          have r4 := q2.ext hwq
          have r5 := r2.cell
          have r6 := r2.lt
          have r8 := r3.lt
          have r9 := r3.frozen
          have r10 := r4.lt
          have r11 := r4.frozen
          have r12 := r3.cell
          have r13 := r4.cell
          clear l1 l2 l3 l4 l5 l6 l7 l8 l9 l10
          gi_wp2
          exact FIN.out
        | true =>
          by_cases e2 : x.arr q (f j).2 < sv
          · have d2 : decide (max (f j).2.st x.tm + (f j).2.dur q.size + (f j).2.rng < sv) = true := decide_eq_true e2
            have HE2 := Lib.hid e2
            clear e2
            gi_wp2
            refine wpIn_region_quiet_round rfl (by kernel_rfl) (by kernel_rfl) (by kernel_rfl) ?_
            repeat (gi_big_quiet_step (fail))
            refine wpQuietIn_nil ?_
            intro wq hwq
            replace hwq := quiet_drew hwq
            have FIN := Lib.hid (Hpu.out wq hwq ⟨HE1.out, .inr (by rw [Hsv.out]; exact HE2.out)⟩)
            have r2 := kx.ext hwq
            have r3 := q1.ext hwq
            have r4 := q2.ext hwq
            have r5 := r2.cell
            have r6 := r2.lt
            have r8 := r3.lt
            have r9 := r3.frozen
            have r10 := r4.lt
            have r11 := r4.frozen
            have r12 := r3.cell
            have r13 := r4.cell
            clear l1 l2 l3 l4 l5 l6 l7 l8 l9 l10
            gi_wp2
            exact FIN.out
          · have d2 : decide (max (f j).2.st x.tm + (f j).2.dur q.size + (f j).2.rng < sv) = false := decide_eq_false e2
            have HE2 := Lib.hid e2
            clear e2
            gi_wp2
            refine wpIn_region_quiet_round rfl (by kernel_rfl) (by kernel_rfl) (by kernel_rfl) ?_
            repeat (gi_big_quiet_step (fail))
            refine wpQuietIn_nil ?_
            intro wq hwq
            replace hwq := quiet_drew hwq
            have FIN := Lib.hid (Hps.out wq hwq (by rw [Hsv.out]; rintro ⟨_, h1 | h1⟩ <;> first | (cases h1; done) | (have := HE2.out; dsimp only at h1; omega)))
            have r2 := kx.ext hwq
            have r3 := q1.ext hwq
            have r4 := q2.ext hwq
            have r5 := r2.cell
            have r6 := r2.lt
            have r8 := r3.lt
            have r9 := r3.frozen
            have r10 := r4.lt
            have r11 := r4.frozen
            have r12 := r3.cell
            have r13 := r4.cell
            clear l1 l2 l3 l4 l5 l6 l7 l8 l9 l10
            gi_wp2
            exact FIN.out
      case done =>
        rintro D ys W hDD hS ⟨q1, q2, q3, q4, q5⟩ hK
        subst hS
        have e : aAt q (st j) x (f j).2 [()] = st (j + 1) := by unfold aAt; rw [if_neg (by simp)]; exact Hst.out.symm
        rw [e] at q1 q2
        have hd2 := q4.cons hDD (by omega) hK
        clear hK
        go_wp2_with fail
        go_roundg (gk - 1)
        case measure => have := Hjk.out; omega
        case rel => exact ⟨by have := Hjk.out; show j + 1 + (gk - 1) = L.length; omega, q1, q2, q3, by omega, hd2⟩
      case stop =>
        rintro D c pre W _ _ h _
        exact h.elim
    · obtain rfl : j = L.length := by omega
      have l1 := k6.cell
      have l2 := k6.lt
      have l3 := k7.cell
      have l4 := k7.lt
      have hN := Near.refl wr
      go_wp2_with fail
      have hq := quiet_near hN
      refine wp_region_quiet_below (by kernel_rfl) (by kernel_rfl) ?_
      repeat (first | go_big_quiet_skip | (go_big_quiet_want; go_big_quiet_op; first | go_big_quiet_on | (apply Exists.intro; refine ⟨fun _ => ?_, ?_⟩; (focus (first | fail)); go_big_quiet_on)))
      refine wpQuiet_nil ?_
      intro w1 hw1
      clear hq
      replace hw1 := quiet_ext hw1
      replace hN := hN.step hw1
      have hC := hN.2
      go_wp2
      show LeavesInM _ _ _ _ _ _ ds .returning _
      refine (hds.ext hN.1).leaves ?_
      intro w' hw'
      have hfin := hw' (fun W => Ext w W) (fun s X Y row hs hg hr => hs.keptb hg (fun r e => Nat.le_trans hE2.size (hr r e).1)) (hEw.trans hN.1)
      exact ⟨_, results_tmp2z rfl _ _ _, rfl, hfin⟩

end Go.Proofs.YtemkpimngbbpkaaGreat

namespace Go.Proofs.YtemkpimngbbpkaaGreat
set_option linter.unusedVariables false
set_option linter.unusedSimpArgs false
set_option linter.unusedVariables false
set_option linter.unusedSimpArgs false
open Go.RowKit Go.Shelf
attribute [local go_sem] Oper.semAt_some

/-- To where a label's move leads. -/
def mvL (q : Req) (x : Lb) (c : Con) : Lb := ⟨c.dst, 0, 1099511627776, x.arr q c⟩
/-- Between two moves; and where the move is found. -/
def BRlM (P : Prop) (x : Lb) (b8 : Nat) (W0 : World) (lo B : Nat) (ds : List Deferred) (pre : List Unit) (W : World) : Prop := Ext W0 W ∧ DSx B lo ds W ∧ B ≤ W.heap.size ∧ Blk W b8 308 #[.int .i64 x.node, .int .i64 x.fr, .int .i64 x.til, .int .i64 x.tm] ∧ (pre ≠ [] → P)
theorem BRlM.ext {P : Prop} {x : Lb} {b8 : Nat} {W0 : World} {lo B : Nat} {ds : List Deferred} {pre pre' : List Unit} {W W' : World} (h : BRlM P x b8 W0 lo B ds pre W) (hb : Ext W W') (hp : pre' ≠ [] → P) : BRlM P x b8 W0 lo B ds pre' W' := ⟨h.1.trans hb, h.2.1.ext hb, Nat.le_trans h.2.2.1 hb.size, h.2.2.2.1.ext hb, hp⟩
theorem keeps_setCells : ∀ (vs : List Value) (w : World) (g o : Nat), KeepsOthers w (w.setCells g o vs)
  | [], w, _, _ => (Ext.refl w).keeps
  | v :: vs, w, g, o => (KeepsOthers.setCell w ⟨g, o, none⟩ v).trans (keeps_setCells vs _ g (o + 1))
end Go.Proofs.YtemkpimngbbpkaaGreat

namespace Go.Proofs.YtemkpimngbbpkaaGreat
set_option linter.unusedVariables false
set_option linter.unusedSimpArgs false
set_option linter.unusedVariables false
set_option linter.unusedSimpArgs false
open Go.RowKit Go.Shelf
attribute [local go_sem] Oper.semAt_some

/-- A chain of labels, from the source on. -/
structure LbCh (p : Pln) (q : Req) (L : List Lb) (f : Nat → Nat × Con) : Prop where
  len : 1 ≤ L.length ∧ L.length ≤ 12
  fst : ∀ (h : 0 < L.length), L[0] = ⟨q.src, 0, 1099511627776, q.ready⟩
  src : 0 ≤ q.src ∧ q.src < p.quo.length ∧ p.quo.length ≤ 16
  rdy : 0 ≤ q.ready ∧ q.ready < 1099511627776
  mv : ∀ k (h : k < L.length), MvD p q L[k] (f k).1 (f k).2
  next : ∀ k (h : k + 1 < L.length), (f k).2.dst ≠ q.dst ∧ L[k + 1] = mvL q L[k] (f k).2 ∧ ∀ j (hj : j < L.length), j ≤ k → lbSame L[k + 1] L[j] = false
  last : ∀ k, k + 1 = L.length → (f k).2.dst = q.dst
  ord : ∀ k (h : k + 1 < L.length), ¬ lbC L[k + 1] L[k] < 0
theorem lbSame_comm (x y : Lb) : lbSame x y = lbSame y x := by
  unfold lbSame
  rw [Bool.eq_iff_iff]
  simp only [Bool.and_eq_true, beq_iff_eq]
  exact ⟨fun h => ⟨h.1.symm, h.2.symm⟩, fun h => ⟨h.1.symm, h.2.symm⟩⟩
/-- The label that is asked for when n hops are left. -/
def tgL (q : Req) (L : List Lb) (AT : Int) (n : Nat) : Lb := if h : n < L.length then L[n] else ⟨q.dst, 0, 1099511627776, AT⟩
section
variable {p : Pln} {q : Req} {L : List Lb} {f : Nat → Nat × Con} {AT : Int}
theorem LbCh.fr (C : LbCh p q L f) {k : Nat} (h : k < L.length) : L[k].fr = 0 := by
  cases k with
  | zero => rw [C.fst (by omega)]
  | succ k => rw [(C.next k h).2.1]; rfl
theorem LbCh.ne (C : LbCh p q L f) {j k : Nat} (hjk : j < k) (h : k < L.length) : lbSame L[j] L[k] = false := by
  obtain ⟨k', rfl⟩ : ∃ k', k = k' + 1 := ⟨k - 1, by omega⟩
  rw [lbSame_comm]
  exact (C.next k' h).2.2 j (by omega) (by omega)
theorem LbCh.no (C : LbCh p q L f) {k n : Nat} (hn : n < L.length) (hk : k < n) : lbSame (mvL q (L[k]'(by omega)) (f k).2) (tgL q L AT (n + 1)) = false := by
  have h1 := C.next k (by omega)
  rw [← h1.2.1]
  unfold tgL
  split
  · rename_i h2
    exact C.ne (by omega) h2
  · rw [h1.2.1]
    unfold lbSame mvL
    have := h1.1
    simp [this]
theorem LbCh.start (C : LbCh p q L f) {n : Nat} (hn : n < L.length) (h0 : 0 < n) : (L[n].node == q.src) = false := by
  have h1 := C.ne (j := 0) h0 hn
  rw [C.fst (by omega)] at h1
  unfold lbSame at h1
  have h2 := C.fr hn
  rw [h2] at h1
  simp only [beq_self_eq_true, Bool.and_true] at h1
  rw [beq_eq_false_iff_ne] at h1 ⊢
  exact fun e => h1 e.symm
end

end Go.Proofs.YtemkpimngbbpkaaGreat

namespace Go.Proofs.YtemkpimngbbpkaaGreat
set_option linter.unusedVariables false
set_option linter.unusedSimpArgs false
set_option linter.unusedVariables false
set_option linter.unusedSimpArgs false
open Go.RowKit Go.Shelf
attribute [local go_sem] Oper.semAt_some

theorem kpx_setCells {n g : Nat} : ∀ (vs : List Value) (W : World) (o : Nat), KpX n g W (W.setCells g o vs)
  | [], W, _ => KpX.refl _ _ W
  | v :: vs, W, o => (KpX.setCell (n := n) (g := g) W o v).trans (kpx_setCells vs _ (o + 1))
theorem opL_lt {L : List Lb} {j : Nat} (h : j < L.length) : (L.drop j).take 1 = [L[j]] := by rw [List.drop_eq_getElem_cons h]; rfl
theorem opL_ge {L : List Lb} {j : Nat} (h : ¬ j < L.length) : (L.drop j).take 1 = [] := by rw [List.drop_eq_nil_of_le (by omega)]; rfl
/-- Between two moves of a label. -/
def LRlM (nxt : List Lb) (D : List Lb) (bo bd g b1 n : Nat) (W0 : World) (lo B : Nat) (ds : List Deferred) (pre : List Unit) (W : World) : Prop :=
  ∃ uo ud, Owns ELb W b1 308 uo (pre.flatMap (fun _ => nxt)) ∧ Blk W bo 229 #[uo] ∧ Blk W bd 229 #[ud] ∧ Owns ELb W b1 308 ud D ∧ (∀ b, uo.ownBlock = some b → ud.ownBlock ≠ some b) ∧ (∀ b, uo.ownBlock = some b → b = g ∨ n ≤ b) ∧ (∀ b, ud.ownBlock = some b → b < n) ∧ Ext W0 W ∧ DSx B lo ds W ∧ B ≤ W.heap.size
theorem LRlM.ext {nxt D : List Lb} {bo bd g b1 n : Nat} {W0 : World} {lo B : Nat} {ds : List Deferred} {pre : List Unit} {W W' : World} (h : LRlM nxt D bo bd g b1 n W0 lo B ds pre W) (hb : Ext W W') : LRlM nxt D bo bd g b1 n W0 lo B ds pre W' := by
  obtain ⟨uo, ud, h1, h2, h3, h4, h5, h6, h7, h8, h9, h10⟩ := h
  exact ⟨uo, ud, h1.ext hb, h2.ext hb, h3.ext hb, h4.ext hb, h5, h6, h7, h8.trans hb, h9.ext hb, Nat.le_trans h10 hb.size⟩
theorem lrl_ownM {nxt D : List Lb} {bo bd g b1 n : Nat} {W0 : World} {lo B : Nat} {ds : List Deferred} (hB : W0.heap.size ≤ B) : OwnFrom B (LRlM nxt D bo bd g b1 n W0 lo B ds) := by
  intro pre X Y row hs hg hr
  obtain ⟨uo, ud, h1, h2, h3, h4, h5, h6, h7, h8, h9, h10⟩ := hs
  exact ⟨uo, ud, h1.keptc hg (fun r e => (hr r e).2), h2.keptc hg (fun r e => (hr r e).2), h3.keptc hg (fun r e => (hr r e).2), h4.keptc hg (fun r e => (hr r e).2), h5, h6, h7, h8.keptb hg (fun r e => Nat.le_trans hB (hr r e).1), h9.kept hg (fun r e => (hr r e).1), Nat.le_trans h10 hg.size⟩

theorem results_tmp1z {fn : Func} {a : Tmp} (h : fn.results = #[.tmp a]) (tmps : Array Value) (P : Program) (w : World) : (results fn tmps).run P w = .ok (tmps.getD a undef) w := by
  simp only [results, h]
  simp [Sem.run_bind, Result.andThen]
theorem flat_one {α β : Type} (z : β) : ∀ (l : List α), (l.flatMap (fun _ => [z])).length = l.length
  | [] => rfl
  | _ :: l => by rw [List.flatMap_cons, List.length_append, flat_one z l]; simp; omega
/-- The label is put behind those that are done. -/
theorem lab_put {W5 W w6 W0 : World} {Ad : Option Addr} {cd co g bx j n0 b1 : Nat} {x : Lb} {l : List Lb} {v6 : Value} (hWW : Ext W5 W) (hWs : W5.heap.size < W.heap.size) (kd5 : Blk W5 n0 229 #[.slice Ad j cd]) (ko5 : Blk W5 (n0 + 1) 229 #[.slice (some ⟨g, 0, none⟩) 0 co])
    (kx5 : Blk W5 bx 308 #[.int .i64 x.node, .int .i64 x.fr, .int .i64 x.til, .int .i64 x.tm]) (ho5 : Owns ELb W5 b1 308 (.slice (some ⟨g, 0, none⟩) 0 co) []) (hd5 : Owns ELb W5 b1 308 (.slice Ad j cd) l) (hl : l.length = j) (hdis : ∀ b, (Value.slice Ad j cd).ownBlock = some b → b ≠ g)
    (hbx : ∀ b, (Value.slice Ad j cd).ownBlock = some b → b ≠ bx) (hE5 : Ext W0 W5) (hn0 : W0.heap.size = n0) (hb1 : n0 + 2 ≤ b1)
    (hv6 : Owns ELb w6 b1 308 v6 (l ++ [x])) (hg6 : W.grownBy w6 (Value.slice Ad j cd).ownBlock) (hat : v6.ownBlock = (Value.slice Ad j cd).ownBlock ∨ v6.ownBlock = some W.heap.size) :
    ∃ A6 d6 W7, v6 = .slice A6 (j + 1) d6 ∧ w6.setCell ⟨n0, 0, none⟩ (.slice A6 (j + 1) d6) = W7 ∧ Blk w6 n0 229 #[.slice Ad j cd] ∧ Blk W7 n0 229 #[.slice A6 (j + 1) d6] ∧ Blk W7 (n0 + 1) 229 #[.slice (some ⟨g, 0, none⟩) 0 co] ∧ Blk W7 bx 308 #[.int .i64 x.node, .int .i64 x.fr, .int .i64 x.til, .int .i64 x.tm] ∧
      Owns ELb W7 b1 308 (.slice (some ⟨g, 0, none⟩) 0 co) [] ∧ Owns ELb W7 b1 308 (.slice A6 (j + 1) d6) (l ++ [x]) ∧ Ext W0 W7 ∧ W5.heap.size ≤ W7.heap.size ∧ KeepsOthers W5 W7 ∧ (∀ b, (Value.slice A6 (j + 1) d6).ownBlock = some b → b ≠ g ∧ b < W7.heap.size) := by
  obtain ⟨A6, d6, rfl, hR6⟩ := hv6.form
  have hd := hd5.ext hWW
  have kd6 := Blk.kepttZ (kd5.ext hWW) hd (by decide) hg6
  have ko6 := Blk.kepttZ (ko5.ext hWW) hd (by decide) hg6
  have kx6 := Blk.kept (kx5.ext hWW) hg6 (fun e' => hbx bx e'.symm rfl)
  have ho6 := (ho5.ext hWW).kept hg6 (fun b hb e => hdis b e.symm (by injection hb with hb; exact hb.symm))
  have hE6 := ext_grown (hE5.trans hWW) hd (by omega) hg6
  have hk6 := hWW.keeps.trans (keeps_ownL hd hg6)
  simp only [List.length_append, List.length_cons, List.length_nil, Nat.zero_add, hl] at hv6 hat ⊢
  have hgs := hg6.size
  refine ⟨A6, d6, _, rfl, rfl, kd6, kd6.set0 _, ko6.far (by simp) _, ?_, ho6.setZ kd6 (by decide) 0 _, hv6.setZ kd6 (by decide) 0 _, hE6.setCell (by show W0.heap.size ≤ n0; omega) _, by simp [World.setCell]; omega, hk6.trans (KeepsOthers.setCell _ _ _), ?_⟩
  · refine kx6.far ?_ _
    intro e
    dsimp only at e
    subst e
    have h1 : W5.heap[bx]? = some (.cells _ 229 (0, 0)) := kd5
    have h2 : W5.heap[bx]? = some (.cells _ 308 (0, 0)) := kx5
    rw [h1] at h2
    injection h2 with h2
    injection h2 with _ h2
    exact absurd h2 (by decide)
  · intro b hb
    have hs := (hv6.block hb).2
    refine ⟨?_, by simp [World.setCell]; exact hs⟩
    rcases hat with h | h
    · exact hdis b (by rw [← h]; exact hb)
    · rw [h] at hb
      injection hb with hb
      have := (ho5.block (g := g) rfl).2
      omega
/-- A move's label is put among the open ones. -/
theorem lrl_putM {nxt D : List Lb} {bo bd g b1 n lo B : Nat} {W0 W wq w6 : World} {ds : List Deferred} {pre : List Unit} {y : Lb} {uo ud v6 : Value} (u : Unit) (hn : nxt = [y])
    (h1 : Owns ELb W b1 308 uo (pre.flatMap (fun _ => nxt))) (h2 : Blk W bo 229 #[uo]) (h3 : Blk W bd 229 #[ud]) (h4 : Owns ELb W b1 308 ud D) (h5 : ∀ b, uo.ownBlock = some b → ud.ownBlock ≠ some b) (h6 : ∀ b, uo.ownBlock = some b → b = g ∨ n ≤ b) (h7 : ∀ b, ud.ownBlock = some b → b < n) (h8 : Ext W0 W) (h9 : DSx B lo ds W) (h10 : B ≤ W.heap.size)
    (hx : Ext W wq) (hbo : bo ≠ bd) (hW0 : W0.heap.size ≤ bo) (hb1 : W0.heap.size ≤ b1) (hnB : n ≤ B)
    (hv6 : Owns ELb w6 b1 308 v6 (pre.flatMap (fun _ => nxt) ++ [y])) (hg6 : wq.grownBy w6 uo.ownBlock) (hat : v6.ownBlock = uo.ownBlock ∨ v6.ownBlock = some wq.heap.size) :
    Blk w6 bo 229 #[uo] ∧ KeepsFrom B W (w6.setCell ⟨bo, 0, none⟩ v6) ∧ KpP n (fun b => b = bo ∨ b = g) W (w6.setCell ⟨bo, 0, none⟩ v6) ∧ LRlM nxt D bo bd g b1 n W0 lo B ds (pre ++ [u]) (w6.setCell ⟨bo, 0, none⟩ v6) := by
  have ho := h1.ext hx
  have ko6 := Blk.kepttZ (h2.ext hx) ho (by decide) hg6
  have kd6 := Blk.kepttZ (h3.ext hx) ho (by decide) hg6
  have hd6 := (h4.ext hx).kept hg6 (fun b hb e => h5 b e.symm hb)
  have hE6 := ext_grown (h8.trans hx) ho hb1 hg6
  have hk6 := hx.keeps.trans (keeps_ownL ho hg6)
  have hkk := hk6.trans (KeepsOthers.setCell w6 ⟨bo, 0, none⟩ v6)
  have hgs := hg6.size
  have hxs := hx.size
  refine ⟨ko6, hkk.from _, ?_, v6, ud, ?_, ko6.set0 _, kd6.far (by simpa using hbo.symm) _, hd6.setZ ko6 (by decide) 0 _, ?_, ?_, h7, hE6.setCell hW0 _, h9.keeps hkk, Nat.le_trans h10 hkk.size⟩
  · refine KpP.setCell (KpP.trans (KpP.of_ext (by omega) hx) ⟨hg6.os, hg6.tape, hg6.output, hgs, fun k hk hs => hg6.block k (by omega) (fun e => ?_)⟩) (.inl (.inl rfl)) _ _
    rcases h6 k e.symm with e2 | e2
    · exact hs (.inr e2)
    · omega
  · have e : (pre ++ [u]).flatMap (fun _ => nxt) = pre.flatMap (fun _ => nxt) ++ [y] := by rw [List.flatMap_append, hn]; simp
    rw [e]
    exact hv6.setZ ko6 (by decide) 0 _
  · intro b hb
    rcases hat with h | h
    · exact h5 b (by rw [← h]; exact hb)
    · rw [h] at hb
      injection hb with hb
      intro e
      have := h7 b e
      omega
  · intro b hb
    rcases hat with h | h
    · exact h6 b (by rw [← h]; exact hb)
    · rw [h] at hb
      injection hb with hb
      exact .inr (by omega)
/-- A move to where the bundle is to go. -/
theorem lrl_sameM {nxt D : List Lb} {bo bd g b1 n lo B : Nat} {W0 W wq : World} {ds : List Deferred} {pre : List Unit} (u : Unit) (hn : nxt = []) (h : LRlM nxt D bo bd g b1 n W0 lo B ds pre W) (hx : Ext W wq) (hnB : n ≤ W.heap.size) :
    KeepsFrom B W wq ∧ KpP n (fun b => b = bo ∨ b = g) W wq ∧ LRlM nxt D bo bd g b1 n W0 lo B ds (pre ++ [u]) wq := by
  refine ⟨hx.keeps.from _, KpP.of_ext hnB hx, ?_⟩
  have e : (pre ++ [u]).flatMap (fun _ => nxt) = pre.flatMap (fun _ => nxt) := by rw [List.flatMap_append, hn]; simp
  unfold LRlM
  rw [e]
  exact h.ext hx

end Go.Proofs.YtemkpimngbbpkaaGreat
