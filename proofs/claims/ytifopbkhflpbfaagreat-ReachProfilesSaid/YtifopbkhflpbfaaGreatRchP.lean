
/- Layer 26 (reach): Profile and Fastest. -/
import Derived.Test.YtifopbkhflpbfaaGreatRchL
namespace Go.Proofs.YtifopbkhflpbfaaGreat
set_option linter.unusedVariables false
set_option linter.unusedSimpArgs false
open Go.RowKit Go.Shelf
attribute [local go_sem] Oper.semAt_some

/-- What Profile returns, in memory. -/
def ProR (p : Pln) (src dst n : Int) (w : World) (e : Ending) (w' : World) : Prop :=
  ∃ (A : Option Addr) (c : Nat) (out : List Lev) (b : Int × Int) (er : Int), e = .returned (.tuple #[.slice A out.length c, .int .i64 er]) ∧
    Owns ELev w' w.heap.size 39 (.slice A out.length c) out ∧ Ext w w' ∧ LevP p src dst n out b er
/-- What Fastest returns. -/
def FstR (p : Pln) (src dst n : Int) (w : World) (e : Ending) (w' : World) : Prop :=
  ∃ (out : List Lev) (b : Int × Int) (er : Int), e = .returned (.tuple #[.agg #[.int .i64 (fstB out b er).1, .int .i64 (fstB out b er).2], .int .i64 (fstE out er)]) ∧ Ext w w' ∧ LevP p src dst n out b er

set_option maxRecDepth 100000 in
set_option maxHeartbeats 4000000 in
theorem Profile_any (Aq : Option Addr) (cq : Nat) (Ac : Option Addr) (cc : Nat) (p : Pln) (src dst n : Int) (w : World) (h : PlnRd w Aq cq Ac cc p) :
    Calls Tryz.prog 6 #[p.val Aq cq Ac cc, .int .i64 src, .int .i64 dst, .int .i64 n] w (ProR p src dst n w) := by
  obtain ⟨W, hW, hB, hk, hlt⟩ := box1 w #[.slice Aq p.quo.length cq, .slice Ac p.cons.length cc] 25
  have hc := hk.cell
  have hL := levels_any Aq cq Ac cc p src dst n W (h.ext hB)
  unfold Pln.val at hL ⊢
  go_enter Tryz.func6, Tryz.ntmps6
  go_wp2_with fail
  clear hW
  refine hL.mono ?_
  clear hL
  rintro e w1 ⟨A, c, out, b1, b2, er, rfl, ho, hx, hp⟩
  go_wp2
  go_ret2
  exact ⟨A, c, out, (b1, b2), er, rfl, (ho.mono hB.size).ext ((Ext.refl _).alloc _), (hB.trans hx).alloc _, hp⟩

set_option maxRecDepth 100000 in
set_option maxHeartbeats 4000000 in
theorem Fastest_any (Aq : Option Addr) (cq : Nat) (Ac : Option Addr) (cc : Nat) (p : Pln) (src dst n : Int) (w : World) (h : PlnRd w Aq cq Ac cc p) :
    Calls Tryz.prog 8 #[p.val Aq cq Ac cc, .int .i64 src, .int .i64 dst, .int .i64 n] w (FstR p src dst n w) := by
  obtain ⟨W, hW, hB, hk, hlt⟩ := box1 w #[.slice Aq p.quo.length cq, .slice Ac p.cons.length cc] 25
  obtain ⟨W2, hW2, hB2, hk2, hlt2⟩ := box1 W #[.int .i64 0, .int .i64 0] 33
  have hc := (hk.ext hB2).cell
  have hL := levels_any Aq cq Ac cc p src dst n W2 (h.ext (hB.trans hB2))
  unfold Pln.val at hL ⊢
  go_enter Tryz.func8, Tryz.ntmps8
  go_wp2_with fail
  clear hW hW2
  refine hL.mono ?_
  clear hL
  rintro e w1 ⟨A, c, out, b1, b2, er, rfl, ho, hx, hp⟩
  have hk3 := hk2.ext hx
  have c3 := hk3.cell
  have f3 := hk3.frozen
  have l3 := hk3.lt
  have hne : ¬ W.heap.size = w1.heap.size := by have := hk3.lt; omega
  by_cases h0 : er = 0
  · by_cases h1 : out.length = 0
    · have HE := Lib.hid (show fstE out er = 18 by unfold fstE; rw [if_pos h0, if_pos (List.eq_nil_of_length_eq_zero h1)])
      have HB := Lib.hid (show fstB out (b1, b2) er = (0, 0) by unfold fstB; rw [if_pos h0, if_pos (List.eq_nil_of_length_eq_zero h1)])
      have d0 : (er != 0) = false := by rw [h0]; rfl
      have d1 : ((out.length : Int) == 0) = true := by rw [h1]; rfl
      clear h0 h1
      obtain ⟨w7, hw7, hz7, hE7⟩ : ∃ w7, ((w1.setCell ⟨W.heap.size, 0, none⟩ (.int .i64 0)).setCell ⟨W.heap.size, 1, none⟩ (.int .i64 0)).alloc (.cells #[.int .i64 b1, .int .i64 b2] 33) = w7 ∧ Blk w7 W.heap.size 33 #[.int .i64 0, .int .i64 0] ∧ Ext w w7 :=
        ⟨_, rfl, ((hk2.ext hx).setCells_ [.int .i64 0, .int .i64 0] 0).ext ((Ext.refl _).alloc _), (ext_setCells ((hB.trans hB2).trans hx) hB.size 0 [.int .i64 0, .int .i64 0]).alloc _⟩
      go_wp2
      have hc7 := hz7.cell
      refine bodyPost_ret (v := .tuple #[.agg #[.int .i64 0, .int .i64 0], .int .i64 18]) (by rw [results_cell_tmp rfl]; simp [asAddr, Result.andThen, hc7, go_sem]) rfl ?_
      exact ⟨out, (b1, b2), er, by rw [HE.out, HB.out], hE7, hp⟩
    · have HE := Lib.hid (show fstE out er = 0 by unfold fstE; rw [if_pos h0, if_neg (fun hh => h1 (by rw [hh]; rfl))])
      have HB := Lib.hid (show fstB out (b1, b2) er = (b1, b2) by unfold fstB; rw [if_pos h0, if_neg (fun hh => h1 (by rw [hh]; rfl))])
      have d0 : (er != 0) = false := by rw [h0]; rfl
      have d1 : ((out.length : Int) == 0) = false := by apply Bool.eq_false_iff.2; intro hh; have := eq_of_beq hh; omega
      clear h0 h1
      obtain ⟨w7, hw7, hz7, hE7⟩ : ∃ w7, ((w1.setCell ⟨W.heap.size, 0, none⟩ (.int .i64 b1)).setCell ⟨W.heap.size, 1, none⟩ (.int .i64 b2)).alloc (.cells #[.int .i64 b1, .int .i64 b2] 33) = w7 ∧ Blk w7 W.heap.size 33 #[.int .i64 b1, .int .i64 b2] ∧ Ext w w7 :=
        ⟨_, rfl, ((hk2.ext hx).setCells_ [.int .i64 b1, .int .i64 b2] 0).ext ((Ext.refl _).alloc _), (ext_setCells ((hB.trans hB2).trans hx) hB.size 0 [.int .i64 b1, .int .i64 b2]).alloc _⟩
      go_wp2
      have hc7 := hz7.cell
      refine bodyPost_ret (v := .tuple #[.agg #[.int .i64 b1, .int .i64 b2], .int .i64 0]) (by rw [results_cell_tmp rfl]; simp [asAddr, Result.andThen, hc7, go_sem]) rfl ?_
      exact ⟨out, (b1, b2), er, by rw [HE.out, HB.out], hE7, hp⟩
  · have HE := Lib.hid (show fstE out er = er by unfold fstE; rw [if_neg h0])
    have HB := Lib.hid (show fstB out (b1, b2) er = (0, 0) by unfold fstB; rw [if_neg h0])
    have d0 : (er != 0) = true := by simpa using h0
    clear h0
    obtain ⟨w7, hw7, hz7, hE7⟩ : ∃ w7, ((w1.setCell ⟨W.heap.size, 0, none⟩ (.int .i64 0)).setCell ⟨W.heap.size, 1, none⟩ (.int .i64 0)).alloc (.cells #[.int .i64 b1, .int .i64 b2] 33) = w7 ∧ Blk w7 W.heap.size 33 #[.int .i64 0, .int .i64 0] ∧ Ext w w7 :=
      ⟨_, rfl, ((hk2.ext hx).setCells_ [.int .i64 0, .int .i64 0] 0).ext ((Ext.refl _).alloc _), (ext_setCells ((hB.trans hB2).trans hx) hB.size 0 [.int .i64 0, .int .i64 0]).alloc _⟩
    go_wp2
    have hc7 := hz7.cell
    refine bodyPost_ret (v := .tuple #[.agg #[.int .i64 0, .int .i64 0], .int .i64 er]) (by rw [results_cell_tmp rfl]; simp [asAddr, Result.andThen, hc7, go_sem]) rfl ?_
    exact ⟨out, (b1, b2), er, by rw [HE.out, HB.out], hE7, hp⟩

end Go.Proofs.YtifopbkhflpbfaaGreat
