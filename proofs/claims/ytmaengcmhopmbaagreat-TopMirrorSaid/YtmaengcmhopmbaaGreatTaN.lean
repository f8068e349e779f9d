/- TopMirror, the example: the ledger is opened and a ticket is put. -/
import Derived.Test.YtmaengcmhopmbaaGreatTaSA
import Derived.Test.YtmaengcmhopmbaaGreatTaGH
import Derived.Deep.AppendLies
import Derived.Deep.RegionLaw
import Derived.BigQuiet
namespace Go.Proofs.YtmaengcmhopmbaaGreat
set_option linter.unusedVariables false
set_option linter.unusedSimpArgs false
open Go.RowKit Go.Shelf
attribute [local go_sem] Oper.semAt_some

/-- A ticket. -/
structure Tk where
  num : Int
  q : Req
  ha : Option Addr
  hn : Nat
  hc : Nat
  state : Int
  til : Int
def Tk.cells (t : Tk) : List Value := [.int .i64 t.num, .int .i64 t.q.src, .int .i64 t.q.dst, .int .i64 t.q.size, .int .i64 t.q.ready, .int .i64 t.q.dead, .int .i64 t.q.prio, .bool t.q.cust, .slice t.ha t.hn t.hc, .int .i64 t.state, .int .i64 t.til]
def ETk : Elt Tk := ⟨Tk.cells, 11, fun _ => rfl, by omega, fun x u hu => by simp [Tk.cells] at hu; rcases hu with h | h | h | h | h | h | h | h | h | h | h <;> subst h <;> rfl⟩
theorem info_tk : (Tryz.prog.info? 56).map (fun i => (i.zero, i.size, i.bytes)) = some (some (.agg #[.int .i64 0, .int .i64 0, .int .i64 0, .int .i64 0, .int .i64 0, .int .i64 0, .int .i64 0, .bool false, .slice none 0 0, .int .i64 0, .int .i64 0]), 11, 104) := by kernel_rfl

set_option maxRecDepth 100000 in
set_option maxHeartbeats 4000000 in
theorem open_none (Aq Ac : Option Addr) (nq cq nc cc : Nat) (w : World) :
    Calls Tryz.prog 37 #[.agg #[.slice Aq nq cq, .slice Ac nc cc, .slice none 0 0, .slice none 0 0]] w fun e w' => e = .returned (.agg #[.slice Aq nq cq, .slice Ac nc cc, .slice none 0 0, .slice none 0 0]) ∧ Ext w w' := by
  obtain ⟨W, hW, hB, hk, hk2, hlt, hlt2⟩ := box2 w #[.slice Aq nq cq, .slice Ac nc cc, .slice none 0 0, .slice none 0 0] #[.slice none 0 0, .slice none 0 0, .slice none 0 0, .slice none 0 0] 46 89
  have h1 := cloneTk_nil
  have c1 := hk.cell
  go_enter Tryz.func37, Tryz.ntmps37
  go_wp2_with fail
  clear hW
  refine (h1 _).mono ?_
  rintro e w1 ⟨rfl, hb1⟩
  have k1 := hk.ext hb1
  have c2 := k1.cell
  have l2 := k1.lt
  have f2 := k1.frozen
  have k3 := hk2.ext hb1
  have l4 := k3.lt
  have f4 := k3.frozen
  have c4 := k3.cell
  go_wp2
  obtain ⟨w5, hw5, k5, k6, hE5⟩ : ∃ w5, w1.setCell ⟨w.heap.size, 3, none⟩ (.slice none 0 0) = w5 ∧ Blk w5 w.heap.size 46 #[.slice Aq nq cq, .slice Ac nc cc, .slice none 0 0, .slice none 0 0] ∧ Blk w5 (w.heap.size + 1) 89 #[.slice none 0 0, .slice none 0 0, .slice none 0 0, .slice none 0 0] ∧ Ext w w5 :=
    ⟨_, rfl, k1.set_ 3 _, k3.far (by simp) _, (hB.trans hb1).setCell (Nat.le_refl _) _⟩
  rw [hw5]
  obtain ⟨w7, hw7, hz7, hE7⟩ : ∃ w7, w5.setCells (w.heap.size + 1) 0 [.slice Aq nq cq, .slice Ac nc cc, .slice none 0 0, .slice none 0 0] = w7 ∧ Blk w7 (w.heap.size + 1) 89 #[.slice Aq nq cq, .slice Ac nc cc, .slice none 0 0, .slice none 0 0] ∧ Ext w w7 :=
    ⟨_, rfl, k6.setCells_ [.slice Aq nq cq, .slice Ac nc cc, .slice none 0 0, .slice none 0 0] 0, ext_setCells hE5 (by omega) 0 _⟩
  simp only [World.setCells, Nat.zero_add, Nat.reduceAdd] at hw7
  rw [hw7]
  have hc7 := hz7.cell
  refine bodyPost_ret (v := .agg #[.slice Aq nq cq, .slice Ac nc cc, .slice none 0 0, .slice none 0 0]) (by rw [results_cell1 rfl]; simp [asAddr, Result.andThen, hc7, go_sem]) rfl ?_
  exact ⟨rfl, hE7⟩

set_option maxRecDepth 100000 in
set_option maxHeartbeats 4000000 in
theorem next_none (B : Nat) (Aq Ac : Option Addr) (nq cq nc cc : Nat) (w : World) (kb : Blk w B 89 #[.slice Aq nq cq, .slice Ac nc cc, .slice none 0 0, .slice none 0 0]) :
    Calls Tryz.prog 38 #[.pointer (some ⟨B, 0, none⟩)] w fun e w' => e = .returned (.int .i64 1) ∧ Ext w w' := by
  have c1 := kb.cell
  have l1 := kb.lt
  go_enter Tryz.func38, Tryz.ntmps38
  go_wp2_with fail
  go_ret
  exact ⟨rfl, Ext.refl _⟩

set_option maxRecDepth 100000 in
set_option maxHeartbeats 8000000 in
theorem set_none (B : Nat) (Aq Ac : Option Addr) (nq cq nc cc : Nat) (t : Tk) (w : World) (kb : Blk w B 89 #[.slice Aq nq cq, .slice Ac nc cc, .slice none 0 0, .slice none 0 0]) :
    Calls Tryz.prog 39 #[.pointer (some ⟨B, 0, none⟩), .agg t.cells.toArray] w fun e w' => (∃ r, e = .returned r) ∧ ∃ u, Owns ETk w' w.heap.size 56 u [t] ∧ Blk w' B 89 #[.slice Aq nq cq, .slice Ac nc cc, .slice none 0 0, u] ∧ (∀ k, k < w.heap.size → k ≠ B → w'.heap[k]? = w.heap[k]?) ∧ w'.os = w.os ∧ w'.tape = w.tape ∧ w'.output = w.output ∧ w.heap.size ≤ w'.heap.size := by
  obtain ⟨i0, hi0, hz0, hz1, hz2⟩ := info_parts info_tk
  obtain ⟨W, hW, hB, hk, hlt⟩ := box1 w t.cells.toArray 56
  simp only [Tk.cells] at hW hk
  have hix := fun f w => idxTk_nil f w
  have kb1 := kb.ext hB
  have c1 := kb1.cell
  have l1 := kb1.lt
  unfold Tk.cells
  go_enter Tryz.func39, Tryz.ntmps39
  go_wp2_with fail
  clear hW
  refine (hix _ _).mono ?_
  rintro e w1 ⟨rfl, hb1⟩
  have kb2 := kb1.ext hb1
  have hk2 := hk.ext hb1
  have a1 := kb2.cell
  have a2 := kb2.lt
  have a3 := kb2.frozen
  have a4 := hk2.cell
  have a5 := hk2.lt
  go_wp2_with fail
  have hx1 := hB.trans hb1
  have hs1 := hx1.size
  have hbl : B < w.heap.size := kb.lt
  go_region_law (refine step_push rfl (.tmp 19) (.tmp 21) _ (by rfl) w.heap.size 56 i0 _ 104 Tryz.underlying44 hi0 hz0 hz1 hz2 (by rfl) (.slice none 0 0) (by rfl) (Owns.none_ (E := ETk) w.heap.size 56) w1.heap.size t (by rfl) (Blk.new w1.drew _ _) (by simp [maxLen]) (by simp) (by simp; omega) ?_; intro v6 w6 hv6 hg6 hat6; have hk6 : KpX w1.heap.size B w1 w6 := KpX.trans (KpX.of_ext (Nat.le_refl _) ((Ext.refl w1).drew.alloc _)) (KpX.grown (by simp) hg6 (fun r e => by cases e)); have kb6 := Blk.kept (kb2.ext ((Ext.refl w1).drew.alloc _)) hg6 (fun e' => by cases e'); have q1 := kb6.lt; have q2 := kb6.frozen; have q3 := kb6.cell; obtain ⟨A6, d6, rfl, hR6⟩ := hv6.form; simp only [List.length_append, List.length_cons, List.length_nil, Nat.zero_add] at hv6 ⊢)
  all_goals
    go_wp2
    refine bodyPost_ret (results_none rfl _ _ _) rfl ?_
    have hset := KpX.trans hk6 (KpX.setCell (n := w1.heap.size) (g := B) w6 3 (.slice A6 1 d6))
    refine ⟨⟨_, rfl⟩, .slice A6 1 d6, ?_, kb6.set_ 3 _, ?_, ?_, ?_, ?_, ?_⟩
    · exact hv6.kept (grown_setCell (World.grownBy.refl w6 (some B)) 3 _) (fun g hg e => by injection e with e; have := (hv6.block hg).1; omega)
    · intro k hk hne
      exact (hset.block k (by omega) hne).trans (hx1.block k hk)
    · exact hset.os.trans hx1.os
    · exact hset.tape.trans hx1.tape
    · exact hset.output.trans hx1.output
    · exact Nat.le_trans hs1 hset.size

set_option maxRecDepth 100000 in
set_option maxHeartbeats 4000000 in
theorem full_few (Aq Ac Ab Ah : Option Addr) (nq cq nc cc nb cb nh ch : Nat) (w : World) (hb : nb ≤ 512) (hh : nh ≤ 512) :
    Calls Tryz.prog 40 #[.agg #[.slice Aq nq cq, .slice Ac nc cc, .slice Ab nb cb, .slice Ah nh ch]] w fun e w' => e = .returned (.bool false) ∧ Ext w w' := by
  obtain ⟨W, hW, hB, hk, hlt⟩ := box1 w #[.slice Aq nq cq, .slice Ac nc cc, .slice Ab nb cb, .slice Ah nh ch] 82
  have c1 := hk.cell
  have d1 : decide (512 < (nb : Int)) = false := decide_eq_false (by omega)
  have d2 : decide (512 < (nh : Int)) = false := decide_eq_false (by omega)
  go_enter Tryz.func40, Tryz.ntmps40
  go_wp2_with fail
  go_ret
  exact ⟨rfl, hB⟩

set_option maxRecDepth 100000 in
set_option maxHeartbeats 4000000 in
theorem crowded_none (Aq Ac : Option Addr) (nq cq nc cc : Nat) (w : World) :
    Calls Tryz.prog 32 #[.agg #[.slice Aq nq cq, .slice Ac nc cc, .slice none 0 0, .slice none 0 0]] w fun e w' => e = .returned (.bool false) ∧ Ext w w' := by
  obtain ⟨W, hW, hB, hk, hlt⟩ := box1 w #[.slice Aq nq cq, .slice Ac nc cc, .slice none 0 0, .slice none 0 0] 46
  have c1 := hk.cell
  go_enter Tryz.func32, Tryz.ntmps32
  go_wp2_with fail
  go_ret
  exact ⟨rfl, hB⟩

end Go.Proofs.YtmaengcmhopmbaaGreat
