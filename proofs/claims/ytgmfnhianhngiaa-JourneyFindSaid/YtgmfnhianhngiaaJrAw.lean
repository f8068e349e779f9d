/- Layer 24 (journey): the chapter's example. -/
import Derived.Test.YtgmfnhianhngiaaJrE
import Derived.Test.YtgmfnhianhngiaaJrX2
namespace Go.Proofs.Ytgmfnhianhngiaa
set_option linter.unusedVariables false
set_option linter.unusedSimpArgs false
open Go.RowKit Go.Shelf

def exP : Pln := ⟨[100, 100, 100], [⟨0, 1, 0, 10, 24, 5, 0⟩, ⟨1, 2, 8, 20, 24, 5, 0⟩, ⟨0, 2, 30, 40, 24, 5, 0⟩]⟩
def exQ : Req := ⟨0, 2, 16, 0, 36, 0, false⟩
def exA : List Hp := [⟨0, 0, 1, 6⟩, ⟨1, 8, 9, 14⟩]
def exB : List Hp := [⟨2, 30, 31, 36⟩]
theorem exP_chk : exP.chk = 0 := by kernel_rfl
theorem exQ_ok : exQ.okB exP.quo.length = true := by kernel_rfl
theorem ex_find : JFind exP exQ exA 0 := by
  unfold JFind
  rw [if_pos ⟨exP_chk, exQ_ok⟩, if_pos (by kernel_rfl)]
  have s1 : lastC (exP.arrQ exQ) 16 2 (gi (exP.arrQ exQ) 2) exP.cons = some (1, ⟨1, 2, 8, 20, 24, 5, 0⟩) := by kernel_rfl
  have s2 : lastC (exP.arrQ exQ) 16 1 (gi (exP.arrQ exQ) 1) exP.cons = some (0, ⟨0, 1, 0, 10, 24, 5, 0⟩) := by kernel_rfl
  have p1 : JP exP.cons (exP.arrQ exQ) 16 0 1 _ := JP.step (by decide) s2 .done
  have p2 : JP exP.cons (exP.arrQ exQ) 16 0 2 _ := JP.step (by decide) s1 p1
  exact ⟨rfl, _, p2, by kernel_rfl⟩
theorem ex_few : JFew exP exQ exB 0 := by
  unfold JFew
  rw [if_pos ⟨exP_chk, exQ_ok⟩]
  have s1 : lastC (exP.RrQ exQ 0) 16 2 (gi (exP.RrQ exQ (0 + 1)) 2) exP.cons = some (2, ⟨0, 2, 30, 40, 24, 5, 0⟩) := by kernel_rfl
  have p1 : FP exP.cons (exP.RrQ exQ) 16 (0 + 1) 2 _ := FP.step s1 .done
  refine .inr ⟨rfl, 1, _, by decide, by kernel_rfl, fun j hj => ?_, p1, by kernel_rfl⟩
  have e : j = 0 := by omega
  rw [e]
  have h : inT exQ (exP.RrQ exQ 0) = false := by kernel_rfl
  exact h
theorem ex_cons : (ECon.all exP.cons).toArray = #[.int .i64 0, .int .i64 1, .int .i64 0, .int .i64 10, .int .i64 24, .int .i64 5, .int .i64 0, .int .i64 1, .int .i64 2, .int .i64 8, .int .i64 20, .int .i64 24, .int .i64 5, .int .i64 0, .int .i64 0, .int .i64 2, .int .i64 30, .int .i64 40, .int .i64 24, .int .i64 5, .int .i64 0] := by kernel_rfl
theorem ex_world (w : World) : ∃ W, (((w.alloc (.cells #[.int .i64 100, .int .i64 100, .int .i64 100] 3)).alloc (.cells #[.int .i64 0, .int .i64 1, .int .i64 0, .int .i64 10, .int .i64 24, .int .i64 5, .int .i64 0, .int .i64 1, .int .i64 2, .int .i64 8, .int .i64 20, .int .i64 24, .int .i64 5, .int .i64 0, .int .i64 0, .int .i64 2, .int .i64 30, .int .i64 40, .int .i64 24, .int .i64 5, .int .i64 0] 36)).alloc (.cells #[.slice (some ⟨w.heap.size, 0, none⟩) 3 3, .slice (some ⟨w.heap.size + 1, 0, none⟩) 3 3] 25)).alloc (.cells #[.int .i64 0, .int .i64 2, .int .i64 16, .int .i64 0, .int .i64 36, .int .i64 0, .bool false] 34) = W ∧
    PlnRd W (some ⟨w.heap.size, 0, none⟩) 3 (some ⟨w.heap.size + 1, 0, none⟩) 3 exP ∧ Blk W (w.heap.size + 1 + 1) 25 #[.slice (some ⟨w.heap.size, 0, none⟩) 3 3, .slice (some ⟨w.heap.size + 1, 0, none⟩) 3 3] ∧ Blk W (w.heap.size + 1 + 1 + 1) 34 #[.int .i64 0, .int .i64 2, .int .i64 16, .int .i64 0, .int .i64 36, .int .i64 0, .bool false] ∧ Ext w W := by
  obtain ⟨W1, h1, e1, k1, l1⟩ := box1 w #[.int .i64 100, .int .i64 100, .int .i64 100] 3
  have s1 : W1.heap.size = w.heap.size + 1 := by rw [← h1]; simp
  obtain ⟨W2, h2, e2, k2, l2⟩ := box1 W1 #[.int .i64 0, .int .i64 1, .int .i64 0, .int .i64 10, .int .i64 24, .int .i64 5, .int .i64 0, .int .i64 1, .int .i64 2, .int .i64 8, .int .i64 20, .int .i64 24, .int .i64 5, .int .i64 0, .int .i64 0, .int .i64 2, .int .i64 30, .int .i64 40, .int .i64 24, .int .i64 5, .int .i64 0] 36
  have s2 : W2.heap.size = w.heap.size + 1 + 1 := by rw [← h2]; simp [s1]
  obtain ⟨W3, h3, e3, k3, l3⟩ := box1 W2 #[.slice (some ⟨w.heap.size, 0, none⟩) 3 3, .slice (some ⟨w.heap.size + 1, 0, none⟩) 3 3] 25
  have s3 : W3.heap.size = w.heap.size + 1 + 1 + 1 := by rw [← h3]; simp [s2]
  obtain ⟨W4, h4, e4, k4, l4⟩ := box1 W3 #[.int .i64 0, .int .i64 2, .int .i64 16, .int .i64 0, .int .i64 36, .int .i64 0, .bool false] 34
  rw [h1, h2, h3, h4]
  rw [s1] at k2
  rw [s2] at k3
  rw [s3] at k4
  refine ⟨W4, rfl, ⟨rd_blk (l := [100, 100, 100]) (e := 3) (((k1.ext e2).ext e3).ext e4), rd_blk (l := exP.cons) (e := 36) (by rw [ex_cons]; exact (k2.ext e3).ext e4), by simp [exP], by simp [exP], by simp [exP], by simp [exP]⟩, k3.ext e4, k4, ((e1.trans e2).trans e3).trans e4⟩

theorem jr_ex1 (Aq Ac : Option Addr) (w : World) (h : PlnRd w Aq 3 Ac 3 exP) : Calls Try.prog 12 #[.agg #[.slice Aq 3 3, .slice Ac 3 3], .int .i64 0, .int .i64 0, .int .i64 16] w (RetA EInt w [0, 6, 14] 0) := by
  have h1 := Foremost_any Aq 3 Ac 3 exP 0 0 16 w h
  rw [show exP.forT 0 0 16 = [0, 6, 14] from by kernel_rfl, show exP.forE 0 0 16 = 0 from by kernel_rfl] at h1
  exact h1
set_option maxHeartbeats 1000000 in
theorem jr_ex2 (Aq Ac : Option Addr) (w : World) (h : PlnRd w Aq 3 Ac 3 exP) : Calls Try.prog 20 #[.agg #[.slice Aq 3 3, .slice Ac 3 3], .agg #[.int .i64 0, .int .i64 2, .int .i64 16, .int .i64 0, .int .i64 36, .int .i64 0, .bool false]] w fun e w' => ∃ A c, e = .returned (.tuple #[.slice A 2 c, .int .i64 0]) ∧ Rd EHp w' A exA ∧ Ext w w' := by
  have h1 := JFind_any Aq 3 Ac 3 exP exQ w h
  refine Calls.mono h1 (fun e w' hh => ?_)
  unfold FindJ at hh
  obtain ⟨l, k, h2, _, h3⟩ := hh
  have hu := h3.unique ex_find
  rw [hu.1, hu.2] at h2
  obtain ⟨A, c, h4, h5, h6, _⟩ := h2
  exact ⟨A, c, h4, h5, h6⟩
set_option maxHeartbeats 1000000 in
theorem jr_ex3 (Aq Ac : Option Addr) (w : World) (h : PlnRd w Aq 3 Ac 3 exP) : Calls Try.prog 19 #[.agg #[.slice Aq 3 3, .slice Ac 3 3], .agg #[.int .i64 0, .int .i64 2, .int .i64 16, .int .i64 0, .int .i64 36, .int .i64 0, .bool false]] w fun e w' => ∃ A c, e = .returned (.tuple #[.slice A 1 c, .int .i64 0]) ∧ Rd EHp w' A exB ∧ Ext w w' := by
  have h1 := JFewest_any Aq 3 Ac 3 exP exQ w h
  refine Calls.mono h1 (fun e w' hh => ?_)
  unfold FewJ at hh
  obtain ⟨l, k, h2, _, h3⟩ := hh
  have hu := h3.unique ex_few
  rw [hu.1, hu.2] at h2
  obtain ⟨A, c, h4, h5, h6, _⟩ := h2
  exact ⟨A, c, h4, h5, h6⟩

set_option maxRecDepth 100000 in
set_option maxHeartbeats 4000000 in
theorem awake_any (w : World) :
    Calls Try.prog 11 #[] w fun e w' => e = .returned (.bool true) ∧ Ext w w' := by
  go_enter Try.func11, Try.ntmps11
  go_wp2_with fail
  obtain ⟨W, hW, hp, hk, hk2, hB⟩ := ex_world w
  have hc := hk.cell
  have hc2 := hk2.cell
  rw [hW]
  clear hW
  refine (jr_ex1 _ _ _ hp).mono ?_
  rintro e w2 ⟨A2, c2, rfl, hR2, hb2, _⟩
  have kp2 := hk.ext hb2
  have kq2 := hk2.ext hb2
  replace hc := kp2.cell
  replace hc2 := kq2.cell
  go_wp2_with fail
  refine (jr_ex2 _ _ _ (hp.ext hb2)).mono ?_
  rintro e w3 ⟨A3, c3, rfl, hR3, hb3⟩
  have kp3 := kp2.ext hb3
  have kq3 := kq2.ext hb3
  replace hc := kp3.cell
  replace hc2 := kq3.cell
  go_wp2_with fail
  refine (jr_ex3 _ _ _ ((hp.ext hb2).ext hb3)).mono ?_
  rintro e w4 ⟨A4, c4, rfl, hR4, hb4⟩
  have hE4 := ((hB.trans hb2).trans hb3).trans hb4
  clear hc hc2
  go_wp2_with fail
  obtain ⟨W6, hW6, hB6, hk6, hlt6⟩ := box1 w4 #[.int .i64 0, .int .i64 6, .int .i64 14] 3
  rw [hW6]
  clear hW6
  refine (equalInt_ex A2 (some ⟨w4.heap.size, 0, none⟩) c2 3 [0, 6, 14] W6 (((hR2.ext hb3).ext hb4).ext hB6) (rd_blk (l := [0, 6, 14]) hk6) (by simp)).mono ?_
  rintro e w7 ⟨rfl, hb7⟩
  obtain ⟨b3, o3, rfl, hl3, a0, a1, a2, a3⟩ := ((hR3.ext hb4).ext (hB6.trans hb7)).hp (k := 1) (by simp [exA])
  obtain ⟨b4, o4, rfl, hl4, d0, d1, d2, d3⟩ := (hR4.ext (hB6.trans hb7)).hp (k := 0) (by simp [exB])
  simp [exA] at a0 a1 a2 a3
  simp [exB] at d0 d1 d2 d3
  go_wp2
  go_ret
  exact ⟨rfl, hE4.trans (hB6.trans hb7)⟩

end Go.Proofs.Ytgmfnhianhngiaa
