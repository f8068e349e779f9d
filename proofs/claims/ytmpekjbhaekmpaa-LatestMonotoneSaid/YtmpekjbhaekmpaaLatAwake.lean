/- Layer 25 (latest): the chapter's example. -/
import Derived.Test.YtmpekjbhaekmpaaLatW8
namespace Go.Proofs.Ytmpekjbhaekmpaa
set_option linter.unusedVariables false
open Go.RowKit Go.Shelf

def exP : Pln := ⟨[100, 100, 100], [⟨0, 1, 10, 60, 4, 5, 0⟩, ⟨1, 2, 50, 100, 4, 5, 0⟩]⟩
def exQ : Req := ⟨0, 2, 20, 0, 90, 0, false⟩
def exQ2 : Req := ⟨0, 2, 20, 40, 90, 0, false⟩
def exHs : List Hp := [⟨0, 51, 60, 65⟩, ⟨1, 76, 85, 90⟩]

theorem example_any (w : World) : Calls Try.prog 26 #[] w fun e w' => ∃ Aq Ac, e = .returned (.agg #[.slice Aq 3 3, .slice Ac 2 2]) ∧ PlnRd w' Aq 3 Ac 2 exP ∧ Ext w w' := by
  go_enter Try.func26, Try.ntmps26
  go_wp2
  go_returns
  refine ⟨_, _, rfl, ⟨rd_blk (l := [100, 100, 100]) (e := 3) ?_, rd_blk (l := exP.cons) (e := 45) ?_, by simp [exP], by simp [exP], by simp [exP], by simp [exP]⟩, (((Ext.refl w).alloc _).alloc _).alloc _⟩
  · have := (Blk.new (w.alloc (.cells #[.slice (some ⟨w.heap.size + 1, 0, none⟩) 3 3, .slice (some ⟨w.heap.size + 1 + 1, 0, none⟩) 2 2] 25)) 3 #[.int .i64 100, .int .i64 100, .int .i64 100]).ext ((Ext.refl _).alloc (.cells (ECon.all exP.cons).toArray 45))
    simp only [World.size_alloc] at this
    exact this
  · have := Blk.new ((w.alloc (.cells #[.slice (some ⟨w.heap.size + 1, 0, none⟩) 3 3, .slice (some ⟨w.heap.size + 1 + 1, 0, none⟩) 2 2] 25)).alloc (.cells #[.int .i64 100, .int .i64 100, .int .i64 100] 3)) 45 (ECon.all exP.cons).toArray
    simp only [World.size_alloc] at this
    exact this

theorem lat_ex1 (Aq Ac : Option Addr) (w : World) (h : PlnRd w Aq 3 Ac 2 exP) : Calls Try.prog 12 #[.agg #[.slice Aq 3 3, .slice Ac 2 2], .int .i64 2, .int .i64 90, .int .i64 20] w (RetA EInt w [51, 76, 90] 0) := by
  have h1 := Latest_any Aq 3 Ac 2 exP 2 90 20 w h
  rw [show exP.latT 2 90 20 = [51, 76, 90] from by kernel_rfl, show exP.latE 2 90 20 = 0 from by kernel_rfl] at h1
  exact h1
theorem lat_ex2 (Aq Ac : Option Addr) (w : World) (h : PlnRd w Aq 3 Ac 2 exP) : Calls Try.prog 12 #[.agg #[.slice Aq 3 3, .slice Ac 2 2], .int .i64 2, .int .i64 70, .int .i64 20] w (RetA EInt w [42, 56, 70] 0) := by
  have h1 := Latest_any Aq 3 Ac 2 exP 2 70 20 w h
  rw [show exP.latT 2 70 20 = [42, 56, 70] from by kernel_rfl, show exP.latE 2 70 20 = 0 from by kernel_rfl] at h1
  exact h1
theorem lat_ex3 (Aq Ac : Option Addr) (w : World) (h : PlnRd w Aq 3 Ac 2 exP) : Calls Try.prog 15 #[.agg #[.slice Aq 3 3, .slice Ac 2 2], .agg #[.int .i64 0, .int .i64 2, .int .i64 20, .int .i64 0, .int .i64 90, .int .i64 0, .bool false]] w (RetA EHp w exHs 0) := by
  have h1 := Find_any Aq 3 Ac 2 exP exQ w h
  refine h1.mono ?_
  rintro e w' ⟨l, h2, _, h3⟩
  have e0 : exP.ofE exQ = 0 := by kernel_rfl
  rw [if_pos e0] at h3
  rw [e0] at h2
  have h4 : LPath exP.cons (exP.fixT exQ) exQ.dst exQ.size exQ.src exHs := by
    have s1 : findC (lans (exP.fixT exQ) exQ.size 0) 0 exP.cons = some (0, ⟨0, 1, 10, 60, 4, 5, 0⟩) := by kernel_rfl
    have s2 : findC (lans (exP.fixT exQ) exQ.size 1) 0 exP.cons = some (1, ⟨1, 2, 50, 100, 4, 5, 0⟩) := by kernel_rfl
    have p2 := LPath.step (dest := exQ.dst) (by decide) s2 .done
    have p1 := LPath.step (dest := exQ.dst) (by decide) s1 p2
    exact p1
  rw [h3.unique h4] at h2
  exact h2
theorem lat_ex4 (Aq Ac : Option Addr) (w : World) (h : PlnRd w Aq 3 Ac 2 exP) : Calls Try.prog 17 #[.agg #[.slice Aq 3 3, .slice Ac 2 2], .agg #[.int .i64 0, .int .i64 2, .int .i64 20, .int .i64 40, .int .i64 90, .int .i64 0, .bool false]] w fun e w' => e = .returned (.tuple #[.int .i64 11, .int .i64 0]) ∧ Ext w w' := by
  have h1 := Slack_any Aq 3 Ac 2 exP exQ2 w h
  rw [show exP.slackT exQ2 = 11 from by kernel_rfl, show exP.ofE exQ2 = 0 from by kernel_rfl] at h1
  exact h1

set_option maxRecDepth 100000 in
set_option maxHeartbeats 4000000 in
theorem awake_any (w : World) :
    Calls Try.prog 11 #[] w fun e w' => e = .returned (.bool true) ∧ Ext w w' := by
  go_enter Try.func11, Try.ntmps11
  go_wp2_with fail
  refine (example_any _).mono ?_
  rintro e w1 ⟨Aq, Ac, rfl, hp, hb1⟩
  go_wp2_with fail
  obtain ⟨W, hW, hB, hk, hlt⟩ := box1 w1 #[.slice Aq 3 3, .slice Ac 2 2] 25
  rw [hW]
  clear hW
  have hE1 := hb1.trans hB
  replace hp := hp.ext hB
  have hc := hk.cell
  refine (lat_ex1 _ _ _ hp).mono ?_
  rintro e w2 ⟨A2, c2, rfl, hR2, hb2, _⟩
  have hk2 := hk.ext hb2
  replace hc := hk2.cell
  go_wp2_with fail
  refine (lat_ex2 _ _ _ (hp.ext hb2)).mono ?_
  rintro e w3 ⟨A3, c3, rfl, hR3, hb3, _⟩
  have hk3 := hk2.ext hb3
  replace hc := hk3.cell
  go_wp2_with fail
  refine (lat_ex3 _ _ _ ((hp.ext hb2).ext hb3)).mono ?_
  rintro e w4 ⟨A4, c4, rfl, hR4, hb4, _⟩
  have hk4 := hk3.ext hb4
  replace hc := hk4.cell
  go_wp2_with fail
  refine (lat_ex4 _ _ _ (((hp.ext hb2).ext hb3).ext hb4)).mono ?_
  rintro e w5 ⟨rfl, hb5⟩
  have hE5 := ((hE1.trans hb2).trans hb3).trans (hb4.trans hb5)
  clear hc
  go_wp2_with fail
  obtain ⟨W6, hW6, hB6, hk6, hlt6⟩ := box1 w5 #[.int .i64 51, .int .i64 76, .int .i64 90] 3
  rw [hW6]
  clear hW6
  refine (sameInts_ex A2 (some ⟨w5.heap.size, 0, none⟩) c2 3 [51, 76, 90] W6 (((hR2.ext (hb3.trans hb4)).ext hb5).ext hB6) (rd_blk (l := [51, 76, 90]) hk6) (by simp)).mono ?_
  rintro e w7 ⟨rfl, hb7⟩
  go_wp2_with fail
  obtain ⟨W8, hW8, hB8, hk8, hlt8⟩ := box1 w7 #[.int .i64 42, .int .i64 56, .int .i64 70] 3
  rw [hW8]
  clear hW8
  have hE8 := (hE5.trans hB6).trans (hb7.trans hB8)
  refine (sameInts_ex A3 (some ⟨w7.heap.size, 0, none⟩) c3 3 [42, 56, 70] W8 ((((hR3.ext hb4).ext hb5).ext (hB6.trans hb7)).ext hB8) (rd_blk (l := [42, 56, 70]) hk8) (by simp)).mono ?_
  rintro e w9 ⟨rfl, hb9⟩
  go_wp2_with fail
  obtain ⟨W10, hW10, hB10, hk10, hlt10⟩ := box1 w9 #[.int .i64 0, .int .i64 51, .int .i64 60, .int .i64 65, .int .i64 1, .int .i64 76, .int .i64 85, .int .i64 90] 43
  rw [hW10]
  clear hW10
  refine (sameHops_ex A4 (some ⟨w9.heap.size, 0, none⟩) c4 2 exHs W10 ((((hR4.ext hb5).ext (hB6.trans hb7)).ext (hB8.trans hb9)).ext hB10) (rd_blk (l := exHs) hk10) (by simp [exHs])).mono ?_
  rintro e w11 ⟨rfl, hb11⟩
  go_wp2
  go_ret
  exact ⟨rfl, (hE8.trans hb9).trans (hB10.trans hb11)⟩

end Go.Proofs.Ytmpekjbhaekmpaa
