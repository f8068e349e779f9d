
/- Layer 26 (reach): the chapter's example, walked. -/
import Derived.Test.YtifopbkhflpbfaaRchX
import Derived.Test.YtifopbkhflpbfaaRchV
import Derived.Test.YtifopbkhflpbfaaJrE
namespace Go.Proofs.Ytifopbkhflpbfaa
set_option linter.unusedVariables false
set_option linter.unusedSimpArgs false
open Go.RowKit Go.Shelf
attribute [local go_sem] Oper.semAt_some

theorem example_any (w : World) : Calls Try.prog 30 #[] w fun e w' => ∃ Aq Ac, e = .returned (.agg #[.slice Aq 3 3, .slice Ac 2 2]) ∧ PlnRd w' Aq 3 Ac 2 exP ∧ Ext w w' := by
  go_enter Try.func30, Try.ntmps30
  go_wp2
  go_returns
  refine ⟨_, _, rfl, ⟨rd_blk (l := [100, 100, 100]) (e := 3) ?_, rd_blk (l := exP.cons) (e := 66) ?_, by simp [exP], by simp [exP], by simp [exP], by simp [exP]⟩, (((Ext.refl w).alloc _).alloc _).alloc _⟩
  · have := (Blk.new (w.alloc (.cells #[.slice (some ⟨w.heap.size + 1, 0, none⟩) 3 3, .slice (some ⟨w.heap.size + 1 + 1, 0, none⟩) 2 2] 25)) 3 #[.int .i64 100, .int .i64 100, .int .i64 100]).ext ((Ext.refl _).alloc (.cells (ECon.all exP.cons).toArray 66))
    simp only [World.size_alloc] at this
    exact this
  · have := Blk.new ((w.alloc (.cells #[.slice (some ⟨w.heap.size + 1, 0, none⟩) 3 3, .slice (some ⟨w.heap.size + 1 + 1, 0, none⟩) 2 2] 25)).alloc (.cells #[.int .i64 100, .int .i64 100, .int .i64 100] 3)) 66 (ECon.all exP.cons).toArray
    simp only [World.size_alloc] at this
    exact this
theorem exP_pa : PA exP 0 2 20 := Pln.rv_pa exP_rv (by decide)
theorem exF_ok : LevOk (lvl exS 52) := exS_chn.levOk exP_pa (by decide)
theorem pro_ex (Aq Ac : Option Addr) (w : World) (h : PlnRd w Aq 3 Ac 2 exP) : Calls Try.prog 18 #[.agg #[.slice Aq 3 3, .slice Ac 2 2], .int .i64 0, .int .i64 2, .int .i64 20] w fun e w' => ∃ A c, e = .returned (.tuple #[.slice A 17 c, .int .i64 0]) ∧ Rd ELev w' A (lvl exS 52) ∧ Ext w w' := by
  refine (Profile_any Aq 3 Ac 2 exP 0 2 20 w h).mono ?_
  rintro e w' ⟨A, c, out, b, er, rfl, ho, hx, hp⟩
  obtain ⟨rfl, _, rfl⟩ := hp.unique exP_lev
  exact ⟨A, c, rfl, ho.rd, hx⟩
theorem fst_ex (Aq Ac : Option Addr) (w : World) (h : PlnRd w Aq 3 Ac 2 exP) : Calls Try.prog 25 #[.agg #[.slice Aq 3 3, .slice Ac 2 2], .int .i64 0, .int .i64 2, .int .i64 20] w fun e w' => e = .returned (.tuple #[.agg #[.int .i64 36, .int .i64 64], .int .i64 0]) ∧ Ext w w' := by
  refine (Fastest_any Aq 3 Ac 2 exP 0 2 20 w h).mono ?_
  rintro e w' ⟨out, b, er, rfl, hx, hp⟩
  obtain ⟨rfl, rfl, rfl⟩ := hp.unique exP_lev
  exact ⟨rfl, hx⟩
theorem hub_ex (Aq Ac : Option Addr) (w : World) (h : PlnRd w Aq 3 Ac 2 exP) : Calls Try.prog 13 #[.agg #[.slice Aq 3 3, .slice Ac 2 2], .int .i64 0, .int .i64 100, .int .i64 20] w fun e w' => ∃ A c, e = .returned (.tuple #[.slice A 1 c, .int .i64 0]) ∧ Rd EInt w' A [0] ∧ Ext w w' := by
  refine (Hubs_any Aq 3 Ac 2 exP 0 100 20 w h).mono ?_
  rintro e w' ⟨A, c, h1, h2, h3⟩
  rw [exP_hubs, exP_hubE] at h1
  rw [exP_hubs] at h2
  exact ⟨A, c, h1, h2.rd, h3⟩
theorem at_ex (A : Option Addr) (c : Nat) (t v : Int) (w : World) (h : Rd ELev w A (lvl exS 52)) (ht : 0 ≤ t ∧ t ≤ 1099511627776) (hv : max (exP.ear 0 2 20 t) 0 = v) : Calls Try.prog 21 #[.slice A 17 c, .int .i64 t] w fun e w' => e = .returned (.int .i64 v) ∧ Ext w w' := by
  refine (fat_any A c (lvl exS 52) t w h exF_ok ht).mono ?_
  rintro e w' ⟨i, hi, rfl, hx⟩
  rw [exS_chn.value exP_pa exS_stop (by decide) ht.1 ht.2 hi, hv]
  exact ⟨rfl, hx⟩

set_option maxRecDepth 100000 in
set_option maxHeartbeats 4000000 in
theorem awake_any (w : World) :
    Calls Try.prog 10 #[] w fun e w' => e = .returned (.bool true) ∧ Ext w w' := by
  go_enter Try.func10, Try.ntmps10
  go_wp2_with fail
  refine (example_any _).mono ?_
  rintro e w1 ⟨Aq, Ac, rfl, hp1, hb1⟩
  go_wp2_with fail
  refine (pro_ex _ _ _ hp1).mono ?_
  rintro e w2 ⟨A2, c2, rfl, hR2, hb2⟩
  go_wp2_with fail
  refine (example_any _).mono ?_
  rintro e w3 ⟨Aq3, Ac3, rfl, hp3, hb3⟩
  go_wp2_with fail
  refine (fst_ex _ _ _ hp3).mono ?_
  rintro e w4 ⟨rfl, hb4⟩
  go_wp2_with fail
  obtain ⟨W5, hW5, hB5, hk5, hl5⟩ := box1 w4 #[.int .i64 36, .int .i64 64] 53
  rw [hW5]
  clear hW5
  have hE5 := ((hb1.trans hb2).trans (hb3.trans hb4)).trans hB5
  have hR5 := ((hR2.ext hb3).ext hb4).ext hB5
  clear hp1 hp3 hR2
  refine (example_any _).mono ?_
  rintro e w6 ⟨Aq6, Ac6, rfl, hp6, hb6⟩
  go_wp2_with fail
  refine (hub_ex _ _ _ hp6).mono ?_
  rintro e w7 ⟨A7, c7, rfl, hR7, hb7⟩
  have hR8 := (hR5.ext hb6).ext hb7
  have hk8 := (hk5.ext hb6).ext hb7
  clear hR5 hk5 hp6
  go_wp2_with fail
  refine (at_ex _ _ 0 64 _ hR8 (by decide) (by kernel_rfl)).mono ?_
  rintro e w8 ⟨rfl, hb8⟩
  go_wp2_with fail
  refine (at_ex _ _ 36 64 _ (hR8.ext hb8) (by decide) (by kernel_rfl)).mono ?_
  rintro e w9 ⟨rfl, hb9⟩
  go_wp2_with fail
  refine (at_ex _ _ 37 65 _ ((hR8.ext hb8).ext hb9) (by decide) (by kernel_rfl)).mono ?_
  rintro e w10 ⟨rfl, hb10⟩
  go_wp2_with fail
  refine (at_ex _ _ 51 79 _ (((hR8.ext hb8).ext hb9).ext hb10) (by decide) (by kernel_rfl)).mono ?_
  rintro e w11 ⟨rfl, hb11⟩
  go_wp2_with fail
  refine (at_ex _ _ 52 0 _ ((((hR8.ext hb8).ext hb9).ext hb10).ext hb11) (by decide) (by kernel_rfl)).mono ?_
  rintro e w12 ⟨rfl, hb12⟩
  have hE12 := ((hb8.trans hb9).trans (hb10.trans hb11)).trans hb12
  have hk12 := hk8.ext hE12
  have hc := hk12.cell
  obtain ⟨W13, hW13, hB13, hk13, hl13⟩ := box1 w12 #[.int .i64 0] 3
  go_wp2_with fail
  clear hW13
  refine (equalInt_ex A7 _ c7 1 [0] W13 ((hR7.ext hE12).ext hB13) (rd_blk hk13) (by simp)).mono ?_
  rintro e w14 ⟨rfl, hb14⟩
  go_wp2
  go_ret
  exact ⟨rfl, (hE5.trans (hb6.trans hb7)).trans ((hE12.trans hB13).trans hb14)⟩

end Go.Proofs.Ytifopbkhflpbfaa
