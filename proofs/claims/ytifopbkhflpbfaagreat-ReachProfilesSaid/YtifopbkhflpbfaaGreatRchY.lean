
/- Layer 26 (reach): the chapter's example, as plain data, and walked. -/
import Derived.Test.YtifopbkhflpbfaaGreatRchS
import Derived.Test.YtifopbkhflpbfaaGreatRchV
import Derived.Test.YtifopbkhflpbfaaGreatJrE

/- Layer 26 (reach): the chapter's example as plain data. -/
namespace Go.Proofs.YtifopbkhflpbfaaGreat
set_option linter.unusedVariables false
open Go.RowKit

def exP : Pln := ⟨[100, 100, 100], [⟨0, 1, 10, 60, 4, 5, 0⟩, ⟨1, 2, 50, 100, 4, 5, 0⟩]⟩
theorem Chn.go {p : Pln} {src dst n : Int} {l l' : List Stp} {t t' : Int} (h : Chn p src dst n l t) (y x : Int) (h1 : t ≤ 1099511627776) (he : p.ear src dst n t = x) (hx : x ≠ -1) (hl : p.lat src dst n x = y) (e1 : l' = l ++ [⟨t, y, x⟩]) (e2 : t' = y + 1) : Chn p src dst n l' t' := by
  have := Chn.snoc h h1 (by rw [he]; exact hx)
  rw [he, hl] at this
  unfold Pln.stp at this
  rw [he, hl] at this
  rw [e1, e2]
  exact this
def exS : List Stp := [⟨0, 36, 64⟩, ⟨37, 37, 65⟩, ⟨38, 38, 66⟩, ⟨39, 39, 67⟩, ⟨40, 40, 68⟩, ⟨41, 41, 69⟩, ⟨42, 42, 70⟩, ⟨43, 43, 71⟩, ⟨44, 44, 72⟩, ⟨45, 45, 73⟩, ⟨46, 46, 74⟩, ⟨47, 47, 75⟩, ⟨48, 48, 76⟩, ⟨49, 49, 77⟩, ⟨50, 50, 78⟩, ⟨51, 51, 79⟩]
theorem exS_chn : Chn exP 0 2 20 exS 52 := by
  have c0 : Chn exP 0 2 20 [] 0 := Chn.nil
  have c1 : Chn exP 0 2 20 [⟨0, 36, 64⟩] 37 := c0.go 36 64 (by decide) (by kernel_rfl) (by decide) (by kernel_rfl) rfl rfl
  have c2 : Chn exP 0 2 20 [⟨0, 36, 64⟩, ⟨37, 37, 65⟩] 38 := c1.go 37 65 (by decide) (by kernel_rfl) (by decide) (by kernel_rfl) rfl rfl
  have c3 : Chn exP 0 2 20 [⟨0, 36, 64⟩, ⟨37, 37, 65⟩, ⟨38, 38, 66⟩] 39 := c2.go 38 66 (by decide) (by kernel_rfl) (by decide) (by kernel_rfl) rfl rfl
  have c4 : Chn exP 0 2 20 [⟨0, 36, 64⟩, ⟨37, 37, 65⟩, ⟨38, 38, 66⟩, ⟨39, 39, 67⟩] 40 := c3.go 39 67 (by decide) (by kernel_rfl) (by decide) (by kernel_rfl) rfl rfl
  have c5 : Chn exP 0 2 20 [⟨0, 36, 64⟩, ⟨37, 37, 65⟩, ⟨38, 38, 66⟩, ⟨39, 39, 67⟩, ⟨40, 40, 68⟩] 41 := c4.go 40 68 (by decide) (by kernel_rfl) (by decide) (by kernel_rfl) rfl rfl
  have c6 : Chn exP 0 2 20 [⟨0, 36, 64⟩, ⟨37, 37, 65⟩, ⟨38, 38, 66⟩, ⟨39, 39, 67⟩, ⟨40, 40, 68⟩, ⟨41, 41, 69⟩] 42 := c5.go 41 69 (by decide) (by kernel_rfl) (by decide) (by kernel_rfl) rfl rfl
  have c7 : Chn exP 0 2 20 [⟨0, 36, 64⟩, ⟨37, 37, 65⟩, ⟨38, 38, 66⟩, ⟨39, 39, 67⟩, ⟨40, 40, 68⟩, ⟨41, 41, 69⟩, ⟨42, 42, 70⟩] 43 := c6.go 42 70 (by decide) (by kernel_rfl) (by decide) (by kernel_rfl) rfl rfl
  have c8 : Chn exP 0 2 20 [⟨0, 36, 64⟩, ⟨37, 37, 65⟩, ⟨38, 38, 66⟩, ⟨39, 39, 67⟩, ⟨40, 40, 68⟩, ⟨41, 41, 69⟩, ⟨42, 42, 70⟩, ⟨43, 43, 71⟩] 44 := c7.go 43 71 (by decide) (by kernel_rfl) (by decide) (by kernel_rfl) rfl rfl
  have c9 : Chn exP 0 2 20 [⟨0, 36, 64⟩, ⟨37, 37, 65⟩, ⟨38, 38, 66⟩, ⟨39, 39, 67⟩, ⟨40, 40, 68⟩, ⟨41, 41, 69⟩, ⟨42, 42, 70⟩, ⟨43, 43, 71⟩, ⟨44, 44, 72⟩] 45 := c8.go 44 72 (by decide) (by kernel_rfl) (by decide) (by kernel_rfl) rfl rfl
  have c10 : Chn exP 0 2 20 [⟨0, 36, 64⟩, ⟨37, 37, 65⟩, ⟨38, 38, 66⟩, ⟨39, 39, 67⟩, ⟨40, 40, 68⟩, ⟨41, 41, 69⟩, ⟨42, 42, 70⟩, ⟨43, 43, 71⟩, ⟨44, 44, 72⟩, ⟨45, 45, 73⟩] 46 := c9.go 45 73 (by decide) (by kernel_rfl) (by decide) (by kernel_rfl) rfl rfl
  have c11 : Chn exP 0 2 20 [⟨0, 36, 64⟩, ⟨37, 37, 65⟩, ⟨38, 38, 66⟩, ⟨39, 39, 67⟩, ⟨40, 40, 68⟩, ⟨41, 41, 69⟩, ⟨42, 42, 70⟩, ⟨43, 43, 71⟩, ⟨44, 44, 72⟩, ⟨45, 45, 73⟩, ⟨46, 46, 74⟩] 47 := c10.go 46 74 (by decide) (by kernel_rfl) (by decide) (by kernel_rfl) rfl rfl
  have c12 : Chn exP 0 2 20 [⟨0, 36, 64⟩, ⟨37, 37, 65⟩, ⟨38, 38, 66⟩, ⟨39, 39, 67⟩, ⟨40, 40, 68⟩, ⟨41, 41, 69⟩, ⟨42, 42, 70⟩, ⟨43, 43, 71⟩, ⟨44, 44, 72⟩, ⟨45, 45, 73⟩, ⟨46, 46, 74⟩, ⟨47, 47, 75⟩] 48 := c11.go 47 75 (by decide) (by kernel_rfl) (by decide) (by kernel_rfl) rfl rfl
  have c13 : Chn exP 0 2 20 [⟨0, 36, 64⟩, ⟨37, 37, 65⟩, ⟨38, 38, 66⟩, ⟨39, 39, 67⟩, ⟨40, 40, 68⟩, ⟨41, 41, 69⟩, ⟨42, 42, 70⟩, ⟨43, 43, 71⟩, ⟨44, 44, 72⟩, ⟨45, 45, 73⟩, ⟨46, 46, 74⟩, ⟨47, 47, 75⟩, ⟨48, 48, 76⟩] 49 := c12.go 48 76 (by decide) (by kernel_rfl) (by decide) (by kernel_rfl) rfl rfl
  have c14 : Chn exP 0 2 20 [⟨0, 36, 64⟩, ⟨37, 37, 65⟩, ⟨38, 38, 66⟩, ⟨39, 39, 67⟩, ⟨40, 40, 68⟩, ⟨41, 41, 69⟩, ⟨42, 42, 70⟩, ⟨43, 43, 71⟩, ⟨44, 44, 72⟩, ⟨45, 45, 73⟩, ⟨46, 46, 74⟩, ⟨47, 47, 75⟩, ⟨48, 48, 76⟩, ⟨49, 49, 77⟩] 50 := c13.go 49 77 (by decide) (by kernel_rfl) (by decide) (by kernel_rfl) rfl rfl
  have c15 : Chn exP 0 2 20 [⟨0, 36, 64⟩, ⟨37, 37, 65⟩, ⟨38, 38, 66⟩, ⟨39, 39, 67⟩, ⟨40, 40, 68⟩, ⟨41, 41, 69⟩, ⟨42, 42, 70⟩, ⟨43, 43, 71⟩, ⟨44, 44, 72⟩, ⟨45, 45, 73⟩, ⟨46, 46, 74⟩, ⟨47, 47, 75⟩, ⟨48, 48, 76⟩, ⟨49, 49, 77⟩, ⟨50, 50, 78⟩] 51 := c14.go 50 78 (by decide) (by kernel_rfl) (by decide) (by kernel_rfl) rfl rfl
  have c16 : Chn exP 0 2 20 [⟨0, 36, 64⟩, ⟨37, 37, 65⟩, ⟨38, 38, 66⟩, ⟨39, 39, 67⟩, ⟨40, 40, 68⟩, ⟨41, 41, 69⟩, ⟨42, 42, 70⟩, ⟨43, 43, 71⟩, ⟨44, 44, 72⟩, ⟨45, 45, 73⟩, ⟨46, 46, 74⟩, ⟨47, 47, 75⟩, ⟨48, 48, 76⟩, ⟨49, 49, 77⟩, ⟨50, 50, 78⟩, ⟨51, 51, 79⟩] 52 := c15.go 51 79 (by decide) (by kernel_rfl) (by decide) (by kernel_rfl) rfl rfl
  exact c16
theorem exS_stop : exP.stopAt 0 2 20 52 := .inr (by kernel_rfl)
theorem exP_rv : exP.rv 20 [0, 2] = 0 := by kernel_rfl
theorem exP_lev : LevP exP 0 2 20 (lvl exS 52) (36, 64) 0 := by
  unfold LevP
  rw [if_pos exP_rv, if_neg (by decide)]
  exact .inr ⟨rfl, exS, 52, exS_chn, exS_stop, by decide, rfl, by decide⟩
theorem exP_hubs : hubs (exP.matM 0 100 20) = [0] := by kernel_rfl
theorem exP_hubE : exP.matE 0 100 20 = 0 := by kernel_rfl

end Go.Proofs.YtifopbkhflpbfaaGreat

/- Layer 26 (reach): the chapter's example, walked. -/
namespace Go.Proofs.YtifopbkhflpbfaaGreat
set_option linter.unusedVariables false
set_option linter.unusedSimpArgs false
open Go.RowKit Go.Shelf
attribute [local go_sem] Oper.semAt_some

theorem example_any (w : World) : Calls Tryz.prog 14 #[] w fun e w' => ∃ Aq Ac, e = .returned (.agg #[.slice Aq 3 3, .slice Ac 2 2]) ∧ PlnRd w' Aq 3 Ac 2 exP ∧ Ext w w' := by
  go_enter Tryz.func14, Tryz.ntmps14
  go_wp2
  go_returns
  refine ⟨_, _, rfl, ⟨rd_blk (l := [100, 100, 100]) (e := 3) ?_, rd_blk (l := exP.cons) (e := 42) ?_, by simp [exP], by simp [exP], by simp [exP], by simp [exP]⟩, (((Ext.refl w).alloc _).alloc _).alloc _⟩
  · have := (Blk.new (w.alloc (.cells #[.slice (some ⟨w.heap.size + 1, 0, none⟩) 3 3, .slice (some ⟨w.heap.size + 1 + 1, 0, none⟩) 2 2] 25)) 3 #[.int .i64 100, .int .i64 100, .int .i64 100]).ext ((Ext.refl _).alloc (.cells (ECon.all exP.cons).toArray 42))
    simp only [World.size_alloc] at this
    exact this
  · have := Blk.new ((w.alloc (.cells #[.slice (some ⟨w.heap.size + 1, 0, none⟩) 3 3, .slice (some ⟨w.heap.size + 1 + 1, 0, none⟩) 2 2] 25)).alloc (.cells #[.int .i64 100, .int .i64 100, .int .i64 100] 3)) 42 (ECon.all exP.cons).toArray
    simp only [World.size_alloc] at this
    exact this
theorem exP_pa : PA exP 0 2 20 := Pln.rv_pa exP_rv (by decide)
theorem exF_ok : LevOk (lvl exS 52) := exS_chn.levOk exP_pa (by decide)
theorem pro_ex (Aq Ac : Option Addr) (w : World) (h : PlnRd w Aq 3 Ac 2 exP) : Calls Tryz.prog 6 #[.agg #[.slice Aq 3 3, .slice Ac 2 2], .int .i64 0, .int .i64 2, .int .i64 20] w fun e w' => ∃ A c, e = .returned (.tuple #[.slice A 17 c, .int .i64 0]) ∧ Rd ELev w' A (lvl exS 52) ∧ Ext w w' := by
  refine (Profile_any Aq 3 Ac 2 exP 0 2 20 w h).mono ?_
  rintro e w' ⟨A, c, out, b, er, rfl, ho, hx, hp⟩
  obtain ⟨rfl, _, rfl⟩ := hp.unique exP_lev
  exact ⟨A, c, rfl, ho.rd, hx⟩
theorem fst_ex (Aq Ac : Option Addr) (w : World) (h : PlnRd w Aq 3 Ac 2 exP) : Calls Tryz.prog 8 #[.agg #[.slice Aq 3 3, .slice Ac 2 2], .int .i64 0, .int .i64 2, .int .i64 20] w fun e w' => e = .returned (.tuple #[.agg #[.int .i64 36, .int .i64 64], .int .i64 0]) ∧ Ext w w' := by
  refine (Fastest_any Aq 3 Ac 2 exP 0 2 20 w h).mono ?_
  rintro e w' ⟨out, b, er, rfl, hx, hp⟩
  obtain ⟨rfl, rfl, rfl⟩ := hp.unique exP_lev
  exact ⟨rfl, hx⟩
theorem hub_ex (Aq Ac : Option Addr) (w : World) (h : PlnRd w Aq 3 Ac 2 exP) : Calls Tryz.prog 15 #[.agg #[.slice Aq 3 3, .slice Ac 2 2], .int .i64 0, .int .i64 100, .int .i64 20] w fun e w' => ∃ A c, e = .returned (.tuple #[.slice A 1 c, .int .i64 0]) ∧ Rd EInt w' A [0] ∧ Ext w w' := by
  refine (Hubs_any Aq 3 Ac 2 exP 0 100 20 w h).mono ?_
  rintro e w' ⟨A, c, h1, h2, h3⟩
  rw [exP_hubs, exP_hubE] at h1
  rw [exP_hubs] at h2
  exact ⟨A, c, h1, h2.rd, h3⟩
theorem at_ex (A : Option Addr) (c : Nat) (t v : Int) (w : World) (h : Rd ELev w A (lvl exS 52)) (ht : 0 ≤ t ∧ t ≤ 1099511627776) (hv : max (exP.ear 0 2 20 t) 0 = v) : Calls Tryz.prog 16 #[.slice A 17 c, .int .i64 t] w fun e w' => e = .returned (.int .i64 v) ∧ Ext w w' := by
  refine (fat_any A c (lvl exS 52) t w h exF_ok ht).mono ?_
  rintro e w' ⟨i, hi, rfl, hx⟩
  rw [exS_chn.value exP_pa exS_stop (by decide) ht.1 ht.2 hi, hv]
  exact ⟨rfl, hx⟩

set_option maxRecDepth 100000 in
set_option maxHeartbeats 4000000 in
theorem awake_any (w : World) :
    Calls Tryz.prog 5 #[] w fun e w' => e = .returned (.bool true) ∧ Ext w w' := by
  go_enter Tryz.func5, Tryz.ntmps5
  go_wp2_with fail
  refine (example_any _).mono ?_
  rintro e w1 ⟨Aq, Ac, rfl, hp1, hb1⟩
  go_wp2_with fail
  refine (pro_ex _ _ _ hp1).mono ?_
  rintro e w2 ⟨A2, c2, rfl, hR2, hb2⟩
  go_wp2_with fail
  refine (example_any _).mono ?_
  rintro e w3 ⟨Aq3, Ac3, rfl, hp3, hb3⟩
  go_wp2_with fail
  refine (fst_ex _ _ _ hp3).mono ?_
  rintro e w4 ⟨rfl, hb4⟩
  go_wp2_with fail
  obtain ⟨W5, hW5, hB5, hk5, hl5⟩ := box1 w4 #[.int .i64 36, .int .i64 64] 33
  rw [hW5]
  clear hW5
  have hE5 := ((hb1.trans hb2).trans (hb3.trans hb4)).trans hB5
  have hR5 := ((hR2.ext hb3).ext hb4).ext hB5
  clear hp1 hp3 hR2
  refine (example_any _).mono ?_
  rintro e w6 ⟨Aq6, Ac6, rfl, hp6, hb6⟩
  go_wp2_with fail
  refine (hub_ex _ _ _ hp6).mono ?_
  rintro e w7 ⟨A7, c7, rfl, hR7, hb7⟩
  have hR8 := (hR5.ext hb6).ext hb7
  have hk8 := (hk5.ext hb6).ext hb7
  clear hR5 hk5 hp6
  go_wp2_with fail
  refine (at_ex _ _ 0 64 _ hR8 (by decide) (by kernel_rfl)).mono ?_
  rintro e w8 ⟨rfl, hb8⟩
  go_wp2_with fail
  refine (at_ex _ _ 36 64 _ (hR8.ext hb8) (by decide) (by kernel_rfl)).mono ?_
  rintro e w9 ⟨rfl, hb9⟩
  go_wp2_with fail
  refine (at_ex _ _ 37 65 _ ((hR8.ext hb8).ext hb9) (by decide) (by kernel_rfl)).mono ?_
  rintro e w10 ⟨rfl, hb10⟩
  go_wp2_with fail
  refine (at_ex _ _ 51 79 _ (((hR8.ext hb8).ext hb9).ext hb10) (by decide) (by kernel_rfl)).mono ?_
  rintro e w11 ⟨rfl, hb11⟩
  go_wp2_with fail
  refine (at_ex _ _ 52 0 _ ((((hR8.ext hb8).ext hb9).ext hb10).ext hb11) (by decide) (by kernel_rfl)).mono ?_
  rintro e w12 ⟨rfl, hb12⟩
  have hE12 := ((hb8.trans hb9).trans (hb10.trans hb11)).trans hb12
  have hk12 := hk8.ext hE12
  have hc := hk12.cell
  obtain ⟨W13, hW13, hB13, hk13, hl13⟩ := box1 w12 #[.int .i64 0] 3
  go_wp2_with fail
  clear hW13
  refine (equalInt_ex A7 _ c7 1 [0] W13 ((hR7.ext hE12).ext hB13) (rd_blk hk13) (by simp)).mono ?_
  rintro e w14 ⟨rfl, hb14⟩
  go_wp2
  go_ret
  exact ⟨rfl, (hE5.trans (hb6.trans hb7)).trans ((hE12.trans hB13).trans hb14)⟩

end Go.Proofs.YtifopbkhflpbfaaGreat
