
/- Layer 21 (contact): the walks, first part. -/
import Derived.Test.YtifopbkhflpbfaaGreatCon
import Derived.Test.YtifopbkhflpbfaaGreatRows
namespace Go.Proofs.YtifopbkhflpbfaaGreat
set_option linter.unusedVariables false
open Go.RowKit

set_option maxHeartbeats 400000 in
theorem within_any (n lo hi : Int) (w : World) :
    Calls Tryz.prog 76 #[.int .i64 n, .int .i64 lo, .int .i64 hi] w fun e w' => e = .returned (.bool (inB n lo hi)) ∧ w = w' := by
  by_cases h1 : lo ≤ n
  · by_cases h2 : n ≤ hi
    all_goals
      go_enter Tryz.func76, Tryz.ntmps76
      go_wp2
      go_ret
      exact ⟨by simp [inB]; omega, rfl⟩
  · go_enter Tryz.func76, Tryz.ntmps76
    go_wp2
    go_ret
    exact ⟨by simp [inB]; omega, rfl⟩

set_option maxHeartbeats 400000 in
theorem check_any (c : Con) (w : World) :
    Calls Tryz.prog 54 #[c.val] w fun e w' => e = .returned (.int .i64 c.check) ∧ Ext w w' := by
  have hB : Ext w (w.alloc (.cells c.cells 42)) := (Ext.refl _).alloc _
  unfold Con.val
  unfold Con.cells at hB
  go_enter Tryz.func54, Tryz.ntmps54
  go_wp2_with (go_at_call 76; refine (within_any _ _ _ _).mono ?_; rintro e w' ⟨rfl, rfl⟩)
  all_goals go_ret
  all_goals refine ⟨?_, hB⟩
  all_goals simp only [Con.check, Con.inr, Con.tim]
  all_goals simp_all
  all_goals (simp only [inB, decide_eq_true_eq, wrap64] at *; omega)

set_option maxHeartbeats 800000 in
theorem rcheck_any (c : Con) (w : World) :
    Calls Tryz.prog 51 #[c.val] w fun e w' => e = .returned (.int .i64 c.check) ∧ Ext w w' := by
  have hB : Ext w (w.alloc (.cells c.cells 42)) := (Ext.refl _).alloc _
  unfold Con.val
  unfold Con.cells at hB
  go_enter Tryz.func51, Tryz.ntmps51
  go_wp2
  all_goals go_ret
  all_goals refine ⟨?_, hB⟩
  all_goals clear hB
  all_goals simp only [Con.check, Con.inr, Con.tim, inB]
  all_goals simp_all
  all_goals (try simp only [wrap64] at *)
  all_goals omega

set_option maxHeartbeats 400000 in
theorem arg_any (c : Con) (n : Int) (w : World) :
    Calls Tryz.prog 100 #[c.val, .int .i64 n] w fun e w' => e = .returned (.int .i64 (c.arg n)) ∧ Ext w w' := by
  by_cases h0 : c.check = 0
  all_goals
    unfold Con.val
    go_enter Tryz.func100, Tryz.ntmps100
    go_wp2_with fail
    obtain ⟨W, hW, hB, hk, hlt⟩ := box1 w c.cells 42
    simp only [Con.cells] at hW hk
    rw [hW]
    clear hW
    have hc := hk.cell
    have hN := Near.refl W
    go_wp2_with (first | (go_at_call 54; refine (check_any c _).mono ?_; rintro e w1 ⟨rfl, hb⟩; replace hN := hN.step hb; have hC := hN.2) | (go_at_call 76; refine (within_any _ _ _ _).mono ?_; rintro e w1 ⟨rfl, rfl⟩))
    all_goals go_ret
    all_goals refine ⟨?_, hB.trans hN.1⟩
    all_goals (simp_all [Con.arg])

set_option maxHeartbeats 400000 in
theorem rarg_any (c : Con) (n : Int) (w : World) :
    Calls Tryz.prog 103 #[c.val, .int .i64 n] w fun e w' => e = .returned (.int .i64 (c.arg n)) ∧ Ext w w' := by
  by_cases h0 : c.check = 0
  all_goals
    unfold Con.val
    go_enter Tryz.func103, Tryz.ntmps103
    go_wp2_with fail
    obtain ⟨W, hW, hB, hk, hlt⟩ := box1 w c.cells 42
    simp only [Con.cells] at hW hk
    rw [hW]
    clear hW
    have hc := hk.cell
    have hN := Near.refl W
    go_wp2_with (go_at_call 51; refine (rcheck_any c _).mono ?_; rintro e w1 ⟨rfl, hb⟩; replace hN := hN.step hb; have hC := hN.2)
    all_goals go_ret
    all_goals refine ⟨?_, hB.trans hN.1⟩
    all_goals (simp_all [Con.arg, inB])
    all_goals omega

set_option maxHeartbeats 400000 in
theorem ticks_any (c : Con) (n : Int) (w : World) (hr : 1 ≤ c.rate ∧ c.rate ≤ 1000) (hn : 0 ≤ n ∧ n ≤ 65536) :
    Calls Tryz.prog 106 #[c.val, .int .i64 n] w fun e w' => e = .returned (.int .i64 (c.ticks n)) ∧ Ext w w' := by
  unfold Con.val
  go_enter Tryz.func106, Tryz.ntmps106
  go_wp2
  go_ret
  exact ⟨by rfl, (Ext.refl _).alloc _⟩

set_option maxHeartbeats 400000 in
theorem rticks_any (c : Con) (n : Int) (w : World) (hr : 1 ≤ c.rate ∧ c.rate ≤ 1000) (hn : 0 ≤ n ∧ n ≤ 65536) :
    Calls Tryz.prog 92 #[c.val, .int .i64 n] w fun e w' => e = .returned (.int .i64 (c.ticks n)) ∧ Ext w w' := by
  unfold Con.val
  go_enter Tryz.func92, Tryz.ntmps92
  go_wp2
  go_ret
  exact ⟨by rfl, (Ext.refl _).alloc _⟩

set_option maxHeartbeats 400000 in
theorem rpass_any (c : Con) (n : Int) (w : World) (hr : 1 ≤ c.rate ∧ c.rate ≤ 1000) (hn : 1 ≤ n ∧ n ≤ 65536) :
    Calls Tryz.prog 91 #[c.val, .int .i64 n] w fun e w' => e = .returned (.int .i64 (c.pass n)) ∧ Ext w w' := by
  have t1 := Con.ticks_bd (c := c) (n := 16) hr.1 (by omega)
  have t2 := Con.ticks_bd (c := c) (n := n % 16) hr.1 (by omega)
  have m := mul_le_of (by omega : 0 ≤ n / 16) (by omega : n / 16 ≤ 4096) (by omega : 0 ≤ c.ticks 16) (by omega : c.ticks 16 ≤ 24)
  unfold Con.val
  go_enter Tryz.func91, Tryz.ntmps91
  go_wp2_with fail
  obtain ⟨W, hW, hB, hk, hlt⟩ := box1 w c.cells 42
  simp only [Con.cells] at hW hk
  rw [hW]
  clear hW
  have hc := hk.cell
  have hN := Near.refl W
  go_wp2_with (go_at_call 92; refine (rticks_any c _ _ hr (by omega)).mono ?_; rintro e w1 ⟨rfl, hb⟩; replace hN := hN.step hb; have hC := hN.2)
  all_goals go_ret
  all_goals refine ⟨ret_i64 ?_, hB.trans hN.1⟩
  all_goals first
    | (unfold Con.pass; rw [if_pos (by omega)])
    | (unfold Con.pass; rw [if_neg (by omega)]; omega)

end Go.Proofs.YtifopbkhflpbfaaGreat
