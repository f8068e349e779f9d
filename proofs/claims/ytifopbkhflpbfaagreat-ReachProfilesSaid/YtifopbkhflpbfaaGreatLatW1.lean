
/- Layer 25 (latest): the walks of begin and of the closures. -/
import Derived.Test.YtifopbkhflpbfaaGreatPlnA
import Derived.Test.YtifopbkhflpbfaaGreatPlnW2
namespace Go.Proofs.YtifopbkhflpbfaaGreat
set_option linter.unusedVariables false
open Go.RowKit Go.Shelf

set_option maxHeartbeats 1000000 in
theorem lbegin_any (c : Con) (t n : Int) (w : World) (h : c.Ok) (hn : 1 ≤ n ∧ n ≤ 65536) (ht : -1 ≤ t ∧ t ≤ 1099511627776) :
    Calls Tryz.prog 89 #[c.val, .int .i64 t, .int .i64 n] w fun e w' => e = .returned (.int .i64 (lbeg c t n)) ∧ Ext w w' := by
  have d := Con.dur_bd h hn.1 hn.2
  have ha : c.arg n = 0 := Con.arg_ok.2 ⟨h, hn⟩
  have hD : ∀ w, Calls Tryz.prog 96 #[c.val, .int .i64 n] w fun e w' => e = .returned (.tuple #[.int .i64 (c.dur n), .int .i64 0]) ∧ Ext w w' := fun w => by
    have := Duration_any c n w
    rw [Con.durR, if_pos ha, ha] at this
    exact this
  have ⟨h1, h2, h3, h4, h5, h6, h7, h8, h9, h10, h11, h12, h13, h14⟩ := h
  obtain ⟨ht1, ht2⟩ := ht
  obtain ⟨d1, d2⟩ := d
  clear ha
  by_cases hm : t = -1
  · have hd : (t == -1) = true := by simpa using hm
    have HL := Lib.hid (show lbeg c t n = -1 by unfold lbeg; rw [if_pos hm])
    have Hm := Lib.hid hm
    clear hm
    unfold Con.val at hD ⊢
    go_enter Tryz.func89, Tryz.ntmps89
    go_wp2_with fail
    obtain ⟨W, hW, hB, hk, hlt⟩ := box1 w c.cells 42
    simp only [Con.cells] at hW hk
    rw [hW]
    clear hW
    have hc := hk.cell
    have hN := Near.refl W
    go_wp2_with (go_at_call 96; refine (hD _).mono ?_; rintro e w1 ⟨rfl, hb⟩; replace hN := hN.step hb; have hC := hN.2)
    go_ret
    exact ⟨ret_i64 HL.out.symm, hB.trans hN.1⟩
  · have hd : (t == -1) = false := by simpa using hm
    have HL := Lib.hid (show lbeg c t n = if min c.en (t - c.rng) - c.dur n < c.st then -1 else min c.en (t - c.rng) - c.dur n by unfold lbeg; rw [if_neg hm])
    have Hm := Lib.hid hm
    clear hm
    unfold Con.val at hD ⊢
    go_enter Tryz.func89, Tryz.ntmps89
    go_wp2_with fail
    obtain ⟨W, hW, hB, hk, hlt⟩ := box1 w c.cells 42
    simp only [Con.cells] at hW hk
    rw [hW]
    clear hW
    have hc := hk.cell
    have hN := Near.refl W
    go_wp2_with (go_at_call 96; refine (hD _).mono ?_; rintro e w1 ⟨rfl, hb⟩; replace hN := hN.step hb; have hC := hN.2)
    all_goals go_ret
    all_goals refine ⟨ret_i64 ?_, hB.trans hN.1⟩
    all_goals rw [HL.out]
    all_goals clear hk hc hN hB hD HL
    all_goals (first | (rw [if_pos (by omega)]) | (rw [if_neg (by omega)]; omega))

set_option maxHeartbeats 1000000 in
theorem rlbegin_any (c : Con) (t n : Int) (w : World) (h : c.Ok) (hn : 1 ≤ n ∧ n ≤ 65536) (ht : -1 ≤ t ∧ t ≤ 1099511627776) :
    Calls Tryz.prog 53 #[c.val, .int .i64 n, .int .i64 t] w fun e w' => e = .returned (.int .i64 (lbeg c t n)) ∧ Ext w w' := by
  have d := Con.dur_bd h hn.1 hn.2
  have ⟨h1, h2, h3, h4, h5, h6, h7, h8, h9, h10, h11, h12, h13, h14⟩ := h
  obtain ⟨ht1, ht2⟩ := ht
  obtain ⟨d1, d2⟩ := d
  by_cases hm : t < 0
  · have HL := Lib.hid (show lbeg c t n = -1 by unfold lbeg; rw [if_pos (by omega)])
    unfold Con.val
    go_enter Tryz.func53, Tryz.ntmps53
    go_wp2_with fail
    obtain ⟨W, hW, hB, hk, hlt⟩ := box1 w c.cells 42
    simp only [Con.cells] at hW hk
    rw [hW]
    clear hW
    have hc := hk.cell
    have hN := Near.refl W
    go_wp2_with (go_at_call 75; refine (rdur_any c _ _ h hn).mono ?_; rintro e w1 ⟨rfl, hb⟩; replace hN := hN.step hb; have hC := hN.2)
    all_goals go_ret
    all_goals exact ⟨ret_i64 HL.out.symm, hB.trans hN.1⟩
  · have HL := Lib.hid (show lbeg c t n = if min c.en (t - c.rng) - c.dur n < c.st then -1 else min c.en (t - c.rng) - c.dur n by unfold lbeg; rw [if_neg (by omega)])
    have hm2 : 0 ≤ t := by omega
    clear hm
    unfold Con.val
    go_enter Tryz.func53, Tryz.ntmps53
    go_wp2_with fail
    obtain ⟨W, hW, hB, hk, hlt⟩ := box1 w c.cells 42
    simp only [Con.cells] at hW hk
    rw [hW]
    clear hW
    have hc := hk.cell
    have hN := Near.refl W
    go_wp2_with (go_at_call 75; refine (rdur_any c _ _ h hn).mono ?_; rintro e w1 ⟨rfl, hb⟩; replace hN := hN.step hb; have hC := hN.2)
    all_goals go_ret
    all_goals refine ⟨ret_i64 ?_, hB.trans hN.1⟩
    all_goals rw [HL.out]
    all_goals clear hk hc hN hB HL
    all_goals (first | (rw [if_pos (by omega)]) | (rw [if_neg (by omega)]; omega))

end Go.Proofs.YtifopbkhflpbfaaGreat
