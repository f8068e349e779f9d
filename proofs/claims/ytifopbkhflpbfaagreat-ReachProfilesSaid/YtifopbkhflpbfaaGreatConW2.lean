
/- Layer 21 (contact): the walks, second part. -/
import Derived.Test.YtifopbkhflpbfaaGreatSeg
namespace Go.Proofs.YtifopbkhflpbfaaGreat
set_option linter.unusedVariables false
open Go.RowKit

set_option maxHeartbeats 1000000 in
theorem dur_any (c : Con) (n : Int) (w : World) (h : c.Ok) (hn : 1 ≤ n ∧ n ≤ 65536) :
    Calls Tryz.prog 102 #[c.val, .int .i64 n] w fun e w' => e = .returned (.int .i64 (c.dur n)) ∧ Ext w w' := by
  obtain ⟨h1, h2, h3, h4, h5, h6, h7, h8, h9, h10, h11, h12, h13, h14⟩ := h
  have p := Con.pass_bd (c := c) h5 hn.1 hn.2
  have t := Con.ticks_bd (c := c) (n := 16) h5 (by omega)
  have x := Con.extra_bd (c := c) h5 h7 h8 h9 h10
  unfold Con.val
  go_enter Tryz.func102, Tryz.ntmps102
  go_wp2_with fail
  obtain ⟨W, hW, hB, hk, hlt⟩ := box1 w c.cells 42
  simp only [Con.cells] at hW hk
  rw [hW]
  clear hW
  have hc := hk.cell
  have hN := Near.refl W
  go_region_held3 (fun w' => Ext W w' ∧ ∀ b o, b < W.heap.size → w'.cell? ⟨b, o, none⟩ = W.cell? ⟨b, o, none⟩) (first | exact hN.drew | exact Near.step (by assumption) hb)
    (first | (go_at_call 105; refine (pass_any c _ _ ⟨h5, h6⟩ hn).mono ?_; rintro e w1 ⟨rfl, hb⟩) | (go_at_call 106; refine (ticks_any c _ _ ⟨h5, h6⟩ (by omega)).mono ?_; rintro e w1 ⟨rfl, hb⟩))
  all_goals (obtain ⟨hE, hC⟩ := ‹Ext W _ ∧ _›; replace hN : Near W _ := ⟨hE, hC⟩)
  go_wp2
  go_ret
  refine ⟨ret_i64 ?_, hB.trans hN.1⟩
  go_unwrap
  rfl

set_option maxHeartbeats 1000000 in
theorem rdur_any (c : Con) (n : Int) (w : World) (h : c.Ok) (hn : 1 ≤ n ∧ n ≤ 65536) :
    Calls Tryz.prog 75 #[c.val, .int .i64 n] w fun e w' => e = .returned (.int .i64 (c.dur n)) ∧ Ext w w' := by
  obtain ⟨h1, h2, h3, h4, h5, h6, h7, h8, h9, h10, h11, h12, h13, h14⟩ := h
  have p := Con.pass_bd (c := c) h5 hn.1 hn.2
  have t := Con.ticks_bd (c := c) (n := 16) h5 (by omega)
  have x := Con.extra_bd (c := c) h5 h7 h8 h9 h10
  unfold Con.val
  go_enter Tryz.func75, Tryz.ntmps75
  go_wp2_with fail
  obtain ⟨W, hW, hB, hk, hlt⟩ := box1 w c.cells 42
  simp only [Con.cells] at hW hk
  rw [hW]
  clear hW
  have hc := hk.cell
  have hN := Near.refl W
  go_region_held3 (fun w' => Ext W w' ∧ ∀ b o, b < W.heap.size → w'.cell? ⟨b, o, none⟩ = W.cell? ⟨b, o, none⟩) (first | exact hN.drew | exact Near.step (by assumption) hb)
    (first | (go_at_call 91; refine (rpass_any c _ _ ⟨h5, h6⟩ hn).mono ?_; rintro e w1 ⟨rfl, hb⟩) | (go_at_call 92; refine (rticks_any c _ _ ⟨h5, h6⟩ (by omega)).mono ?_; rintro e w1 ⟨rfl, hb⟩))
  all_goals (obtain ⟨hE, hC⟩ := ‹Ext W _ ∧ _›; replace hN : Near W _ := ⟨hE, hC⟩)
  go_wp2
  go_ret
  refine ⟨ret_i64 ?_, hB.trans hN.1⟩
  go_unwrap
  rfl

set_option maxHeartbeats 1000000 in
theorem fits_any (c : Con) (b n : Int) (w : World) (h : c.Ok) (hn : 1 ≤ n ∧ n ≤ 65536) :
    Calls Tryz.prog 101 #[c.val, .int .i64 b, .int .i64 n] w fun e w' => e = .returned (.bool (c.fitsB b n)) ∧ Ext w w' := by
  have d := Con.dur_bd h hn.1 hn.2
  have ⟨h1, h2, h3, h4, h5, h6, h7, h8, h9, h10, h11, h12, h13, h14⟩ := h
  by_cases hs : c.st ≤ b
  · have hd : decide (c.st ≤ b) = true := by simpa using hs
    unfold Con.val
    go_enter Tryz.func101, Tryz.ntmps101
    go_wp2_with fail
    obtain ⟨W, hW, hB, hk, hlt⟩ := box1 w c.cells 42
    simp only [Con.cells] at hW hk
    rw [hW]
    clear hW
    have hc := hk.cell
    have hN := Near.refl W
    have hq := quiet_near hN
    refine wp_region_quiet_below (by kernel_rfl) (by kernel_rfl) ?_
    repeat (first | go_big_quiet_skip | (go_big_quiet_want; go_big_quiet_op; first | go_big_quiet_on | (apply Exists.intro; refine ⟨fun _ => ?_, ?_⟩; (focus (first | (go_at_call 102; exact Calls.regrown_of (dur_any c _ _ h hn)))); go_big_quiet_on)))
    refine wpQuiet_nil ?_
    intro w1 hw1
    clear hq
    replace hw1 := quiet_ext hw1
    replace hN := hN.step hw1
    have hC := hN.2
    go_wp2
    go_ret
    refine ⟨ret_bool ?_, hB.trans hN.1⟩
    try go_unwrap
    simp [Con.fitsB]; omega
  · have hd : decide (c.st ≤ b) = false := by simpa using hs
    unfold Con.val
    go_enter Tryz.func101, Tryz.ntmps101
    go_wp2_with fail
    obtain ⟨W, hW, hB, hk, hlt⟩ := box1 w c.cells 42
    simp only [Con.cells] at hW hk
    rw [hW]
    clear hW
    have hc := hk.cell
    have hN := Near.refl W
    have hq := quiet_near hN
    refine wp_region_quiet_below (by kernel_rfl) (by kernel_rfl) ?_
    repeat (first | go_big_quiet_skip | (go_big_quiet_want; go_big_quiet_op; first | go_big_quiet_on | (apply Exists.intro; refine ⟨fun _ => ?_, ?_⟩; (focus (first | fail)); go_big_quiet_on)))
    refine wpQuiet_nil ?_
    intro w1 hw1
    clear hq
    replace hw1 := quiet_ext hw1
    replace hN := hN.step hw1
    have hC := hN.2
    go_wp2
    go_ret
    refine ⟨ret_bool ?_, hB.trans hN.1⟩
    simp [Con.fitsB]; omega

set_option maxHeartbeats 1000000 in
theorem Duration_any (c : Con) (n : Int) (w : World) :
    Calls Tryz.prog 96 #[c.val, .int .i64 n] w fun e w' => e = .returned (.tuple #[.int .i64 (c.durR n), .int .i64 (c.arg n)]) ∧ Ext w w' := by
  by_cases ha : c.arg n = 0
  all_goals
    unfold Con.val
    go_enter Tryz.func96, Tryz.ntmps96
    go_wp2_with fail
    obtain ⟨W, hW, hB, hk, hlt⟩ := box1 w c.cells 42
    simp only [Con.cells] at hW hk
    rw [hW]
    clear hW
    have hc := hk.cell
    have hN := Near.refl W
    go_wp2_with (first | (go_at_call 100; refine (arg_any c _ _).mono ?_; rintro e w1 ⟨rfl, hb⟩; replace hN := hN.step hb; have hC := hN.2) | (go_at_call 102; refine (dur_any c _ _ (Con.arg_ok.1 ha).1 (Con.arg_ok.1 ha).2).mono ?_; rintro e w1 ⟨rfl, hb⟩; replace hN := hN.step hb; have hC := hN.2))
    go_ret2
    exact ⟨by simp [Con.durR, ha], hB.trans hN.1⟩

set_option maxHeartbeats 1000000 in
theorem Begin_any (c : Con) (t n : Int) (w : World) :
    Calls Tryz.prog 95 #[c.val, .int .i64 t, .int .i64 n] w fun e w' => e = .returned (.tuple #[.int .i64 (c.beginT t n), .int .i64 (c.beginE t n)]) ∧ Ext w w' := by
  by_cases ha : c.arg n = 0
  · cases hf : c.fitsB (c.beg t) n
    all_goals
      by_cases ht : t < c.st
      all_goals
        have hx : c.beg t = if t < c.st then c.st else t := rfl
        simp only [ht, if_true, if_false] at hx
        have hx' := Lib.hid hx
        rw [hx] at hf
        clear hx
        unfold Con.val
        go_enter Tryz.func95, Tryz.ntmps95
        go_wp2_with fail
        obtain ⟨W, hW, hB, hk, hlt⟩ := box1 w c.cells 42
        simp only [Con.cells] at hW hk
        rw [hW]
        clear hW
        have hc := hk.cell
        have hN := Near.refl W
        go_wp2_with (first | (go_at_call 100; refine (arg_any c _ _).mono ?_; rintro e w1 ⟨rfl, hb⟩; replace hN := hN.step hb; have hC := hN.2) | (go_at_call 101; refine (fits_any c _ _ _ (Con.arg_ok.1 ha).1 (Con.arg_ok.1 ha).2).mono ?_; rintro e w1 ⟨rfl, hb⟩; replace hN := hN.step hb; have hC := hN.2))
        go_ret2
        exact ⟨by simp [Con.beginT, Con.beginE, Con.atE, ha, hx'.out, hf], hB.trans hN.1⟩
  · unfold Con.val
    go_enter Tryz.func95, Tryz.ntmps95
    go_wp2_with fail
    obtain ⟨W, hW, hB, hk, hlt⟩ := box1 w c.cells 42
    simp only [Con.cells] at hW hk
    rw [hW]
    clear hW
    have hc := hk.cell
    have hN := Near.refl W
    go_wp2_with (go_at_call 100; refine (arg_any c _ _).mono ?_; rintro e w1 ⟨rfl, hb⟩; replace hN := hN.step hb; have hC := hN.2)
    go_ret2
    exact ⟨by simp [Con.beginT, Con.beginE, Con.atE, ha], hB.trans hN.1⟩

end Go.Proofs.YtifopbkhflpbfaaGreat
