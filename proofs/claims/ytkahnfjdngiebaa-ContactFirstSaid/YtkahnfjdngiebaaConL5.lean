/- Layer 21 (contact): the walk of ContactFirst. -/
import Derived.Test.YtkahnfjdngiebaaConL3
namespace Go.Proofs.Ytkahnfjdngiebaa
set_option linter.unusedVariables false
open Go.RowKit

theorem Con.begin_at {c : Con} {n : Int} (h : c.Ok) (hn : 1 ≤ n ∧ n ≤ 65536) (t : Int) :
    (c.beg t ≤ c.en - c.dur n ∧ c.beginE t n = 0 ∧ c.beginT t n = c.beg t) ∨ (c.en - c.dur n < c.beg t ∧ c.beginE t n = 16 ∧ c.beginT t n = 0) := by
  have ha : c.arg n = 0 := Con.arg_ok.2 ⟨h, hn⟩
  have hs : c.st ≤ c.beg t := by unfold Con.beg; split <;> omega
  unfold Con.beginE Con.beginT Con.atE
  rw [if_pos ha]
  by_cases hf : c.beg t ≤ c.en - c.dur n
  · have : c.fitsB (c.beg t) n = true := by simp [Con.fitsB, hf, hs]
    simp [this, hf]
  · have : c.fitsB (c.beg t) n = false := by simp [Con.fitsB]; omega
    simp [this]; omega

set_option maxHeartbeats 1000000 in
theorem first_bad (c : Con) (t n k : Int) (w : World) (h : ¬ c.check = 0 ∨ t < -1099511627776 ∨ 1099511627776 < t) :
    Calls Try.prog 6 #[c.val, .int .i64 t, .int .u16 n, .int .u16 k] w fun e w' => e = .returned (.bool true) ∧ Ext w w' := by
  by_cases h0 : c.check = 0
  · by_cases h1 : t < -1099511627776
    · unfold Con.val
      go_enter Try.func6, Try.ntmps6
      go_wp2_with fail
      obtain ⟨W, hW, hB, hk, hlt⟩ := box1 w c.cells 23
      simp only [Con.cells] at hW hk
      rw [hW]
      clear hW
      have hc := hk.cell
      have hN := Near.refl W
      go_wp2_with (first | (go_at_call 17; refine (check_any c _).mono ?_; rintro e w1 ⟨rfl, hb⟩; replace hN := hN.step hb; have hC := hN.2) | (go_at_call 19; refine (awake_any _).mono ?_; rintro e w1 ⟨rfl, hb⟩; replace hN := hN.step hb; have hC := hN.2))
      go_ret
      exact ⟨rfl, hB.trans hN.1⟩
    · have h2 : 1099511627776 < t := by omega
      clear h
      unfold Con.val
      go_enter Try.func6, Try.ntmps6
      go_wp2_with fail
      obtain ⟨W, hW, hB, hk, hlt⟩ := box1 w c.cells 23
      simp only [Con.cells] at hW hk
      rw [hW]
      clear hW
      have hc := hk.cell
      have hN := Near.refl W
      go_wp2_with (first | (go_at_call 17; refine (check_any c _).mono ?_; rintro e w1 ⟨rfl, hb⟩; replace hN := hN.step hb; have hC := hN.2) | (go_at_call 19; refine (awake_any _).mono ?_; rintro e w1 ⟨rfl, hb⟩; replace hN := hN.step hb; have hC := hN.2))
      go_ret
      exact ⟨rfl, hB.trans hN.1⟩
  · clear h
    unfold Con.val
    go_enter Try.func6, Try.ntmps6
    go_wp2_with fail
    obtain ⟨W, hW, hB, hk, hlt⟩ := box1 w c.cells 23
    simp only [Con.cells] at hW hk
    rw [hW]
    clear hW
    have hc := hk.cell
    have hN := Near.refl W
    go_wp2_with (first | (go_at_call 17; refine (check_any c _).mono ?_; rintro e w1 ⟨rfl, hb⟩; replace hN := hN.step hb; have hC := hN.2) | (go_at_call 19; refine (awake_any _).mono ?_; rintro e w1 ⟨rfl, hb⟩; replace hN := hN.step hb; have hC := hN.2))
    go_ret
    exact ⟨rfl, hB.trans hN.1⟩

set_option maxHeartbeats 4000000 in
theorem first_late (c : Con) (t n k : Int) (w : World) (hn : 0 ≤ n ∧ n ≤ 65535) (hk0 : 0 ≤ k ∧ k ≤ 65535) (h0 : c.check = 0) (hok : c.Ok) (ht : -1099511627776 ≤ t ∧ t ≤ 1099511627776) (hl : c.en - c.dur (1 + n) < c.beg t) (e1 : c.beginE t (1 + n) = 16) (e2 : c.beginT t (1 + n) = 0) :
    Calls Try.prog 6 #[c.val, .int .i64 t, .int .u16 n, .int .u16 k] w fun e w' => e = .returned (.bool true) ∧ Ext w w' := by
  have hsz : 1 ≤ 1 + n ∧ 1 + n ≤ 65536 := by omega
  have ⟨g1, g2, g3, g4, g5, g6, g7, g8, g9, g10, g11, g12, g13, g14⟩ := hok
  by_cases hc0 : t < c.st
  · have hb0 : c.beg t = c.st := by unfold Con.beg; rw [if_pos hc0]
    rw [hb0] at hl
    have e3 : c.fitsR c.st (1 + n) = false := by rw [Con.fits_at hok hsz]; simp; omega
    have e4 : c.fitsR (c.st + k) (1 + n) = false := by rw [Con.fits_at hok hsz]; simp; omega
    clear hb0
    unfold Con.val
    go_enter Try.func6, Try.ntmps6
    go_wp2_with fail
    obtain ⟨W, hW, hB, hk, hlt⟩ := box1 w c.cells 23
    simp only [Con.cells] at hW hk
    rw [hW]
    clear hW
    have hc := hk.cell
    have hN := Near.refl W
    go_wp2_with (go_at_call 17; refine (check_any c _).mono ?_; rintro e w1 ⟨rfl, hb⟩; replace hN := hN.step hb; have hC := hN.2)
    have hq := quiet_near hN
    refine wp_region_quiet_below (by kernel_rfl) (by kernel_rfl) ?_
    repeat (first | go_big_quiet_skip | (go_big_quiet_want; go_big_quiet_op; first | go_big_quiet_on | (apply Exists.intro; refine ⟨fun _ => ?_, ?_⟩; (focus (first | (go_at_call 20; exact Calls.regrown_of (size_ext n _ hn)) | (go_at_call 22; exact Calls.regrown_of (Begin_any c _ _ _)))); go_big_quiet_on)))
    refine wpQuiet_nil ?_
    intro w1 hw1
    clear hq
    replace hw1 := quiet_ext hw1
    replace hN := hN.step hw1
    have hC := hN.2
    go_wp2
    have hq := quiet_near hN
    refine wp_region_quiet_below (by kernel_rfl) (by kernel_rfl) ?_
    repeat (first | go_big_quiet_skip | (go_big_quiet_want; go_big_quiet_op; first | go_big_quiet_on | (apply Exists.intro; refine ⟨fun _ => ?_, ?_⟩; (focus (first | (go_at_call 20; exact Calls.regrown_of (size_ext n _ hn)) | (go_at_call 21; exact Calls.regrown_of (Fits_any c _ _ _)) | (go_at_call 19; exact Calls.regrown_of (awake_any _)))); go_big_quiet_on)))
    refine wpQuiet_nil ?_
    intro w1 hw1
    clear hq
    replace hw1 := quiet_ext hw1
    replace hN := hN.step hw1
    have hC := hN.2
    go_wp2
    go_ret
    exact ⟨rfl, hB.trans hN.1⟩
  · have hb0 : c.beg t = t := by unfold Con.beg; rw [if_neg hc0]
    rw [hb0] at hl
    have e3 : c.fitsR t (1 + n) = false := by rw [Con.fits_at hok hsz]; simp; omega
    have e4 : c.fitsR (t + k) (1 + n) = false := by rw [Con.fits_at hok hsz]; simp; omega
    clear hb0
    unfold Con.val
    go_enter Try.func6, Try.ntmps6
    go_wp2_with fail
    obtain ⟨W, hW, hB, hk, hlt⟩ := box1 w c.cells 23
    simp only [Con.cells] at hW hk
    rw [hW]
    clear hW
    have hc := hk.cell
    have hN := Near.refl W
    go_wp2_with (go_at_call 17; refine (check_any c _).mono ?_; rintro e w1 ⟨rfl, hb⟩; replace hN := hN.step hb; have hC := hN.2)
    have hq := quiet_near hN
    refine wp_region_quiet_below (by kernel_rfl) (by kernel_rfl) ?_
    repeat (first | go_big_quiet_skip | (go_big_quiet_want; go_big_quiet_op; first | go_big_quiet_on | (apply Exists.intro; refine ⟨fun _ => ?_, ?_⟩; (focus (first | (go_at_call 20; exact Calls.regrown_of (size_ext n _ hn)) | (go_at_call 22; exact Calls.regrown_of (Begin_any c _ _ _)))); go_big_quiet_on)))
    refine wpQuiet_nil ?_
    intro w1 hw1
    clear hq
    replace hw1 := quiet_ext hw1
    replace hN := hN.step hw1
    have hC := hN.2
    go_wp2
    have hq := quiet_near hN
    refine wp_region_quiet_below (by kernel_rfl) (by kernel_rfl) ?_
    repeat (first | go_big_quiet_skip | (go_big_quiet_want; go_big_quiet_op; first | go_big_quiet_on | (apply Exists.intro; refine ⟨fun _ => ?_, ?_⟩; (focus (first | (go_at_call 20; exact Calls.regrown_of (size_ext n _ hn)) | (go_at_call 21; exact Calls.regrown_of (Fits_any c _ _ _)) | (go_at_call 19; exact Calls.regrown_of (awake_any _)))); go_big_quiet_on)))
    refine wpQuiet_nil ?_
    intro w1 hw1
    clear hq
    replace hw1 := quiet_ext hw1
    replace hN := hN.step hw1
    have hC := hN.2
    go_wp2
    go_ret
    exact ⟨rfl, hB.trans hN.1⟩

set_option maxHeartbeats 4000000 in
theorem first_ok_early (c : Con) (t n k : Int) (w : World) (hn : 0 ≤ n ∧ n ≤ 65535) (hk0 : 0 ≤ k ∧ k ≤ 65535) (h0 : c.check = 0) (hok : c.Ok) (ht : -1099511627776 ≤ t ∧ t ≤ 1099511627776) (hc0 : t < c.st) (hl : c.st ≤ c.en - c.dur (1 + n)) (e1 : c.beginE t (1 + n) = 0) (e2 : c.beginT t (1 + n) = c.st) :
    Calls Try.prog 6 #[c.val, .int .i64 t, .int .u16 n, .int .u16 k] w fun e w' => e = .returned (.bool true) ∧ Ext w w' := by
  have hsz : 1 ≤ 1 + n ∧ 1 + n ≤ 65536 := by omega
  have ⟨g1, g2, g3, g4, g5, g6, g7, g8, g9, g10, g11, g12, g13, g14⟩ := hok
  have e3 : c.fitsR c.st (1 + n) = true := by rw [Con.fits_at hok hsz]; simp; omega
  have hd1 : decide (c.st < t) = false := by simp; omega
  have hd2 : decide (c.st - 1 - k < c.st) = true := by simp; omega
  have hd3 : decide (t < c.st) = true := by simp; omega
  have hlate2 : ¬ c.beginE (t + k) (1 + n) = 0 → c.beginE (t + k) (1 + n) = 16 := fun h => by
    rcases Con.begin_at hok hsz (t + k) with ⟨_, h1, _⟩ | ⟨_, h1, _⟩
    · exact absurd h1 h
    · exact h1
  have hlater : c.beginE (t + k) (1 + n) = 0 → c.st ≤ c.beginT (t + k) (1 + n) ∧ c.beginT (t + k) (1 + n) ≤ c.st + k := fun h => by
    rcases Con.begin_at hok hsz (t + k) with ⟨_, _, h2⟩ | ⟨_, h1, _⟩
    · rw [h2]; unfold Con.beg; split <;> omega
    · omega
  replace hlate2 := Lib.hid hlate2
  replace hlater := Lib.hid hlater
  by_cases hm : t < c.st - 1 - k
  · have e5 : c.fitsR (c.st - 1 - k) (1 + n) = false := by rw [Con.fits_at hok hsz]; simp; omega
    by_cases hf2 : c.beginE (t + k) (1 + n) = 0
    · have T2 : c.st ≤ c.beginT (t + k) (1 + n) ∧ c.beginT (t + k) (1 + n) ≤ c.st + k := hlater.out hf2
      unfold Con.val
      go_enter Try.func6, Try.ntmps6
      go_wp2_with fail
      obtain ⟨W, hW, hB, hk, hlt⟩ := box1 w c.cells 23
      simp only [Con.cells] at hW hk
      rw [hW]
      clear hW
      have hc := hk.cell
      have hN := Near.refl W
      go_wp2_with (go_at_call 17; refine (check_any c _).mono ?_; rintro e w1 ⟨rfl, hb⟩; replace hN := hN.step hb; have hC := hN.2)
      have hq := quiet_near hN
      refine wp_region_quiet_below (by kernel_rfl) (by kernel_rfl) ?_
      repeat (first | go_big_quiet_skip | (go_big_quiet_want; go_big_quiet_op; first | go_big_quiet_on | (apply Exists.intro; refine ⟨fun _ => ?_, ?_⟩; (focus (first | (go_at_call 20; exact Calls.regrown_of (size_ext n _ hn)) | (go_at_call 22; exact Calls.regrown_of (Begin_any c _ _ _)))); go_big_quiet_on)))
      refine wpQuiet_nil ?_
      intro w1 hw1
      clear hq
      replace hw1 := quiet_ext hw1
      replace hN := hN.step hw1
      have hC := hN.2
      go_wp2
      have hq := quiet_near hN
      refine wp_region_quiet_below (by kernel_rfl) (by kernel_rfl) ?_
      repeat (first | go_big_quiet_skip | (go_big_quiet_want; go_big_quiet_op; first | go_big_quiet_on | (apply Exists.intro; refine ⟨fun _ => ?_, ?_⟩; (focus (first | (go_at_call 20; exact Calls.regrown_of (size_ext n _ hn)) | (go_at_call 21; exact Calls.regrown_of (Fits_any c _ _ _)))); go_big_quiet_on)))
      refine wpQuiet_nil ?_
      intro w1 hw1
      clear hq
      replace hw1 := quiet_ext hw1
      replace hN := hN.step hw1
      have hC := hN.2
      go_wp2
      have hq := quiet_near hN
      refine wp_region_quiet_below (by kernel_rfl) (by kernel_rfl) ?_
      repeat (first | go_big_quiet_skip | (go_big_quiet_want; go_big_quiet_op; first | go_big_quiet_on | (apply Exists.intro; refine ⟨fun _ => ?_, ?_⟩; (focus (first | (go_at_call 20; exact Calls.regrown_of (size_ext n _ hn)) | (go_at_call 22; exact Calls.regrown_of (Begin_any c _ _ _)))); go_big_quiet_on)))
      refine wpQuiet_nil ?_
      intro w1 hw1
      clear hq
      replace hw1 := quiet_ext hw1
      replace hN := hN.step hw1
      have hC := hN.2
      go_wp2_with (go_at_call 19; refine (awake_any _).mono ?_; rintro e w1 ⟨rfl, hb⟩; replace hN := hN.step hb; have hC := hN.2)
      all_goals go_ret
      all_goals exact ⟨rfl, hB.trans hN.1⟩
    · have hf3 : c.beginE (t + k) (1 + n) = 16 := hlate2.out hf2
      clear hf2
      unfold Con.val
      go_enter Try.func6, Try.ntmps6
      go_wp2_with fail
      obtain ⟨W, hW, hB, hk, hlt⟩ := box1 w c.cells 23
      simp only [Con.cells] at hW hk
      rw [hW]
      clear hW
      have hc := hk.cell
      have hN := Near.refl W
      go_wp2_with (go_at_call 17; refine (check_any c _).mono ?_; rintro e w1 ⟨rfl, hb⟩; replace hN := hN.step hb; have hC := hN.2)
      have hq := quiet_near hN
      refine wp_region_quiet_below (by kernel_rfl) (by kernel_rfl) ?_
      repeat (first | go_big_quiet_skip | (go_big_quiet_want; go_big_quiet_op; first | go_big_quiet_on | (apply Exists.intro; refine ⟨fun _ => ?_, ?_⟩; (focus (first | (go_at_call 20; exact Calls.regrown_of (size_ext n _ hn)) | (go_at_call 22; exact Calls.regrown_of (Begin_any c _ _ _)))); go_big_quiet_on)))
      refine wpQuiet_nil ?_
      intro w1 hw1
      clear hq
      replace hw1 := quiet_ext hw1
      replace hN := hN.step hw1
      have hC := hN.2
      go_wp2
      have hq := quiet_near hN
      refine wp_region_quiet_below (by kernel_rfl) (by kernel_rfl) ?_
      repeat (first | go_big_quiet_skip | (go_big_quiet_want; go_big_quiet_op; first | go_big_quiet_on | (apply Exists.intro; refine ⟨fun _ => ?_, ?_⟩; (focus (first | (go_at_call 20; exact Calls.regrown_of (size_ext n _ hn)) | (go_at_call 21; exact Calls.regrown_of (Fits_any c _ _ _)))); go_big_quiet_on)))
      refine wpQuiet_nil ?_
      intro w1 hw1
      clear hq
      replace hw1 := quiet_ext hw1
      replace hN := hN.step hw1
      have hC := hN.2
      go_wp2
      have hq := quiet_near hN
      refine wp_region_quiet_below (by kernel_rfl) (by kernel_rfl) ?_
      repeat (first | go_big_quiet_skip | (go_big_quiet_want; go_big_quiet_op; first | go_big_quiet_on | (apply Exists.intro; refine ⟨fun _ => ?_, ?_⟩; (focus (first | (go_at_call 20; exact Calls.regrown_of (size_ext n _ hn)) | (go_at_call 22; exact Calls.regrown_of (Begin_any c _ _ _)))); go_big_quiet_on)))
      refine wpQuiet_nil ?_
      intro w1 hw1
      clear hq
      replace hw1 := quiet_ext hw1
      replace hN := hN.step hw1
      have hC := hN.2
      go_wp2_with (go_at_call 19; refine (awake_any _).mono ?_; rintro e w1 ⟨rfl, hb⟩; replace hN := hN.step hb; have hC := hN.2)
      all_goals go_ret
      all_goals exact ⟨rfl, hB.trans hN.1⟩
  · have e5 : c.fitsR t (1 + n) = false := by rw [Con.fits_at hok hsz]; simp; omega
    by_cases hf2 : c.beginE (t + k) (1 + n) = 0
    · have T2 : c.st ≤ c.beginT (t + k) (1 + n) ∧ c.beginT (t + k) (1 + n) ≤ c.st + k := hlater.out hf2
      unfold Con.val
      go_enter Try.func6, Try.ntmps6
      go_wp2_with fail
      obtain ⟨W, hW, hB, hk, hlt⟩ := box1 w c.cells 23
      simp only [Con.cells] at hW hk
      rw [hW]
      clear hW
      have hc := hk.cell
      have hN := Near.refl W
      go_wp2_with (go_at_call 17; refine (check_any c _).mono ?_; rintro e w1 ⟨rfl, hb⟩; replace hN := hN.step hb; have hC := hN.2)
      have hq := quiet_near hN
      refine wp_region_quiet_below (by kernel_rfl) (by kernel_rfl) ?_
      repeat (first | go_big_quiet_skip | (go_big_quiet_want; go_big_quiet_op; first | go_big_quiet_on | (apply Exists.intro; refine ⟨fun _ => ?_, ?_⟩; (focus (first | (go_at_call 20; exact Calls.regrown_of (size_ext n _ hn)) | (go_at_call 22; exact Calls.regrown_of (Begin_any c _ _ _)))); go_big_quiet_on)))
      refine wpQuiet_nil ?_
      intro w1 hw1
      clear hq
      replace hw1 := quiet_ext hw1
      replace hN := hN.step hw1
      have hC := hN.2
      go_wp2
      have hq := quiet_near hN
      refine wp_region_quiet_below (by kernel_rfl) (by kernel_rfl) ?_
      repeat (first | go_big_quiet_skip | (go_big_quiet_want; go_big_quiet_op; first | go_big_quiet_on | (apply Exists.intro; refine ⟨fun _ => ?_, ?_⟩; (focus (first | (go_at_call 20; exact Calls.regrown_of (size_ext n _ hn)) | (go_at_call 21; exact Calls.regrown_of (Fits_any c _ _ _)))); go_big_quiet_on)))
      refine wpQuiet_nil ?_
      intro w1 hw1
      clear hq
      replace hw1 := quiet_ext hw1
      replace hN := hN.step hw1
      have hC := hN.2
      go_wp2
      have hq := quiet_near hN
      refine wp_region_quiet_below (by kernel_rfl) (by kernel_rfl) ?_
      repeat (first | go_big_quiet_skip | (go_big_quiet_want; go_big_quiet_op; first | go_big_quiet_on | (apply Exists.intro; refine ⟨fun _ => ?_, ?_⟩; (focus (first | (go_at_call 20; exact Calls.regrown_of (size_ext n _ hn)) | (go_at_call 22; exact Calls.regrown_of (Begin_any c _ _ _)))); go_big_quiet_on)))
      refine wpQuiet_nil ?_
      intro w1 hw1
      clear hq
      replace hw1 := quiet_ext hw1
      replace hN := hN.step hw1
      have hC := hN.2
      go_wp2_with (go_at_call 19; refine (awake_any _).mono ?_; rintro e w1 ⟨rfl, hb⟩; replace hN := hN.step hb; have hC := hN.2)
      all_goals go_ret
      all_goals exact ⟨rfl, hB.trans hN.1⟩
    · have hf3 : c.beginE (t + k) (1 + n) = 16 := hlate2.out hf2
      clear hf2
      unfold Con.val
      go_enter Try.func6, Try.ntmps6
      go_wp2_with fail
      obtain ⟨W, hW, hB, hk, hlt⟩ := box1 w c.cells 23
      simp only [Con.cells] at hW hk
      rw [hW]
      clear hW
      have hc := hk.cell
      have hN := Near.refl W
      go_wp2_with (go_at_call 17; refine (check_any c _).mono ?_; rintro e w1 ⟨rfl, hb⟩; replace hN := hN.step hb; have hC := hN.2)
      have hq := quiet_near hN
      refine wp_region_quiet_below (by kernel_rfl) (by kernel_rfl) ?_
      repeat (first | go_big_quiet_skip | (go_big_quiet_want; go_big_quiet_op; first | go_big_quiet_on | (apply Exists.intro; refine ⟨fun _ => ?_, ?_⟩; (focus (first | (go_at_call 20; exact Calls.regrown_of (size_ext n _ hn)) | (go_at_call 22; exact Calls.regrown_of (Begin_any c _ _ _)))); go_big_quiet_on)))
      refine wpQuiet_nil ?_
      intro w1 hw1
      clear hq
      replace hw1 := quiet_ext hw1
      replace hN := hN.step hw1
      have hC := hN.2
      go_wp2
      have hq := quiet_near hN
      refine wp_region_quiet_below (by kernel_rfl) (by kernel_rfl) ?_
      repeat (first | go_big_quiet_skip | (go_big_quiet_want; go_big_quiet_op; first | go_big_quiet_on | (apply Exists.intro; refine ⟨fun _ => ?_, ?_⟩; (focus (first | (go_at_call 20; exact Calls.regrown_of (size_ext n _ hn)) | (go_at_call 21; exact Calls.regrown_of (Fits_any c _ _ _)))); go_big_quiet_on)))
      refine wpQuiet_nil ?_
      intro w1 hw1
      clear hq
      replace hw1 := quiet_ext hw1
      replace hN := hN.step hw1
      have hC := hN.2
      go_wp2
      have hq := quiet_near hN
      refine wp_region_quiet_below (by kernel_rfl) (by kernel_rfl) ?_
      repeat (first | go_big_quiet_skip | (go_big_quiet_want; go_big_quiet_op; first | go_big_quiet_on | (apply Exists.intro; refine ⟨fun _ => ?_, ?_⟩; (focus (first | (go_at_call 20; exact Calls.regrown_of (size_ext n _ hn)) | (go_at_call 22; exact Calls.regrown_of (Begin_any c _ _ _)))); go_big_quiet_on)))
      refine wpQuiet_nil ?_
      intro w1 hw1
      clear hq
      replace hw1 := quiet_ext hw1
      replace hN := hN.step hw1
      have hC := hN.2
      go_wp2_with (go_at_call 19; refine (awake_any _).mono ?_; rintro e w1 ⟨rfl, hb⟩; replace hN := hN.step hb; have hC := hN.2)
      all_goals go_ret
      all_goals exact ⟨rfl, hB.trans hN.1⟩

set_option maxHeartbeats 4000000 in
theorem first_ok_there (c : Con) (t n k : Int) (w : World) (hn : 0 ≤ n ∧ n ≤ 65535) (hk0 : 0 ≤ k ∧ k ≤ 65535) (h0 : c.check = 0) (hok : c.Ok) (ht : -1099511627776 ≤ t ∧ t ≤ 1099511627776) (hc0 : c.st ≤ t) (hl : t ≤ c.en - c.dur (1 + n)) (e1 : c.beginE t (1 + n) = 0) (e2 : c.beginT t (1 + n) = t) :
    Calls Try.prog 6 #[c.val, .int .i64 t, .int .u16 n, .int .u16 k] w fun e w' => e = .returned (.bool true) ∧ Ext w w' := by
  have hsz : 1 ≤ 1 + n ∧ 1 + n ≤ 65536 := by omega
  have ⟨g1, g2, g3, g4, g5, g6, g7, g8, g9, g10, g11, g12, g13, g14⟩ := hok
  have e3 : c.fitsR t (1 + n) = true := by rw [Con.fits_at hok hsz]; simp; omega
  have hlate2 : ¬ c.beginE (t + k) (1 + n) = 0 → c.beginE (t + k) (1 + n) = 16 := fun h => by
    rcases Con.begin_at hok hsz (t + k) with ⟨_, h1, _⟩ | ⟨_, h1, _⟩
    · exact absurd h1 h
    · exact h1
  have hlater : c.beginE (t + k) (1 + n) = 0 → t ≤ c.beginT (t + k) (1 + n) ∧ c.beginT (t + k) (1 + n) ≤ t + k := fun h => by
    rcases Con.begin_at hok hsz (t + k) with ⟨_, _, h2⟩ | ⟨_, h1, _⟩
    · rw [h2]; unfold Con.beg; split <;> omega
    · omega
  replace hlate2 := Lib.hid hlate2
  replace hlater := Lib.hid hlater
  by_cases hf2 : c.beginE (t + k) (1 + n) = 0
  · have T2 : t ≤ c.beginT (t + k) (1 + n) ∧ c.beginT (t + k) (1 + n) ≤ t + k := hlater.out hf2
    unfold Con.val
    go_enter Try.func6, Try.ntmps6
    go_wp2_with fail
    obtain ⟨W, hW, hB, hk, hlt⟩ := box1 w c.cells 23
    simp only [Con.cells] at hW hk
    rw [hW]
    clear hW
    have hc := hk.cell
    have hN := Near.refl W
    go_wp2_with (go_at_call 17; refine (check_any c _).mono ?_; rintro e w1 ⟨rfl, hb⟩; replace hN := hN.step hb; have hC := hN.2)
    have hq := quiet_near hN
    refine wp_region_quiet_below (by kernel_rfl) (by kernel_rfl) ?_
    repeat (first | go_big_quiet_skip | (go_big_quiet_want; go_big_quiet_op; first | go_big_quiet_on | (apply Exists.intro; refine ⟨fun _ => ?_, ?_⟩; (focus (first | (go_at_call 20; exact Calls.regrown_of (size_ext n _ hn)) | (go_at_call 22; exact Calls.regrown_of (Begin_any c _ _ _)))); go_big_quiet_on)))
    refine wpQuiet_nil ?_
    intro w1 hw1
    clear hq
    replace hw1 := quiet_ext hw1
    replace hN := hN.step hw1
    have hC := hN.2
    go_wp2
    have hq := quiet_near hN
    refine wp_region_quiet_below (by kernel_rfl) (by kernel_rfl) ?_
    repeat (first | go_big_quiet_skip | (go_big_quiet_want; go_big_quiet_op; first | go_big_quiet_on | (apply Exists.intro; refine ⟨fun _ => ?_, ?_⟩; (focus (first | (go_at_call 20; exact Calls.regrown_of (size_ext n _ hn)) | (go_at_call 21; exact Calls.regrown_of (Fits_any c _ _ _)))); go_big_quiet_on)))
    refine wpQuiet_nil ?_
    intro w1 hw1
    clear hq
    replace hw1 := quiet_ext hw1
    replace hN := hN.step hw1
    have hC := hN.2
    go_wp2
    have hq := quiet_near hN
    refine wp_region_quiet_below (by kernel_rfl) (by kernel_rfl) ?_
    repeat (first | go_big_quiet_skip | (go_big_quiet_want; go_big_quiet_op; first | go_big_quiet_on | (apply Exists.intro; refine ⟨fun _ => ?_, ?_⟩; (focus (first | (go_at_call 20; exact Calls.regrown_of (size_ext n _ hn)) | (go_at_call 22; exact Calls.regrown_of (Begin_any c _ _ _)))); go_big_quiet_on)))
    refine wpQuiet_nil ?_
    intro w1 hw1
    clear hq
    replace hw1 := quiet_ext hw1
    replace hN := hN.step hw1
    have hC := hN.2
    go_wp2_with (go_at_call 19; refine (awake_any _).mono ?_; rintro e w1 ⟨rfl, hb⟩; replace hN := hN.step hb; have hC := hN.2)
    all_goals go_ret
    all_goals exact ⟨rfl, hB.trans hN.1⟩
  · have hf3 : c.beginE (t + k) (1 + n) = 16 := hlate2.out hf2
    clear hf2
    unfold Con.val
    go_enter Try.func6, Try.ntmps6
    go_wp2_with fail
    obtain ⟨W, hW, hB, hk, hlt⟩ := box1 w c.cells 23
    simp only [Con.cells] at hW hk
    rw [hW]
    clear hW
    have hc := hk.cell
    have hN := Near.refl W
    go_wp2_with (go_at_call 17; refine (check_any c _).mono ?_; rintro e w1 ⟨rfl, hb⟩; replace hN := hN.step hb; have hC := hN.2)
    have hq := quiet_near hN
    refine wp_region_quiet_below (by kernel_rfl) (by kernel_rfl) ?_
    repeat (first | go_big_quiet_skip | (go_big_quiet_want; go_big_quiet_op; first | go_big_quiet_on | (apply Exists.intro; refine ⟨fun _ => ?_, ?_⟩; (focus (first | (go_at_call 20; exact Calls.regrown_of (size_ext n _ hn)) | (go_at_call 22; exact Calls.regrown_of (Begin_any c _ _ _)))); go_big_quiet_on)))
    refine wpQuiet_nil ?_
    intro w1 hw1
    clear hq
    replace hw1 := quiet_ext hw1
    replace hN := hN.step hw1
    have hC := hN.2
    go_wp2
    have hq := quiet_near hN
    refine wp_region_quiet_below (by kernel_rfl) (by kernel_rfl) ?_
    repeat (first | go_big_quiet_skip | (go_big_quiet_want; go_big_quiet_op; first | go_big_quiet_on | (apply Exists.intro; refine ⟨fun _ => ?_, ?_⟩; (focus (first | (go_at_call 20; exact Calls.regrown_of (size_ext n _ hn)) | (go_at_call 21; exact Calls.regrown_of (Fits_any c _ _ _)))); go_big_quiet_on)))
    refine wpQuiet_nil ?_
    intro w1 hw1
    clear hq
    replace hw1 := quiet_ext hw1
    replace hN := hN.step hw1
    have hC := hN.2
    go_wp2
    have hq := quiet_near hN
    refine wp_region_quiet_below (by kernel_rfl) (by kernel_rfl) ?_
    repeat (first | go_big_quiet_skip | (go_big_quiet_want; go_big_quiet_op; first | go_big_quiet_on | (apply Exists.intro; refine ⟨fun _ => ?_, ?_⟩; (focus (first | (go_at_call 20; exact Calls.regrown_of (size_ext n _ hn)) | (go_at_call 22; exact Calls.regrown_of (Begin_any c _ _ _)))); go_big_quiet_on)))
    refine wpQuiet_nil ?_
    intro w1 hw1
    clear hq
    replace hw1 := quiet_ext hw1
    replace hN := hN.step hw1
    have hC := hN.2
    go_wp2_with (go_at_call 19; refine (awake_any _).mono ?_; rintro e w1 ⟨rfl, hb⟩; replace hN := hN.step hb; have hC := hN.2)
    all_goals go_ret
    all_goals exact ⟨rfl, hB.trans hN.1⟩

theorem first_walk (c : Con) (t n k : Int) (w : World) (hn : 0 ≤ n ∧ n ≤ 65535) (hk0 : 0 ≤ k ∧ k ≤ 65535) :
    Calls Try.prog 6 #[c.val, .int .i64 t, .int .u16 n, .int .u16 k] w fun e w' => e = .returned (.bool true) ∧ Ext w w' := by
  by_cases h0 : c.check = 0
  · by_cases ht : -1099511627776 ≤ t ∧ t ≤ 1099511627776
    · have hok := (Con.check_iff c).1 h0
      rcases Con.begin_at hok (n := 1 + n) (by omega) t with ⟨h1, h2, h3⟩ | ⟨h1, h2, h3⟩
      · by_cases hc0 : t < c.st
        · have hb0 : c.beg t = c.st := by unfold Con.beg; rw [if_pos hc0]
          rw [hb0] at h1 h3
          exact first_ok_early c t n k w hn hk0 h0 hok ht hc0 h1 h2 h3
        · have hb0 : c.beg t = t := by unfold Con.beg; rw [if_neg hc0]
          rw [hb0] at h1 h3
          exact first_ok_there c t n k w hn hk0 h0 hok ht (by omega) h1 h2 h3
      · exact first_late c t n k w hn hk0 h0 hok ht h1 h2 h3
    · exact first_bad c t n k w (.inr (by omega))
  · exact first_bad c t n k w (.inl h0)

end Go.Proofs.Ytkahnfjdngiebaa
