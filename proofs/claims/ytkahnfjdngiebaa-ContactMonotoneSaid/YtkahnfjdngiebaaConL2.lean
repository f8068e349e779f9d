/- Layer 21 (contact): the walks of the laws that stand without the reference, first part. -/
import Derived.Test.YtkahnfjdngiebaaConAwake
import Derived.Test.YtkahnfjdngiebaaConMath
namespace Go.Proofs.Ytkahnfjdngiebaa
open Go.RowKit

theorem size_ext (n : Int) (w : World) (h : 0 ≤ n ∧ n ≤ 65535) :
    Calls Try.prog 20 #[.int .u16 n] w fun e w' => e = .returned (.int .i64 (1 + n)) ∧ Ext w w' :=
  (size_any n w h).mono fun _ _ ⟨he, hw⟩ => ⟨he, hw ▸ Ext.refl _⟩

/-- A contact that is not valid: each of these laws asks for awake alone. -/
theorem Con.bad {c : Con} (h : ¬ c.check = 0) : ¬ c.Ok := fun g => h ((Con.check_iff c).2 g)

set_option maxHeartbeats 2000000 in
theorem arrivals_walk (c : Con) (b n : Int) (w : World) (hn : 0 ≤ n ∧ n ≤ 65535) :
    Calls Try.prog 8 #[c.val, .int .i64 b, .int .u16 n] w fun e w' => e = .returned (.bool true) ∧ Ext w w' := by
  by_cases h0 : c.check = 0
  · have hok := (Con.check_iff c).1 h0
    have ⟨h1, h2, h3, h4, h5, h6, h7, h8, h9, h10, h11, h12, h13, h14⟩ := hok
    have hsz : 1 ≤ 1 + n ∧ 1 + n ≤ 65536 := by omega
    have harg : c.arg (1 + n) = 0 := Con.arg_ok.2 ⟨hok, hsz⟩
    have d := Con.dur_bd hok hsz.1 hsz.2
    by_cases hfit : c.st ≤ b ∧ b ≤ c.en - c.dur (1 + n)
    · have e1 : c.atE b (1 + n) = 0 := Con.at_ok.2 ⟨hok, hsz, hfit⟩
      have e2 : c.fitsR b (1 + n) = true := by simp [Con.fitsR, harg, Con.fitsB, hfit]
      have a1 : c.arrT b (1 + n) = b + c.dur (1 + n) + c.rng := by simp [Con.arrT, Con.aftT, e1]
      have k1 : c.knownT b (1 + n) = b + c.dur (1 + n) + 2 * c.rng := by simp [Con.knownT, Con.aftT, e1]
      have g1 : b + c.rng < c.arrT b (1 + n) := by omega
      have g2 : c.arrT b (1 + n) ≤ c.en + c.rng := by omega
      have g3 : (c.knownT b (1 + n) == c.arrT b (1 + n) + c.rng) = true := by rw [beq_iff_eq]; omega
      have g4 : c.knownT b (1 + n) ≤ 1099511627776 := by omega
      clear a1 k1 harg
      unfold Con.val
      go_enter Try.func8, Try.ntmps8
      go_wp2_with fail
      obtain ⟨W, hW, hB, hk, hlt⟩ := box1 w c.cells 23
      simp only [Con.cells] at hW hk
      rw [hW]
      clear hW
      have hc := hk.cell
      have hN := Near.refl W
      go_wp2_with (first | (go_at_call 17; refine (check_any c _).mono ?_; rintro e w1 ⟨rfl, hb⟩; replace hN := hN.step hb; have hC := hN.2))
      have hq := quiet_near hN
      refine wp_region_quiet_below (by kernel_rfl) (by kernel_rfl) ?_
      repeat (first | go_big_quiet_skip | (go_big_quiet_want; go_big_quiet_op; first | go_big_quiet_on | (apply Exists.intro; refine ⟨fun _ => ?_, ?_⟩; (focus (first | (go_at_call 20; exact Calls.regrown_of (size_ext n _ hn)) | (go_at_call 23; exact Calls.regrown_of (Arrival_any c _ _ _)))); go_big_quiet_on)))
      refine wpQuiet_nil ?_
      intro w1 hw1
      clear hq
      replace hw1 := quiet_ext hw1
      replace hN := hN.step hw1
      have hC := hN.2
      go_wp2
      have hq := quiet_near hN
      refine wp_region_quiet_below (by kernel_rfl) (by kernel_rfl) ?_
      repeat (first | go_big_quiet_skip | (go_big_quiet_want; go_big_quiet_op; first | go_big_quiet_on | (apply Exists.intro; refine ⟨fun _ => ?_, ?_⟩; (focus (first | (go_at_call 20; exact Calls.regrown_of (size_ext n _ hn)) | (go_at_call 24; exact Calls.regrown_of (Known_any c _ _ _)))); go_big_quiet_on)))
      refine wpQuiet_nil ?_
      intro w1 hw1
      clear hq
      replace hw1 := quiet_ext hw1
      replace hN := hN.step hw1
      have hC := hN.2
      go_wp2
      have hq := quiet_near hN
      refine wp_region_quiet_below (by kernel_rfl) (by kernel_rfl) ?_
      repeat (first | go_big_quiet_skip | (go_big_quiet_want; go_big_quiet_op; first | go_big_quiet_on | (apply Exists.intro; refine ⟨fun _ => ?_, ?_⟩; (focus (first | (go_at_call 20; exact Calls.regrown_of (size_ext n _ hn)) | (go_at_call 21; exact Calls.regrown_of (Fits_any c _ _ _)))); go_big_quiet_on)))
      refine wpQuiet_nil ?_
      intro w1 hw1
      clear hq
      replace hw1 := quiet_ext hw1
      replace hN := hN.step hw1
      have hC := hN.2
      go_wp2_with (go_at_call 19; refine (awake_any _).mono ?_; rintro e w1 ⟨rfl, hb⟩; replace hN := hN.step hb; have hC := hN.2)
      go_ret
      exact ⟨rfl, hB.trans hN.1⟩
    · have hf : c.fitsB b (1 + n) = false := by simpa [Con.fitsB] using hfit
      have e1 : c.atE b (1 + n) = 16 := by simp [Con.atE, harg, hf]
      have e2 : c.fitsR b (1 + n) = false := by simp [Con.fitsR, harg, hf]
      have a1 : c.arrT b (1 + n) = 0 := by simp [Con.arrT, Con.aftT, e1]
      have k1 : c.knownT b (1 + n) = 0 := by simp [Con.knownT, Con.aftT, e1]
      clear harg hf
      unfold Con.val
      go_enter Try.func8, Try.ntmps8
      go_wp2_with fail
      obtain ⟨W, hW, hB, hk, hlt⟩ := box1 w c.cells 23
      simp only [Con.cells] at hW hk
      rw [hW]
      clear hW
      have hc := hk.cell
      have hN := Near.refl W
      go_wp2_with (first | (go_at_call 17; refine (check_any c _).mono ?_; rintro e w1 ⟨rfl, hb⟩; replace hN := hN.step hb; have hC := hN.2))
      have hq := quiet_near hN
      refine wp_region_quiet_below (by kernel_rfl) (by kernel_rfl) ?_
      repeat (first | go_big_quiet_skip | (go_big_quiet_want; go_big_quiet_op; first | go_big_quiet_on | (apply Exists.intro; refine ⟨fun _ => ?_, ?_⟩; (focus (first | (go_at_call 20; exact Calls.regrown_of (size_ext n _ hn)) | (go_at_call 23; exact Calls.regrown_of (Arrival_any c _ _ _)))); go_big_quiet_on)))
      refine wpQuiet_nil ?_
      intro w1 hw1
      clear hq
      replace hw1 := quiet_ext hw1
      replace hN := hN.step hw1
      have hC := hN.2
      go_wp2
      have hq := quiet_near hN
      refine wp_region_quiet_below (by kernel_rfl) (by kernel_rfl) ?_
      repeat (first | go_big_quiet_skip | (go_big_quiet_want; go_big_quiet_op; first | go_big_quiet_on | (apply Exists.intro; refine ⟨fun _ => ?_, ?_⟩; (focus (first | (go_at_call 20; exact Calls.regrown_of (size_ext n _ hn)) | (go_at_call 24; exact Calls.regrown_of (Known_any c _ _ _)))); go_big_quiet_on)))
      refine wpQuiet_nil ?_
      intro w1 hw1
      clear hq
      replace hw1 := quiet_ext hw1
      replace hN := hN.step hw1
      have hC := hN.2
      go_wp2
      have hq := quiet_near hN
      refine wp_region_quiet_below (by kernel_rfl) (by kernel_rfl) ?_
      repeat (first | go_big_quiet_skip | (go_big_quiet_want; go_big_quiet_op; first | go_big_quiet_on | (apply Exists.intro; refine ⟨fun _ => ?_, ?_⟩; (focus (first | (go_at_call 20; exact Calls.regrown_of (size_ext n _ hn)) | (go_at_call 21; exact Calls.regrown_of (Fits_any c _ _ _)))); go_big_quiet_on)))
      refine wpQuiet_nil ?_
      intro w1 hw1
      clear hq
      replace hw1 := quiet_ext hw1
      replace hN := hN.step hw1
      have hC := hN.2
      go_wp2_with (go_at_call 19; refine (awake_any _).mono ?_; rintro e w1 ⟨rfl, hb⟩; replace hN := hN.step hb; have hC := hN.2)
      go_ret
      exact ⟨rfl, hB.trans hN.1⟩
  · unfold Con.val
    go_enter Try.func8, Try.ntmps8
    go_wp2_with fail
    obtain ⟨W, hW, hB, hk, hlt⟩ := box1 w c.cells 23
    simp only [Con.cells] at hW hk
    rw [hW]
    clear hW
    have hc := hk.cell
    have hN := Near.refl W
    go_wp2_with (first | (go_at_call 17; refine (check_any c _).mono ?_; rintro e w1 ⟨rfl, hb⟩; replace hN := hN.step hb; have hC := hN.2) | (go_at_call 19; refine (awake_any _).mono ?_; rintro e w1 ⟨rfl, hb⟩; replace hN := hN.step hb; have hC := hN.2))
    go_ret
    exact ⟨rfl, hB.trans hN.1⟩

set_option maxHeartbeats 2000000 in
theorem parts_walk (c : Con) (a b : Int) (w : World) (ha : 0 ≤ a ∧ a ≤ 65535) (hb0 : 0 ≤ b ∧ b ≤ 65535) :
    Calls Try.prog 7 #[c.val, .int .u16 a, .int .u16 b] w fun e w' => e = .returned (.bool true) ∧ Ext w w' := by
  by_cases h0 : c.check = 0
  · have hok := (Con.check_iff c).1 h0
    have hx : 1 ≤ 1 + a % 30000 ∧ 1 + a % 30000 ≤ 65536 := by omega
    have hy : 1 ≤ 1 + b % 30000 ∧ 1 + b % 30000 ≤ 65536 := by omega
    have hxy : 1 ≤ 1 + a % 30000 + (1 + b % 30000) ∧ 1 + a % 30000 + (1 + b % 30000) ≤ 65536 := by omega
    have d1 := Con.dur_bd hok hx.1 hx.2
    have d2 := Con.dur_bd hok hy.1 hy.2
    have d3 := Con.dur_bd hok hxy.1 hxy.2
    have two := Con.dur_two hok hx.1 hy.1
    have hl := hok.loss0
    have e1 : c.arg (1 + a % 30000) = 0 := Con.arg_ok.2 ⟨hok, hx⟩
    have e2 : c.arg (1 + b % 30000) = 0 := Con.arg_ok.2 ⟨hok, hy⟩
    have e3 : c.arg (1 + a % 30000 + (1 + b % 30000)) = 0 := Con.arg_ok.2 ⟨hok, hxy⟩
    have q1 : c.durR (1 + a % 30000) = c.dur (1 + a % 30000) := by simp [Con.durR, e1]
    have q2 : c.durR (1 + b % 30000) = c.dur (1 + b % 30000) := by simp [Con.durR, e2]
    have q3 : c.durR (1 + a % 30000 + (1 + b % 30000)) = c.dur (1 + a % 30000 + (1 + b % 30000)) := by simp [Con.durR, e3]
    by_cases hm : 0 < (1 + a % 30000) % 16
    · clear e1 e2 e3
      have f1 : c.arg (1 + a % 30000) = 0 := Con.arg_ok.2 ⟨hok, hx⟩
      have f2 : c.arg (1 + b % 30000) = 0 := Con.arg_ok.2 ⟨hok, hy⟩
      have f3 : c.arg (1 + a % 30000 + (1 + b % 30000)) = 0 := Con.arg_ok.2 ⟨hok, hxy⟩
      unfold Con.val
      go_enter Try.func7, Try.ntmps7
      go_wp2_with fail
      obtain ⟨W, hW, hB, hk, hlt⟩ := box1 w c.cells 23
      simp only [Con.cells] at hW hk
      rw [hW]
      clear hW
      have hc := hk.cell
      have hN := Near.refl W
      go_wp2_with (first | (go_at_call 20; refine (size_ext _ _ (by omega)).mono ?_; rintro e w1 ⟨rfl, hb⟩; replace hN := hN.step hb; have hC := hN.2) | (go_at_call 17; refine (check_any c _).mono ?_; rintro e w1 ⟨rfl, hb⟩; replace hN := hN.step hb; have hC := hN.2) | (go_at_call 13; refine (Duration_any c _ _).mono ?_; rintro e w1 ⟨rfl, hb⟩; replace hN := hN.step hb; have hC := hN.2) | (go_at_call 19; refine (awake_any _).mono ?_; rintro e w1 ⟨rfl, hb⟩; replace hN := hN.step hb; have hC := hN.2))
      all_goals go_ret
      all_goals exact ⟨rfl, hB.trans hN.1⟩
    · have hwhole := Con.dur_whole (c := c) (x := 1 + a % 30000) (y := 1 + b % 30000) hok (by omega)
      by_cases hl0 : 0 < c.loss
      · unfold Con.val
        go_enter Try.func7, Try.ntmps7
        go_wp2_with fail
        obtain ⟨W, hW, hB, hk, hlt⟩ := box1 w c.cells 23
        simp only [Con.cells] at hW hk
        rw [hW]
        clear hW
        have hc := hk.cell
        have hN := Near.refl W
        go_wp2_with (first | (go_at_call 20; refine (size_ext _ _ (by omega)).mono ?_; rintro e w1 ⟨rfl, hb⟩; replace hN := hN.step hb; have hC := hN.2) | (go_at_call 17; refine (check_any c _).mono ?_; rintro e w1 ⟨rfl, hb⟩; replace hN := hN.step hb; have hC := hN.2) | (go_at_call 13; refine (Duration_any c _ _).mono ?_; rintro e w1 ⟨rfl, hb⟩; replace hN := hN.step hb; have hC := hN.2) | (go_at_call 19; refine (awake_any _).mono ?_; rintro e w1 ⟨rfl, hb⟩; replace hN := hN.step hb; have hC := hN.2))
        all_goals go_ret
        all_goals exact ⟨rfl, hB.trans hN.1⟩
      · have hz : c.loss = 0 := by omega
        have heq := Con.dur_lossless (c := c) (x := 1 + a % 30000) (y := 1 + b % 30000) hz (by omega)
        have hb2 : (c.dur (1 + a % 30000 + (1 + b % 30000)) == c.dur (1 + a % 30000) + c.dur (1 + b % 30000)) = true := by rw [beq_iff_eq]; exact heq
        clear heq hz
        unfold Con.val
        go_enter Try.func7, Try.ntmps7
        go_wp2_with fail
        obtain ⟨W, hW, hB, hk, hlt⟩ := box1 w c.cells 23
        simp only [Con.cells] at hW hk
        rw [hW]
        clear hW
        have hc := hk.cell
        have hN := Near.refl W
        go_wp2_with (first | (go_at_call 20; refine (size_ext _ _ (by omega)).mono ?_; rintro e w1 ⟨rfl, hb⟩; replace hN := hN.step hb; have hC := hN.2) | (go_at_call 17; refine (check_any c _).mono ?_; rintro e w1 ⟨rfl, hb⟩; replace hN := hN.step hb; have hC := hN.2) | (go_at_call 13; refine (Duration_any c _ _).mono ?_; rintro e w1 ⟨rfl, hb⟩; replace hN := hN.step hb; have hC := hN.2) | (go_at_call 19; refine (awake_any _).mono ?_; rintro e w1 ⟨rfl, hb⟩; replace hN := hN.step hb; have hC := hN.2))
        all_goals go_ret
        all_goals exact ⟨rfl, hB.trans hN.1⟩
  · unfold Con.val
    go_enter Try.func7, Try.ntmps7
    go_wp2_with fail
    obtain ⟨W, hW, hB, hk, hlt⟩ := box1 w c.cells 23
    simp only [Con.cells] at hW hk
    rw [hW]
    clear hW
    have hc := hk.cell
    have hN := Near.refl W
    go_wp2_with (first | (go_at_call 20; refine (size_ext _ _ (by omega)).mono ?_; rintro e w1 ⟨rfl, hb⟩; replace hN := hN.step hb; have hC := hN.2) | (go_at_call 17; refine (check_any c _).mono ?_; rintro e w1 ⟨rfl, hb⟩; replace hN := hN.step hb; have hC := hN.2) | (go_at_call 19; refine (awake_any _).mono ?_; rintro e w1 ⟨rfl, hb⟩; replace hN := hN.step hb; have hC := hN.2))
    go_ret
    exact ⟨rfl, hB.trans hN.1⟩

end Go.Proofs.Ytkahnfjdngiebaa
