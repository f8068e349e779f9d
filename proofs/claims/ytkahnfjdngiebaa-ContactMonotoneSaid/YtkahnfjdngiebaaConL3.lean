/- Layer 21 (contact): the walks of the laws that stand without the reference, second part. -/
import Derived.Test.YtkahnfjdngiebaaConL2
namespace Go.Proofs.Ytkahnfjdngiebaa
set_option linter.unusedVariables false
open Go.RowKit

theorem Con.fits_at {c : Con} {n : Int} (h : c.Ok) (hn : 1 ≤ n ∧ n ≤ 65536) (b : Int) : c.fitsR b n = decide (c.st ≤ b ∧ b ≤ c.en - c.dur n) := by
  have : c.arg n = 0 := Con.arg_ok.2 ⟨h, hn⟩
  simp [Con.fitsR, Con.fitsB, this]

theorem volume_bad (c : Con) (n : Int) (w : World) (hn : 0 ≤ n ∧ n ≤ 65535) (h0 : ¬ c.check = 0) :
    Calls Try.prog 5 #[c.val, .int .u16 n] w fun e w' => e = .returned (.bool true) ∧ Ext w w' := by
  unfold Con.val
  go_enter Try.func5, Try.ntmps5
  go_wp2_with fail
  obtain ⟨W, hW, hB, hk, hlt⟩ := box1 w c.cells 23
  simp only [Con.cells] at hW hk
  rw [hW]
  clear hW
  have hc := hk.cell
  have hN := Near.refl W
  go_wp2_with (first | (go_at_call 17; refine (check_any c _).mono ?_; rintro e w1 ⟨rfl, hb⟩; replace hN := hN.step hb; have hC := hN.2) | (go_at_call 19; refine (awake_any _).mono ?_; rintro e w1 ⟨rfl, hb⟩; replace hN := hN.step hb; have hC := hN.2))
  go_ret
  exact ⟨rfl, hB.trans hN.1⟩

set_option maxHeartbeats 2000000 in
theorem volume_none (c : Con) (n : Int) (w : World) (hn : 0 ≤ n ∧ n ≤ 65535) (h0 : c.check = 0) (hok : c.Ok) (hz : c.volume = 0) :
    Calls Try.prog 5 #[c.val, .int .u16 n] w fun e w' => e = .returned (.bool true) ∧ Ext w w' := by
  have e1 : c.volT = 0 := by simp [Con.volT, h0, hz]
  have e2 : c.volE = 15 := by simp [Con.volE, h0, hz]
  have e3 : c.fitsR c.st 1 = false := by rw [Con.vol_fits hok 1 (by omega)]; simp; omega
  have e4 : c.fitsR c.st (1 + n) = false := by rw [Con.vol_fits hok (1 + n) (by omega)]; simp; omega
  clear hz
  unfold Con.val
  go_enter Try.func5, Try.ntmps5
  go_wp2_with fail
  obtain ⟨W, hW, hB, hk, hlt⟩ := box1 w c.cells 23
  simp only [Con.cells] at hW hk
  rw [hW]
  clear hW
  have hc := hk.cell
  have hN := Near.refl W
  go_wp2_with (first | (go_at_call 17; refine (check_any c _).mono ?_; rintro e w1 ⟨rfl, hb⟩; replace hN := hN.step hb; have hC := hN.2) | (go_at_call 15; refine (Volume_any c _).mono ?_; rintro e w1 ⟨rfl, hb⟩; replace hN := hN.step hb; have hC := hN.2))
  have hq := quiet_near hN
  refine wp_region_quiet_below (by kernel_rfl) (by kernel_rfl) ?_
  repeat (first | go_big_quiet_skip | (go_big_quiet_want; go_big_quiet_op; first | go_big_quiet_on | (apply Exists.intro; refine ⟨fun _ => ?_, ?_⟩; (focus (first | (go_at_call 20; exact Calls.regrown_of (size_ext n _ hn)) | (go_at_call 21; exact Calls.regrown_of (Fits_any c _ _ _)) | (go_at_call 19; exact Calls.regrown_of (awake_any _)))); go_big_quiet_on)))
  refine wpQuiet_nil ?_
  intro w1 hw1
  clear hq
  replace hw1 := quiet_ext hw1
  replace hN := hN.step hw1
  have hC := hN.2
  go_wp2
  go_ret
  exact ⟨rfl, hB.trans hN.1⟩

set_option maxHeartbeats 4000000 in
theorem volume_some (c : Con) (n : Int) (w : World) (hn : 0 ≤ n ∧ n ≤ 65535) (h0 : c.check = 0) (hok : c.Ok) (hz : ¬ c.volume = 0) :
    Calls Try.prog 5 #[c.val, .int .u16 n] w fun e w' => e = .returned (.bool true) ∧ Ext w w' := by
  have v0 := (Con.volume_is c).lo
  have v1 := (Con.volume_is c).hi
  have v2 : 1 ≤ c.volume := by omega
  have e1 : c.volT = c.volume := by simp [Con.volT, h0]
  have e2 : c.volE = 0 := by simp [Con.volE, h0, hz]
  have e3 : c.fitsR c.st c.volume = true := by rw [Con.vol_fits hok _ (by omega)]; simp
  have e4 : c.volume < 65536 → c.fitsR c.st (c.volume + 1) = false := fun h => by rw [Con.vol_fits hok _ (by omega)]; simp; omega
  have e5 : c.fitsR c.st (1 + n) = decide (1 + n ≤ c.volume) := Con.vol_fits hok (1 + n) (by omega)
  by_cases hm : c.volume < 65536
  · have e6 := e4 hm
    by_cases hle : 1 + n ≤ c.volume
    · have e7 : c.fitsR c.st (1 + n) = true := by rw [e5]; simpa using hle
      clear e5 e4
      unfold Con.val
      go_enter Try.func5, Try.ntmps5
      go_wp2_with fail
      obtain ⟨W, hW, hB, hk, hlt⟩ := box1 w c.cells 23
      simp only [Con.cells] at hW hk
      rw [hW]
      clear hW
      have hc := hk.cell
      have hN := Near.refl W
      go_wp2_with (first | (go_at_call 17; refine (check_any c _).mono ?_; rintro e w1 ⟨rfl, hb⟩; replace hN := hN.step hb; have hC := hN.2) | (go_at_call 15; refine (Volume_any c _).mono ?_; rintro e w1 ⟨rfl, hb⟩; replace hN := hN.step hb; have hC := hN.2) | (go_at_call 21; refine (Fits_any c _ _ _).mono ?_; rintro e w1 ⟨rfl, hb⟩; replace hN := hN.step hb; have hC := hN.2))
      have hq := quiet_near hN
      refine wp_region_quiet_below (by kernel_rfl) (by kernel_rfl) ?_
      repeat (first | go_big_quiet_skip | (go_big_quiet_want; go_big_quiet_op; first | go_big_quiet_on | (apply Exists.intro; refine ⟨fun _ => ?_, ?_⟩; (focus (first | (go_at_call 20; exact Calls.regrown_of (size_ext n _ hn)) | (go_at_call 21; exact Calls.regrown_of (Fits_any c _ _ _)) | (go_at_call 19; exact Calls.regrown_of (awake_any _)))); go_big_quiet_on)))
      refine wpQuiet_nil ?_
      intro w1 hw1
      clear hq
      replace hw1 := quiet_ext hw1
      replace hN := hN.step hw1
      have hC := hN.2
      go_wp2
      go_ret
      exact ⟨rfl, hB.trans hN.1⟩
    · have e7 : c.fitsR c.st (1 + n) = false := by rw [e5]; simpa using hle
      have hle2 : decide (1 + n ≤ c.volume) = false := by simpa using hle
      clear e5 e4
      unfold Con.val
      go_enter Try.func5, Try.ntmps5
      go_wp2_with fail
      obtain ⟨W, hW, hB, hk, hlt⟩ := box1 w c.cells 23
      simp only [Con.cells] at hW hk
      rw [hW]
      clear hW
      have hc := hk.cell
      have hN := Near.refl W
      go_wp2_with (first | (go_at_call 17; refine (check_any c _).mono ?_; rintro e w1 ⟨rfl, hb⟩; replace hN := hN.step hb; have hC := hN.2) | (go_at_call 15; refine (Volume_any c _).mono ?_; rintro e w1 ⟨rfl, hb⟩; replace hN := hN.step hb; have hC := hN.2) | (go_at_call 21; refine (Fits_any c _ _ _).mono ?_; rintro e w1 ⟨rfl, hb⟩; replace hN := hN.step hb; have hC := hN.2))
      have hq := quiet_near hN
      refine wp_region_quiet_below (by kernel_rfl) (by kernel_rfl) ?_
      repeat (first | go_big_quiet_skip | (go_big_quiet_want; go_big_quiet_op; first | go_big_quiet_on | (apply Exists.intro; refine ⟨fun _ => ?_, ?_⟩; (focus (first | (go_at_call 20; exact Calls.regrown_of (size_ext n _ hn)) | (go_at_call 21; exact Calls.regrown_of (Fits_any c _ _ _)) | (go_at_call 19; exact Calls.regrown_of (awake_any _)))); go_big_quiet_on)))
      refine wpQuiet_nil ?_
      intro w1 hw1
      clear hq
      replace hw1 := quiet_ext hw1
      replace hN := hN.step hw1
      have hC := hN.2
      go_wp2
      go_ret
      exact ⟨rfl, hB.trans hN.1⟩
  · have hle : 1 + n ≤ c.volume := by omega
    have e7 : c.fitsR c.st (1 + n) = true := by rw [e5]; simpa using hle
    clear e5 e4
    unfold Con.val
    go_enter Try.func5, Try.ntmps5
    go_wp2_with fail
    obtain ⟨W, hW, hB, hk, hlt⟩ := box1 w c.cells 23
    simp only [Con.cells] at hW hk
    rw [hW]
    clear hW
    have hc := hk.cell
    have hN := Near.refl W
    go_wp2_with (first | (go_at_call 17; refine (check_any c _).mono ?_; rintro e w1 ⟨rfl, hb⟩; replace hN := hN.step hb; have hC := hN.2) | (go_at_call 15; refine (Volume_any c _).mono ?_; rintro e w1 ⟨rfl, hb⟩; replace hN := hN.step hb; have hC := hN.2) | (go_at_call 21; refine (Fits_any c _ _ _).mono ?_; rintro e w1 ⟨rfl, hb⟩; replace hN := hN.step hb; have hC := hN.2))
    have hq := quiet_near hN
    refine wp_region_quiet_below (by kernel_rfl) (by kernel_rfl) ?_
    repeat (first | go_big_quiet_skip | (go_big_quiet_want; go_big_quiet_op; first | go_big_quiet_on | (apply Exists.intro; refine ⟨fun _ => ?_, ?_⟩; (focus (first | (go_at_call 20; exact Calls.regrown_of (size_ext n _ hn)) | (go_at_call 21; exact Calls.regrown_of (Fits_any c _ _ _)) | (go_at_call 19; exact Calls.regrown_of (awake_any _)))); go_big_quiet_on)))
    refine wpQuiet_nil ?_
    intro w1 hw1
    clear hq
    replace hw1 := quiet_ext hw1
    replace hN := hN.step hw1
    have hC := hN.2
    go_wp2
    go_ret
    exact ⟨rfl, hB.trans hN.1⟩

theorem volume_walk (c : Con) (n : Int) (w : World) (hn : 0 ≤ n ∧ n ≤ 65535) :
    Calls Try.prog 5 #[c.val, .int .u16 n] w fun e w' => e = .returned (.bool true) ∧ Ext w w' := by
  by_cases h0 : c.check = 0
  · have hok := (Con.check_iff c).1 h0
    by_cases hz : c.volume = 0
    · exact volume_none c n w hn h0 hok hz
    · exact volume_some c n w hn h0 hok hz
  · exact volume_bad c n w hn h0

end Go.Proofs.Ytkahnfjdngiebaa
