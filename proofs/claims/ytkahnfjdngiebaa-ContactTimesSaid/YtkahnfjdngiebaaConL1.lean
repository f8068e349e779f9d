/- Layer 21 (contact): the walks of the laws that hold the program against the reference. -/
import Derived.Test.YtkahnfjdngiebaaConAwake
namespace Go.Proofs.Ytkahnfjdngiebaa
set_option linter.unusedVariables false
open Go.RowKit

set_option maxHeartbeats 2000000 in
theorem sizes_walk (c : Con) (n : Int) (w : World) :
    Calls Try.prog 3 #[c.val, .int .i64 n] w fun e w' => e = .returned (.bool true) ∧ Ext w w' := by
  unfold Con.val
  go_enter Try.func3, Try.ntmps3
  go_wp2_with fail
  obtain ⟨W, hW, hB, hk, hlt⟩ := box1 w c.cells 23
  simp only [Con.cells] at hW hk
  rw [hW]
  clear hW
  have hc := hk.cell
  have hN := Near.refl W
  go_wp2_with (first | (go_at_call 11; refine (Pass_any c _ _).mono ?_; rintro e w1 ⟨rfl, hb⟩; replace hN := hN.step hb; have hC := hN.2) | (go_at_call 12; refine (rPass_any c _ _).mono ?_; rintro e w1 ⟨rfl, hb⟩; replace hN := hN.step hb; have hC := hN.2) | (go_at_call 13; refine (Duration_any c _ _).mono ?_; rintro e w1 ⟨rfl, hb⟩; replace hN := hN.step hb; have hC := hN.2) | (go_at_call 14; refine (rDuration_any c _ _).mono ?_; rintro e w1 ⟨rfl, hb⟩; replace hN := hN.step hb; have hC := hN.2) | (go_at_call 15; refine (Volume_any c _).mono ?_; rintro e w1 ⟨rfl, hb⟩; replace hN := hN.step hb; have hC := hN.2) | (go_at_call 16; refine (rVolume_any c _).mono ?_; rintro e w1 ⟨rfl, hb⟩; replace hN := hN.step hb; have hC := hN.2))
  have hq := quiet_near hN
  refine wp_region_quiet_below (by kernel_rfl) (by kernel_rfl) ?_
  repeat (first | go_big_quiet_skip | (go_big_quiet_want; go_big_quiet_op; first | go_big_quiet_on | (apply Exists.intro; refine ⟨fun _ => ?_, ?_⟩; (focus (first | (go_at_call 17; exact Calls.regrown_of (check_any c _)) | (go_at_call 18; exact Calls.regrown_of (rcheck_any c _)) | (go_at_call 19; exact Calls.regrown_of (awake_any _)))); go_big_quiet_on)))
  refine wpQuiet_nil ?_
  intro w1 hw1
  clear hq
  replace hw1 := quiet_ext hw1
  replace hN := hN.step hw1
  have hC := hN.2
  go_wp2
  go_ret
  exact ⟨rfl, hB.trans hN.1⟩

set_option maxHeartbeats 2000000 in
theorem times_walk (c d : Con) (t n : Int) (w : World) :
    Calls Try.prog 9 #[c.val, d.val, .int .i64 t, .int .i64 n] w fun e w' => e = .returned (.bool true) ∧ Ext w w' := by
  unfold Con.val
  go_enter Try.func9, Try.ntmps9
  go_wp2_with fail
  obtain ⟨W, hW, hB, hk, hk2, hlt, hlt2⟩ := box2 w c.cells d.cells 23 23
  simp only [Con.cells] at hW hk hk2
  rw [hW]
  clear hW
  have hc := hk.cell
  have hc2 := hk2.cell
  have hN := Near.refl W
  go_wp2_with (first | (go_at_call 22; refine (Begin_any c _ _ _).mono ?_; rintro e w1 ⟨rfl, hb⟩; replace hN := hN.step hb; have hC := hN.2) | (go_at_call 25; refine (rBegin_any c _ _ _).mono ?_; rintro e w1 ⟨rfl, hb⟩; replace hN := hN.step hb; have hC := hN.2) | (go_at_call 23; refine (Arrival_any c _ _ _).mono ?_; rintro e w1 ⟨rfl, hb⟩; replace hN := hN.step hb; have hC := hN.2) | (go_at_call 26; refine (rArrival_any c _ _ _).mono ?_; rintro e w1 ⟨rfl, hb⟩; replace hN := hN.step hb; have hC := hN.2) | (go_at_call 24; refine (Known_any c _ _ _).mono ?_; rintro e w1 ⟨rfl, hb⟩; replace hN := hN.step hb; have hC := hN.2) | (go_at_call 27; refine (rKnown_any c _ _ _).mono ?_; rintro e w1 ⟨rfl, hb⟩; replace hN := hN.step hb; have hC := hN.2))
  have hq := quiet_near hN
  refine wp_region_quiet_below (by kernel_rfl) (by kernel_rfl) ?_
  repeat (first | go_big_quiet_skip | (go_big_quiet_want; go_big_quiet_op; first | go_big_quiet_on | (apply Exists.intro; refine ⟨fun _ => ?_, ?_⟩; (focus (first | (go_at_call 21; exact Calls.regrown_of (Fits_any c _ _ _)) | (go_at_call 28; exact Calls.regrown_of (rFits_any c _ _ _)) | (go_at_call 29; exact Calls.regrown_of (Overlap_any c d _)) | (go_at_call 30; exact Calls.regrown_of (rOverlap_any c d _)) | (go_at_call 19; exact Calls.regrown_of (awake_any _)))); go_big_quiet_on)))
  refine wpQuiet_nil ?_
  intro w1 hw1
  clear hq
  replace hw1 := quiet_ext hw1
  replace hN := hN.step hw1
  have hC := hN.2
  go_wp2
  go_ret
  exact ⟨rfl, hB.trans hN.1⟩

end Go.Proofs.Ytkahnfjdngiebaa
