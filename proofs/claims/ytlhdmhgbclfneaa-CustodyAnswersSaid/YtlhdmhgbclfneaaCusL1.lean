/- Layer 44 (custody): the walk of CustodyDelays. -/
import Derived.Test.YtlhdmhgbclfneaaCusAwake
namespace Go.Proofs.Ytlhdmhgbclfneaa
set_option linter.unusedVariables false
open Go.RowKit

theorem delay_bd (t : Int) : 16 ≤ delay t ∧ delay t ≤ 1024 := by unfold delay; repeat' split
                                                                 all_goals omega
theorem delay_mono {s t : Int} (h : s ≤ t) : delay s ≤ delay t := by
  unfold delay
  repeat' split
  all_goals omega
theorem delay_succ (t : Int) : delay (t + 1) ≤ 2 * delay t := by
  unfold delay
  repeat' split
  all_goals omega

set_option maxRecDepth 100000 in
set_option maxHeartbeats 2000000 in
theorem delays_walk (a b : Int) (w : World) (ha : -9223372036854775808 ≤ a ∧ a ≤ 9223372036854775807) (hb : -9223372036854775808 ≤ b ∧ b ≤ 9223372036854775807) :
    Calls Try.prog 5 #[.int .i64 a, .int .i64 b] w fun e w' => e = .returned (.bool true) ∧ Ext w w' := by
  have hs := delay_succ a
  have d1 := delay_bd a
  have d2 := delay_bd b
  have d3 := delay_bd (a + 1)
  obtain ⟨ha1, ha2⟩ := ha
  obtain ⟨hb1, hb2⟩ := hb
  obtain ⟨d11, d12⟩ := d1
  obtain ⟨d21, d22⟩ := d2
  obtain ⟨d31, d32⟩ := d3
  have hN := Near.refl w
  by_cases hab : a ≤ b
  · have hm := delay_mono hab
    by_cases ham : a = 9223372036854775807
    · have h9 : (a == 9223372036854775807) = true := by simpa using ham
      have H9 := Lib.hid ham
      clear ham
      go_enter Try.func5, Try.ntmps5
      go_wp2_with (first | (go_at_call 17; refine (delay_any _ _).mono ?_; rintro e w1 ⟨rfl, hb⟩; replace hN := hN.step hb; have hC := hN.2) | (go_at_call 10; refine (awake_any _).mono ?_; rintro e w1 ⟨rfl, hb⟩; replace hN := hN.step hb; have hC := hN.2))
      all_goals go_ret
      all_goals exact ⟨rfl, hN.1⟩
    · have h9 : (a == 9223372036854775807) = false := by simpa using ham
      have h8 : a + 1 ≤ 9223372036854775807 := by omega
      have H9 := Lib.hid ham
      clear ham
      go_enter Try.func5, Try.ntmps5
      go_wp2_with (first | (go_at_call 17; refine (delay_any _ _).mono ?_; rintro e w1 ⟨rfl, hb⟩; replace hN := hN.step hb; have hC := hN.2) | (go_at_call 10; refine (awake_any _).mono ?_; rintro e w1 ⟨rfl, hb⟩; replace hN := hN.step hb; have hC := hN.2))
      all_goals go_ret
      all_goals exact ⟨rfl, hN.1⟩
  · have hm := delay_mono (show b ≤ a by omega)
    by_cases ham : a = 9223372036854775807
    · have h9 : (a == 9223372036854775807) = true := by simpa using ham
      have H9 := Lib.hid ham
      clear ham
      go_enter Try.func5, Try.ntmps5
      go_wp2_with (first | (go_at_call 17; refine (delay_any _ _).mono ?_; rintro e w1 ⟨rfl, hb⟩; replace hN := hN.step hb; have hC := hN.2) | (go_at_call 10; refine (awake_any _).mono ?_; rintro e w1 ⟨rfl, hb⟩; replace hN := hN.step hb; have hC := hN.2))
      all_goals go_ret
      all_goals exact ⟨rfl, hN.1⟩
    · have h9 : (a == 9223372036854775807) = false := by simpa using ham
      have h8 : a + 1 ≤ 9223372036854775807 := by omega
      have H9 := Lib.hid ham
      clear ham
      go_enter Try.func5, Try.ntmps5
      go_wp2_with (first | (go_at_call 17; refine (delay_any _ _).mono ?_; rintro e w1 ⟨rfl, hb⟩; replace hN := hN.step hb; have hC := hN.2) | (go_at_call 10; refine (awake_any _).mono ?_; rintro e w1 ⟨rfl, hb⟩; replace hN := hN.step hb; have hC := hN.2))
      all_goals go_ret
      all_goals exact ⟨rfl, hN.1⟩

end Go.Proofs.Ytlhdmhgbclfneaa
