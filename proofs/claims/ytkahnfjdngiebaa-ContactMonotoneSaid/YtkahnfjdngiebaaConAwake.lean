/- Layer 21 (contact): the chapter's example. -/
import Derived.Test.YtkahnfjdngiebaaConW3
namespace Go.Proofs.Ytkahnfjdngiebaa
open Go.RowKit

def exC : Con := ⟨0, 1, 10, 60, 4, 5, 1⟩
theorem exC_val : exC.val = .agg #[.int .i64 0, .int .i64 1, .int .i64 10, .int .i64 60, .int .i64 4, .int .i64 5, .int .i64 1] := rfl

theorem Pass_ex (w : World) : Calls Try.prog 11 #[.agg #[.int .i64 0, .int .i64 1, .int .i64 10, .int .i64 60, .int .i64 4, .int .i64 5, .int .i64 1], .int .i64 20] w fun e w' => e = .returned (.tuple #[.int .i64 9, .int .i64 0]) ∧ Ext w w' := by
  have h := Pass_any exC 20 w
  rw [show exC.passR 20 = 9 by decide +kernel, show exC.arg 20 = 0 by decide +kernel] at h
  exact h
theorem Duration_ex (w : World) : Calls Try.prog 13 #[.agg #[.int .i64 0, .int .i64 1, .int .i64 10, .int .i64 60, .int .i64 4, .int .i64 5, .int .i64 1], .int .i64 20] w fun e w' => e = .returned (.tuple #[.int .i64 26, .int .i64 0]) ∧ Ext w w' := by
  have h := Duration_any exC 20 w
  rw [show exC.durR 20 = 26 by decide +kernel, show exC.arg 20 = 0 by decide +kernel] at h
  exact h
theorem Begin_ex (w : World) : Calls Try.prog 22 #[.agg #[.int .i64 0, .int .i64 1, .int .i64 10, .int .i64 60, .int .i64 4, .int .i64 5, .int .i64 1], .int .i64 20, .int .i64 20] w fun e w' => e = .returned (.tuple #[.int .i64 20, .int .i64 0]) ∧ Ext w w' := by
  have h := Begin_any exC 20 20 w
  rw [show exC.beginT 20 20 = 20 by decide +kernel, show exC.beginE 20 20 = 0 by decide +kernel] at h
  exact h
theorem Arrival_ex (w : World) : Calls Try.prog 23 #[.agg #[.int .i64 0, .int .i64 1, .int .i64 10, .int .i64 60, .int .i64 4, .int .i64 5, .int .i64 1], .int .i64 20, .int .i64 20] w fun e w' => e = .returned (.tuple #[.int .i64 51, .int .i64 0]) ∧ Ext w w' := by
  have h := Arrival_any exC 20 20 w
  rw [show exC.arrT 20 20 = 51 by decide +kernel, show exC.atE 20 20 = 0 by decide +kernel] at h
  exact h
theorem Known_ex (w : World) : Calls Try.prog 24 #[.agg #[.int .i64 0, .int .i64 1, .int .i64 10, .int .i64 60, .int .i64 4, .int .i64 5, .int .i64 1], .int .i64 20, .int .i64 20] w fun e w' => e = .returned (.tuple #[.int .i64 56, .int .i64 0]) ∧ Ext w w' := by
  have h := Known_any exC 20 20 w
  rw [show exC.knownT 20 20 = 56 by decide +kernel, show exC.atE 20 20 = 0 by decide +kernel] at h
  exact h
theorem Volume_ex (w : World) : Calls Try.prog 15 #[.agg #[.int .i64 0, .int .i64 1, .int .i64 10, .int .i64 60, .int .i64 4, .int .i64 5, .int .i64 1]] w fun e w' => e = .returned (.tuple #[.int .i64 84, .int .i64 0]) ∧ Ext w w' := by
  have h := Volume_any exC w
  rw [show exC.volT = 84 by decide +kernel, show exC.volE = 0 by decide +kernel] at h
  exact h
theorem Fits_ex (b : Int) (w : World) : Calls Try.prog 21 #[.agg #[.int .i64 0, .int .i64 1, .int .i64 10, .int .i64 60, .int .i64 4, .int .i64 5, .int .i64 1], .int .i64 b, .int .i64 20] w fun e w' => e = .returned (.bool (exC.fitsR b 20)) ∧ Ext w w' :=
  Fits_any exC b 20 w

set_option maxHeartbeats 2000000 in
theorem awake_any (w : World) :
    Calls Try.prog 19 #[] w fun e w' => e = .returned (.bool true) ∧ Ext w w' := by
  have f1 : exC.fitsR 34 20 = true := by decide +kernel
  have f2 : exC.fitsR 35 20 = false := by decide +kernel
  go_enter Try.func19, Try.ntmps19
  go_wp2_with fail
  obtain ⟨W, hW, hB, hk, hlt⟩ := box1 w #[.int .i64 0, .int .i64 1, .int .i64 10, .int .i64 60, .int .i64 4, .int .i64 5, .int .i64 1] 23
  rw [hW]
  clear hW
  have hc := hk.cell
  have hN := Near.refl W
  go_wp2_with (first | (go_at_call 11; refine (Pass_ex _).mono ?_; rintro e w1 ⟨rfl, hb⟩; replace hN := hN.step hb; have hC := hN.2) | (go_at_call 13; refine (Duration_ex _).mono ?_; rintro e w1 ⟨rfl, hb⟩; replace hN := hN.step hb; have hC := hN.2) | (go_at_call 22; refine (Begin_ex _).mono ?_; rintro e w1 ⟨rfl, hb⟩; replace hN := hN.step hb; have hC := hN.2) | (go_at_call 23; refine (Arrival_ex _).mono ?_; rintro e w1 ⟨rfl, hb⟩; replace hN := hN.step hb; have hC := hN.2) | (go_at_call 24; refine (Known_ex _).mono ?_; rintro e w1 ⟨rfl, hb⟩; replace hN := hN.step hb; have hC := hN.2) | (go_at_call 15; refine (Volume_ex _).mono ?_; rintro e w1 ⟨rfl, hb⟩; replace hN := hN.step hb; have hC := hN.2) | (go_at_call 21; refine (Fits_ex _ _).mono ?_; rintro e w1 ⟨rfl, hb⟩; replace hN := hN.step hb; have hC := hN.2))
  all_goals go_ret
  all_goals exact ⟨rfl, hB.trans hN.1⟩

set_option maxHeartbeats 400000 in
theorem size_any (n : Int) (w : World) (h : 0 ≤ n ∧ n ≤ 65535) :
    Calls Try.prog 20 #[.int .u16 n] w fun e w' => e = .returned (.int .i64 (1 + n)) ∧ w = w' := by
  go_enter Try.func20, Try.ntmps20
  go_wp2
  go_ret
  exact ⟨rfl, rfl⟩

end Go.Proofs.Ytkahnfjdngiebaa
