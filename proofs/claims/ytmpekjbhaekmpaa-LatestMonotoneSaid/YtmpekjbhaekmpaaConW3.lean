
/- Layer 21 (contact): the walks, third part: the reference's functions, Volume and Overlap. -/
import Derived.Test.YtmpekjbhaekmpaaConW2
namespace Go.Proofs.Ytmpekjbhaekmpaa
set_option linter.unusedVariables false
open Go.RowKit

theorem Con.overlap_eq {a b : Con} (ha : a.check = 0) (hb : b.check = 0) : a.overlapB b = decide (a.src = b.src ∧ a.dst = b.dst ∧ a.st < b.en ∧ b.st < a.en) := by
  have h1 := ((Con.check_iff a).1 ha).st1
  have h2 := ((Con.check_iff b).1 hb).st1
  rw [Bool.eq_iff_iff]
  simp [Con.overlapB, ha, hb]
  omega

set_option maxHeartbeats 1000000 in
theorem Overlap_any (a b : Con) (w : World) :
    Calls Try.prog 44 #[a.val, b.val] w fun e w' => e = .returned (.bool (a.overlapB b)) ∧ Ext w w' := by
  by_cases ha : a.check = 0
  · by_cases hb0 : b.check = 0
    · have ho := Lib.hid (Con.overlap_eq ha hb0)
      have h1 := ((Con.check_iff a).1 ha).st1
      have h2 := ((Con.check_iff b).1 hb0).st1
      unfold Con.val
      go_enter Try.func44, Try.ntmps44
      go_wp2_with fail
      obtain ⟨W, hW, hB, hk, hk2, hlt, hlt2⟩ := box2 w a.cells b.cells 45 45
      simp only [Con.cells] at hW hk hk2
      rw [hW]
      clear hW
      have hc := hk.cell
      have hc2 := hk2.cell
      have hN := Near.refl W
      go_wp2_with (go_at_call 41; refine (check_any _ _).mono ?_; rintro e w1 ⟨rfl, hb⟩; replace hN := hN.step hb; have hC := hN.2)
      all_goals go_ret
      all_goals refine ⟨ret_bool ?_, hB.trans hN.1⟩
      all_goals rw [ho.out, Bool.eq_iff_iff]
      all_goals clear ho hc hc2 hk hk2
      all_goals simp_all
      all_goals omega
    · unfold Con.val
      go_enter Try.func44, Try.ntmps44
      go_wp2_with fail
      obtain ⟨W, hW, hB, hk, hk2, hlt, hlt2⟩ := box2 w a.cells b.cells 45 45
      simp only [Con.cells] at hW hk hk2
      rw [hW]
      clear hW
      have hc := hk.cell
      have hc2 := hk2.cell
      have hN := Near.refl W
      go_wp2_with (go_at_call 41; refine (check_any _ _).mono ?_; rintro e w1 ⟨rfl, hb⟩; replace hN := hN.step hb; have hC := hN.2)
      go_ret
      exact ⟨ret_bool (by simp [Con.overlapB, hb0]), hB.trans hN.1⟩
  · unfold Con.val
    go_enter Try.func44, Try.ntmps44
    go_wp2_with fail
    obtain ⟨W, hW, hB, hk, hk2, hlt, hlt2⟩ := box2 w a.cells b.cells 45 45
    simp only [Con.cells] at hW hk hk2
    rw [hW]
    clear hW
    have hc := hk.cell
    have hc2 := hk2.cell
    have hN := Near.refl W
    go_wp2_with (go_at_call 41; refine (check_any _ _).mono ?_; rintro e w1 ⟨rfl, hb⟩; replace hN := hN.step hb; have hC := hN.2)
    go_ret
    exact ⟨ret_bool (by simp [Con.overlapB, ha]), hB.trans hN.1⟩

set_option maxHeartbeats 1000000 in
theorem rOverlap_any (a b : Con) (w : World) :
    Calls Try.prog 48 #[a.val, b.val] w fun e w' => e = .returned (.bool (a.overlapB b)) ∧ Ext w w' := by
  by_cases ha : a.check = 0
  · by_cases hb0 : b.check = 0
    · have ho := Lib.hid (Con.overlap_eq ha hb0)
      unfold Con.val
      go_enter Try.func48, Try.ntmps48
      go_wp2_with fail
      obtain ⟨W, hW, hB, hk, hk2, hlt, hlt2⟩ := box2 w a.cells b.cells 45 45
      simp only [Con.cells] at hW hk hk2
      rw [hW]
      clear hW
      have hc := hk.cell
      have hc2 := hk2.cell
      have hN := Near.refl W
      go_wp2_with (go_at_call 47; refine (rcheck_any _ _).mono ?_; rintro e w1 ⟨rfl, hb⟩; replace hN := hN.step hb; have hC := hN.2)
      all_goals go_ret
      all_goals refine ⟨ret_bool ?_, hB.trans hN.1⟩
      all_goals rw [ho.out, Bool.eq_iff_iff]
      all_goals clear ho hc hc2 hk hk2
      all_goals simp_all
      all_goals omega
    · unfold Con.val
      go_enter Try.func48, Try.ntmps48
      go_wp2_with fail
      obtain ⟨W, hW, hB, hk, hk2, hlt, hlt2⟩ := box2 w a.cells b.cells 45 45
      simp only [Con.cells] at hW hk hk2
      rw [hW]
      clear hW
      have hc := hk.cell
      have hc2 := hk2.cell
      have hN := Near.refl W
      go_wp2_with (go_at_call 47; refine (rcheck_any _ _).mono ?_; rintro e w1 ⟨rfl, hb⟩; replace hN := hN.step hb; have hC := hN.2)
      go_ret
      exact ⟨ret_bool (by simp [Con.overlapB, hb0]), hB.trans hN.1⟩
  · unfold Con.val
    go_enter Try.func48, Try.ntmps48
    go_wp2_with fail
    obtain ⟨W, hW, hB, hk, hk2, hlt, hlt2⟩ := box2 w a.cells b.cells 45 45
    simp only [Con.cells] at hW hk hk2
    rw [hW]
    clear hW
    have hc := hk.cell
    have hc2 := hk2.cell
    have hN := Near.refl W
    go_wp2_with (go_at_call 47; refine (rcheck_any _ _).mono ?_; rintro e w1 ⟨rfl, hb⟩; replace hN := hN.step hb; have hC := hN.2)
    go_ret
    exact ⟨ret_bool (by simp [Con.overlapB, ha]), hB.trans hN.1⟩

/-- Between two rounds of the halving: what 'low' and 'high' are. -/
def VolRel (c : Con) (W : World) (lo hi : Value) (wr : World) : Prop :=
  ∃ low high : Int, lo = .int .i64 low ∧ hi = .int .i64 high ∧ 0 ≤ low ∧ low ≤ high ∧ high ≤ 65536 ∧ (low = 0 ∨ c.dur low ≤ c.en - c.st) ∧ (high = 65536 ∨ c.en - c.st < c.dur (high + 1)) ∧ Near W wr

end Go.Proofs.Ytmpekjbhaekmpaa
