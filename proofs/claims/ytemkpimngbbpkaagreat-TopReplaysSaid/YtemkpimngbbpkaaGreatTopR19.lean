/- Layer 26 (reach): slices.Sort of at most twelve numbers. -/
import Derived.Lib.BitFns
import Derived.Lib.Tables
import Derived.Lib.Walk
import Derived.Test.YtemkpimngbbpkaaGreatTopR18
namespace Go.Proofs.YtemkpimngbbpkaaGreat
set_option linter.unusedVariables false
set_option linter.unusedSimpArgs false
set_option linter.unusedVariables false
set_option linter.unusedSimpArgs false
open Go.RowKit Go.Shelf

set_option maxHeartbeats 4000000 in
set_option maxRecDepth 100000 in
theorem len64_any (x : Int) (w : World) (h0 : 0 ≤ x) (h1 : x ≤ 255) : Calls Tryz.prog 224 #[.int .u64 x] w fun e w' => (∃ k, e = .returned (.int .i64 k)) ∧ w' = w := by
  go_enter Tryz.func224, Tryz.ntmps224
  go_wp2
  all_goals (go_ret; exact ⟨⟨_, rfl⟩, rfl⟩)
set_option maxRecDepth 100000 in
theorem len_any (x : Int) (w : World) (h0 : 0 ≤ x) (h1 : x ≤ 255) : Calls Tryz.prog 146 #[.int .u64 x] w fun e w' => (∃ k, e = .returned (.int .i64 k)) ∧ w' = w := by
  have hl := len64_any x w h0 h1
  go_enter Tryz.func146, Tryz.ntmps146
  go_wp2_with fail
  refine hl.mono ?_
  rintro e w1 ⟨⟨k, rfl⟩, rfl⟩
  go_wp2
  go_ret
  exact ⟨⟨_, rfl⟩, rfl⟩

def sw (m : List Int) (j : Nat) : List Int := (m.set (j + 1) (gi m j)).set j (gi m (j + 1))
theorem sw_gi {m : List Int} {j : Nat} (h : j + 1 < m.length) (q : Nat) : gi (sw m j) q = if q = j then gi m (j + 1) else if q = j + 1 then gi m j else gi m q := by
  unfold sw
  have h1 := gi_set (m := m.set (j + 1) (gi m j)) (i := (j : Int)) (j := (q : Int)) (v := gi m (j + 1)) (by simp; omega)
  have h2 := gi_set (m := m) (i := ((j + 1 : Nat) : Int)) (j := (q : Int)) (v := gi m j) (by simp; omega)
  simp only [Int.toNat_natCast] at h1 h2
  rw [h1, h2]
/-- The first i + 1 numbers are in order, but for the one at j. -/
def Ins (m : List Int) (i j : Nat) : Prop := ∀ p q : Nat, p < q → q ≤ i → q ≠ j → gi m p ≤ gi m q
theorem Ins.step {m : List Int} {i j : Nat} (h : Ins m i (j + 1)) (hj : j + 1 ≤ i) (hm : j + 1 < m.length) (hl : gi m (j + 1) < gi m j) : Ins (sw m j) i j := by
  intro p q hpq hqi hq
  rw [sw_gi hm, sw_gi hm]
  have e := Nat.lt_trichotomy q (j + 1)
  rw [if_neg (show ¬ q = j from hq)]
  by_cases e1 : q = j + 1
  · rw [if_pos e1]
    by_cases e2 : p = j
    · rw [if_pos e2]; omega
    · rw [if_neg e2, if_neg (by omega)]
      exact h p j (by omega) (by omega) (by omega)
  · rw [if_neg e1]
    by_cases e2 : p = j
    · rw [if_pos e2]
      exact h (j + 1) q (by omega) hqi e1
    · rw [if_neg e2]
      by_cases e3 : p = j + 1
      · rw [if_pos e3]
        exact h j q (by omega) hqi e1
      · rw [if_neg e3]
        exact h p q hpq hqi e1
theorem Ins.done {m : List Int} {i j : Nat} (h : Ins m i j) (hj : j = 0 ∨ ∃ k, j = k + 1 ∧ gi m k ≤ gi m j) : ∀ p q : Nat, p < q → q ≤ i → gi m p ≤ gi m q := by
  intro p q hpq hqi
  by_cases e : q = j
  · subst e
    rcases hj with e | ⟨k, e, hk⟩
    · omega
    · by_cases e2 : p = k
      · subst e2; exact hk
      · have := h p k (by omega) (by omega) (by omega)
        omega
  · exact h p q hpq hqi e
theorem Ins.start {m : List Int} {i : Nat} (h : ∀ p q : Nat, p < q → q < i → gi m p ≤ gi m q) : Ins m i i := fun p q hpq hqi hq => h p q hpq (by omega)

end Go.Proofs.YtemkpimngbbpkaaGreat
