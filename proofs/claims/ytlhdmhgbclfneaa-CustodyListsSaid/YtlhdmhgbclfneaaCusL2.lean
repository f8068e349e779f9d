/- Layer 44 (custody): the walk of CustodyBegin. -/
import Derived.Test.YtlhdmhgbclfneaaCusL1
namespace Go.Proofs.Ytlhdmhgbclfneaa
set_option linter.unusedVariables false
open Go.RowKit

theorem same_ex (A B : Option Addr) (c d : Nat) (l : List Off) (w : World) (hA : Rd EOff w A l) (hB : Rd EOff w B l) (hmax : l.length ≤ 1000000) :
    Calls Try.prog 15 #[.slice A l.length c, .slice B l.length d] w fun e w' => e = .returned (.bool true) ∧ Ext w w' := by
  have h := same_any A B c d l l w hA hB hmax hmax
  rw [eqL_refl] at h
  exact h
theorem rbegin_eq (A : Option Addr) (c : Nat) (l : List Off) (x : Bid) (con due : Int) (w : World) (hA : Rd EOff w A l) (hmax : l.length ≤ 1000000) (hcap : l.length ≤ c) :
    Calls Try.prog 12 #[.slice A l.length c, x.val, .int .i64 con, .int .i64 due] w (RetL w (begL l x con due) (begE l x con due)) := by
  have h := rbegin_any A c l x con due w hA hmax hcap
  rw [begE_eq l x con due hmax, begL_eq l x con due hmax] at h
  exact h
theorem begL_le (l : List Off) (x : Bid) (con due : Int) (hmax : l.length ≤ 1000) : (begL l x con due).length ≤ 1001 := by
  by_cases h : begE l x con due = 0
  · rw [begL_len h]; omega
  · rw [begL_nil h]; simp

set_option maxRecDepth 100000 in
set_option maxHeartbeats 2000000 in
theorem begin_walk (A : Option Addr) (c : Nat) (l : List Off) (x : Off) (w : World) (hA : Rd EOff w A l) (hcap : l.length ≤ c) (hmc : c ≤ maxLen) :
    Calls Try.prog 3 #[.slice A l.length c, x.val] w fun e w' => e = .returned (.bool true) ∧ Ext w w' := by
  obtain ⟨W, hW, hB, hk, hlt⟩ := box1 w x.cells.toArray 26
  have hmx : l.length ≤ 9223372036854775807 := by unfold maxLen at hmc; omega
  by_cases hg : 70 < l.length
  · simp only [Off.cells] at hW hk
    unfold Off.val
    go_enter Try.func3, Try.ntmps3
    go_wp2_with fail
    clear hW
    refine (great_any A c l W hmx).mono ?_
    rintro e w1 ⟨rfl, rfl⟩
    rw [decide_eq_true hg]
    go_wp2_with fail
    refine (awake_any _).mono ?_
    rintro e w2 ⟨rfl, hb2⟩
    go_wp2
    go_ret
    exact ⟨rfl, hB.trans hb2⟩
  · have hle : l.length ≤ 70 := by omega
    have hm6 : l.length ≤ 1000000 := by omega
    simp only [Off.cells] at hW hk
    unfold Off.val
    go_enter Try.func3, Try.ntmps3
    go_wp2_with fail
    clear hW
    refine (great_any A c l W hmx).mono ?_
    rintro e w1 ⟨rfl, rfl⟩
    rw [decide_eq_false hg]
    have hc := hk.cell
    have hc0 := hk.lt
    clear hg
    go_wp2_with fail
    refine (begin_any A c l x.id x.con x.due W (hA.ext hB) hm6).mono ?_
    rintro e w2 ⟨A2, c2, rfl, hR2, hb2⟩
    have hk2 := hk.ext hb2
    replace hc := hk2.cell
    replace hc0 := hk2.lt
    go_wp2_with fail
    refine (rbegin_eq A c l x.id x.con x.due w2 (hA.ext (hB.trans hb2)) hm6 hcap).mono ?_
    rintro e w3 ⟨A3, c3, rfl, hR3, hb3⟩
    go_wp2_with fail
    have hE3 := (hB.trans hb2).trans hb3
    refine (check_any A c l w3 (hA.ext hE3) hm6).mono ?_
    rintro e w4 ⟨rfl, hb4⟩
    go_wp2_with fail
    refine (rcheck_any A c l w4 (hA.ext (hE3.trans hb4)) hm6).mono ?_
    rintro e w5 ⟨rfl, hb5⟩
    go_wp2_with fail
    refine (same_ex A2 A3 c2 c3 _ w5 (((hR2.ext hb3).ext hb4).ext hb5) ((hR3.ext hb4).ext hb5) (Nat.le_trans (begL_le l x.id x.con x.due (by omega)) (by omega))).mono ?_
    rintro e w6 ⟨rfl, hb6⟩
    go_wp2_with fail
    refine (awake_any _).mono ?_
    rintro e w7 ⟨rfl, hb7⟩
    go_wp2
    go_ret
    exact ⟨rfl, (hE3.trans hb4).trans ((hb5.trans hb6).trans hb7)⟩

end Go.Proofs.Ytlhdmhgbclfneaa
