/- Layer 44 (custody): the walks of the orders and of 'valid'. -/
import Derived.Test.YtlhdmhgbclfneaaCusW2
namespace Go.Proofs.Ytlhdmhgbclfneaa
set_option linter.unusedVariables false
open Go.RowKit

def Bid.arr (x : Bid) : Array Value := #[.int .i64 x.a, .int .i64 x.b, .int .i64 x.c, .int .i64 x.d, .int .i64 x.e]
def Bid.lt (x y : Bid) : Bool := decide (lexC x.ints y.ints < 0)

set_option maxHeartbeats 800000 in
theorem Less_any (x y : Bid) (w : World) :
    Calls Try.prog 42 #[x.val, y.val] w fun e w' => e = .returned (.bool (x.lt y)) ∧ Ext w w' := by
  unfold Bid.val
  go_enter Try.func42, Try.ntmps42
  go_wp2_with fail
  obtain ⟨W, hW, hB, hk, hk2, hlt, hlt2⟩ := box2 w x.arr y.arr 24 24
  simp only [Bid.arr] at hW hk hk2
  rw [hW]
  clear hW
  have hN := Near.refl W
  go_wp2_with (go_at_call 46; refine (compareIds_any _ _ _).mono ?_; rintro e w1 ⟨rfl, hb⟩; replace hN := hN.step hb; have hC := hN.2)
  go_ret
  exact ⟨rfl, hB.trans hN.1⟩

theorem lexC_snoc : ∀ (l m : List Int) (x y : Int), l.length = m.length → lexC (l ++ [x]) (m ++ [y]) = if lexC l m = 0 then cmpI x y else lexC l m
  | [], [], x, y, _ => by simp [lexC]; intro h; exact h.symm
  | a :: l, b :: m, x, y, h => by
    have ih := lexC_snoc l m x y (by simpa using h)
    simp only [List.cons_append, lexC]
    by_cases hc : cmpI a b = 0 <;> simp [hc, ih]
def Off.cmp (x y : Off) : Int := lexC x.key y.key
theorem Off.cmp_eq (x y : Off) : x.cmp y = if x.id.lt y.id then -1 else if y.id.lt x.id then 1 else cmpI x.con y.con := by
  have h : x.cmp y = if lexC x.id.ints y.id.ints = 0 then cmpI x.con y.con else lexC x.id.ints y.id.ints := lexC_snoc x.id.ints y.id.ints x.con y.con rfl
  have hb := lexC_bd x.id.ints y.id.ints
  have hn := lexC_neg x.id.ints y.id.ints
  rw [h]
  simp only [Bid.lt, hn, decide_eq_true_eq]
  split
  · rw [if_neg (by omega), if_neg (by omega)]
  · split
    · omega
    · rw [if_pos (by omega)]; omega

set_option maxHeartbeats 1000000 in
theorem compare_any (x y : Off) (w : World) :
    Calls Try.prog 33 #[.agg #[.int .i64 x.id.a, .int .i64 x.id.b, .int .i64 x.id.c, .int .i64 x.id.d, .int .i64 x.id.e, .int .i64 x.con], .agg #[.int .i64 y.id.a, .int .i64 y.id.b, .int .i64 y.id.c, .int .i64 y.id.d, .int .i64 y.id.e, .int .i64 y.con]] w
      fun e w' => e = .returned (.int .i64 (x.cmp y)) ∧ Ext w w' := by
  go_enter Try.func33, Try.ntmps33
  go_wp2_with fail
  obtain ⟨W, hW, hB, hk, hk2, hlt, hlt2⟩ := box2 w #[.int .i64 x.id.a, .int .i64 x.id.b, .int .i64 x.id.c, .int .i64 x.id.d, .int .i64 x.id.e, .int .i64 x.con] #[.int .i64 y.id.a, .int .i64 y.id.b, .int .i64 y.id.c, .int .i64 y.id.d, .int .i64 y.id.e, .int .i64 y.con] 51 51
  rw [hW]
  clear hW
  have hc := hk.cell
  have hc2 := hk2.cell
  have hN := Near.refl W
  go_wp2_with (first | (go_at_call 42; refine (Less_any _ _ _).mono ?_; rintro e w1 ⟨rfl, hb⟩; replace hN := hN.step hb; have hC := hN.2) | (go_at_call 43; refine (cmp_any _ _ _).mono ?_; rintro e w1 ⟨rfl, rfl⟩))
  all_goals go_ret
  all_goals refine ⟨ret_i64 ?_, hB.trans hN.1⟩
  all_goals rw [Off.cmp_eq]
  all_goals simp_all

set_option maxHeartbeats 1000000 in
theorem valid_any (x : Off) (w : World) :
    Calls Try.prog 28 #[x.val] w fun e w' => e = .returned (.bool x.ok) ∧ Ext w w' := by
  cases hi : x.id.ok
  all_goals
    unfold Off.val
    go_enter Try.func28, Try.ntmps28
    go_wp2_with fail
    obtain ⟨W, hW, hB, hk, hlt⟩ := box1 w x.cells.toArray 26
    simp only [Off.cells] at hW hk
    rw [hW]
    clear hW
    have hc := hk.cell
    have hN := Near.refl W
    go_wp2_with (go_at_call 41; refine (id_any x.id _).mono ?_; rintro e w1 ⟨rfl, hb⟩; replace hN := hN.step hb; have hC := hN.2)
    all_goals go_ret
    all_goals refine ⟨ret_bool ?_, hB.trans hN.1⟩
    all_goals clear hk hc hN hB
    all_goals rw [Bool.eq_iff_iff]
    all_goals simp_all [Off.ok]
  all_goals omega

set_option maxHeartbeats 1000000 in
theorem rvalid_any (x : Off) (w : World) :
    Calls Try.prog 34 #[x.val] w fun e w' => e = .returned (.bool x.ok) ∧ Ext w w' := by
  cases hi : x.id.ok
  all_goals
    unfold Off.val
    go_enter Try.func34, Try.ntmps34
    go_wp2_with fail
    obtain ⟨W, hW, hB, hk, hlt⟩ := box1 w x.cells.toArray 26
    simp only [Off.cells] at hW hk
    rw [hW]
    clear hW
    have hc := hk.cell
    have hN := Near.refl W
    go_wp2_with (go_at_call 44; refine (rid_any x.id _).mono ?_; rintro e w1 ⟨rfl, hb⟩; replace hN := hN.step hb; have hC := hN.2)
    all_goals go_ret
    all_goals refine ⟨ret_bool ?_, hB.trans hN.1⟩
    all_goals clear hk hc hN hB
    all_goals rw [Bool.eq_iff_iff]
    all_goals simp_all [Off.ok]
  all_goals omega

end Go.Proofs.Ytlhdmhgbclfneaa
