/- Layer 44 (custody): the walks of the leaves. -/
import Derived.Test.YtlhdmhgbclfneaaCus
import Derived.Test.YtlhdmhgbclfneaaRows
namespace Go.Proofs.Ytlhdmhgbclfneaa
set_option linter.unusedVariables false
open Go.RowKit

set_option maxHeartbeats 400000 in
theorem cmp_any (x y : Int) (w : World) :
    Calls Try.prog 43 #[.int .i64 x, .int .i64 y] w fun e w' => e = .returned (.int .i64 (cmpI x y)) ∧ w = w' := by
  go_enter Try.func43, Try.ntmps43
  go_wp2
  all_goals go_ret
  all_goals refine ⟨ret_i64 ?_, rfl⟩
  all_goals unfold cmpI
  · rw [if_pos (by assumption)]
  · rw [if_neg (by omega), if_pos (by assumption)]
  · rw [if_neg (by omega), if_neg (by omega)]

set_option maxHeartbeats 400000 in
theorem keyOf_any (x : Off) (w : World) :
    Calls Try.prog 31 #[x.val] w fun e w' => e = .returned (.agg #[.int .i64 x.id.a, .int .i64 x.id.b, .int .i64 x.id.c, .int .i64 x.id.d, .int .i64 x.id.e, .int .i64 x.con]) ∧ Ext w w' := by
  unfold Off.val
  go_enter Try.func31, Try.ntmps31
  go_wp2
  go_returns
  exact ⟨rfl, by unfold Ext; go_grown⟩

set_option maxHeartbeats 800000 in
theorem id_any (x : Bid) (w : World) :
    Calls Try.prog 41 #[x.val] w fun e w' => e = .returned (.bool x.ok) ∧ Ext w w' := by
  have hB : Ext w (w.alloc (.cells #[.int .i64 x.a, .int .i64 x.b, .int .i64 x.c, .int .i64 x.d, .int .i64 x.e] 24)) := (Ext.refl _).alloc _
  unfold Bid.val
  go_enter Try.func41, Try.ntmps41
  go_wp2
  all_goals go_ret
  all_goals refine ⟨ret_bool ?_, by first | exact hB | (simp_all)⟩
  all_goals clear hB
  all_goals rw [Bool.eq_iff_iff]
  all_goals simp_all [Bid.ok]
  all_goals omega

set_option maxHeartbeats 800000 in
theorem rid_any (x : Bid) (w : World) :
    Calls Try.prog 44 #[x.val] w fun e w' => e = .returned (.bool x.ok) ∧ Ext w w' := by
  have hB : Ext w (w.alloc (.cells #[.int .i64 x.a, .int .i64 x.b, .int .i64 x.c, .int .i64 x.d, .int .i64 x.e] 24)) := (Ext.refl _).alloc _
  unfold Bid.val
  go_enter Try.func44, Try.ntmps44
  go_wp2
  all_goals go_ret
  all_goals refine ⟨ret_bool ?_, by first | exact hB | (simp_all)⟩
  all_goals clear hB
  all_goals rw [Bool.eq_iff_iff]
  all_goals simp_all [Bid.ok]
  all_goals omega

end Go.Proofs.Ytlhdmhgbclfneaa
