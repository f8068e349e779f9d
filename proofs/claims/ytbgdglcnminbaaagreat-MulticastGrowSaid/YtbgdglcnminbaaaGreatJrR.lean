
/- slices.Repeat of one number. -/
import Derived.Test.YtbgdglcnminbaaaGreatMemA
import Derived.Test.YtbgdglcnminbaaaGreatRows
import Derived.Laws.CopyOwn
import Derived.Deep.RegionLaw
import Derived.Laws.IdiomCopy
import Derived.StillTailTactics
namespace Go.Proofs.YtbgdglcnminbaaaGreat
set_option linter.unusedVariables false
open Go.RowKit

theorem info_intR : (Tryz.prog.info? 3).map (fun i => (i.zero, i.size, i.bytes)) = some (some (.int .i64 0), 1, 8) := by kernel_rfl
def repL (N n : Nat) (v : Int) : List Value := List.replicate n (.int .i64 v) ++ List.replicate (N - n) (.int .i64 0)
theorem repL_len {N n : Nat} (v : Int) (h : n ≤ N) : (repL N n v).length = N := by simp [repL]; omega
theorem allInt_rep (v : Int) : ∀ n, List.replicate n (Value.int .i64 v) = EInt.all (List.replicate n v)
  | 0 => rfl
  | n + 1 => by rw [List.replicate_succ, List.replicate_succ, allInt_rep v n]; rfl
theorem repL_splice {N n k : Nat} {v : Int} (h : n + k ≤ N) : splice (repL N n v) n (List.replicate k (.int .i64 v)) = repL N (n + k) v := by
  unfold splice repL
  rw [List.length_replicate, List.take_append_of_le_length (by simp), List.take_of_length_le (by simp), List.drop_append, List.drop_eq_nil_of_le (by simp), List.length_replicate, List.nil_append, List.drop_replicate, ← List.append_assoc, List.replicate_append_replicate]
  congr 2
  omega

end Go.Proofs.YtbgdglcnminbaaaGreat