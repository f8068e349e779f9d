/- Layer 26 (reach): slices.Sort of at most twelve numbers. -/
import Derived.Lib.BitFns
import Derived.Lib.Tables
import Derived.Lib.Walk
import Derived.Test.YtemkpimngbbpkaaGreatQs21
namespace Go.Proofs.YtemkpimngbbpkaaGreat
set_option linter.unusedVariables false
set_option linter.unusedSimpArgs false
open Go.RowKit Go.Shelf
set_option maxHeartbeats 4000000 in
set_option maxRecDepth 100000 in
theorem len64_any (x : Int) (w : World) (h0 : 0 <= x) (h1 : x <= 255) : Calls Tryz.prog 224 #[.int .u64 x] w fun e w' => (∃ k, e = .returned (.int .i64 k)) /\ w' = w := by
 go_enter Tryz.func224, Tryz.ntmps224
 go_wp2
 all_goals (go_ret; exact ⟨⟨_, rfl⟩, rfl⟩)
set_option maxRecDepth 100000 in
theorem len_any (x : Int) (w : World) (h0 : 0 <= x) (h1 : x <= 255) : Calls Tryz.prog 146 #[.int .u64 x] w fun e w' => (∃ k, e = .returned (.int .i64 k)) /\ w' = w := by
 have hl := len64_any x w h0 h1
 go_enter Tryz.func146, Tryz.ntmps146
 go_wp2_with fail
 refine hl.mono ?_
 rintro e w1 ⟨⟨k, rfl⟩, rfl⟩
 go_wp2
 go_ret
 exact ⟨⟨_, rfl⟩, rfl⟩
end Go.Proofs.YtemkpimngbbpkaaGreat
