
/- Lists of integers and of hops compared: the walks. -/
import Derived.Test.YtmaengcmhopmbaaGreatPlnA
import Derived.Test.YtmaengcmhopmbaaGreatRows
import Derived.Laws.StructEq
import Derived.LaidEql
namespace Go.Proofs.YtmaengcmhopmbaaGreat
set_option linter.unusedVariables false
open Go.RowKit

theorem run_neq_hp (x y : Hp) (w : World) :
    (binOp .neq 40 (.agg #[.int .i64 x.con, .int .i64 x.beg, .int .i64 x.en, .int .i64 x.arr]) (.agg #[.int .i64 y.con, .int .i64 y.beg, .int .i64 y.en, .int .i64 y.arr])).run Tryz.prog w = .ok (.bool (!hpEq x y)) w := by
  unfold hpEq
  by_cases h0 : x.con = y.con
  · by_cases h1 : x.beg = y.beg
    · by_cases h2 : x.en = y.en
      · by_cases h3 : x.arr = y.arr
        · go_simp
        · go_simp
      · go_simp
    · go_simp
  · go_simp

end Go.Proofs.YtmaengcmhopmbaaGreat
