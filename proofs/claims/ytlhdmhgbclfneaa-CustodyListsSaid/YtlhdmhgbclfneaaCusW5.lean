/- Layer 44 (custody): '==' and '!=' of ids, keys and offers, as the walks meet them. -/
import Derived.Test.YtlhdmhgbclfneaaCusW4
import Derived.Laws.StructEq
import Derived.LaidEql
namespace Go.Proofs.Ytlhdmhgbclfneaa
set_option linter.unusedVariables false
open Go.RowKit

def idEq (x y : Bid) : Bool := x.a == y.a && (x.b == y.b && (x.c == y.c && (x.d == y.d && x.e == y.e)))
def keyEq (x y : Off) : Bool := idEq x.id y.id && x.con == y.con
def offEq (x y : Off) : Bool := idEq x.id y.id && (x.con == y.con && (x.due == y.due && x.tries == y.tries))

theorem run_eql_id (x y : Bid) (w : World) :
    (binOp .eql 24 (.agg #[.int .i64 x.a, .int .i64 x.b, .int .i64 x.c, .int .i64 x.d, .int .i64 x.e]) (.agg #[.int .i64 y.a, .int .i64 y.b, .int .i64 y.c, .int .i64 y.d, .int .i64 y.e])).run Try.prog w = .ok (.bool (idEq x y)) w := by
  unfold idEq
  by_cases h0 : x.a = y.a
  · by_cases h1 : x.b = y.b
    · by_cases h2 : x.c = y.c
      · by_cases h3 : x.d = y.d
        · by_cases h4 : x.e = y.e
          · go_simp
          · go_simp
        · go_simp
      · go_simp
    · go_simp
  · go_simp

theorem run_neq_id (x y : Bid) (w : World) :
    (binOp .neq 24 (.agg #[.int .i64 x.a, .int .i64 x.b, .int .i64 x.c, .int .i64 x.d, .int .i64 x.e]) (.agg #[.int .i64 y.a, .int .i64 y.b, .int .i64 y.c, .int .i64 y.d, .int .i64 y.e])).run Try.prog w = .ok (.bool (!idEq x y)) w := by
  unfold idEq
  by_cases h0 : x.a = y.a
  · by_cases h1 : x.b = y.b
    · by_cases h2 : x.c = y.c
      · by_cases h3 : x.d = y.d
        · by_cases h4 : x.e = y.e
          · go_simp
          · go_simp
        · go_simp
      · go_simp
    · go_simp
  · go_simp

theorem run_eql_key (x y : Off) (w : World) :
    (binOp .eql 51 (.agg #[.int .i64 x.id.a, .int .i64 x.id.b, .int .i64 x.id.c, .int .i64 x.id.d, .int .i64 x.id.e, .int .i64 x.con]) (.agg #[.int .i64 y.id.a, .int .i64 y.id.b, .int .i64 y.id.c, .int .i64 y.id.d, .int .i64 y.id.e, .int .i64 y.con])).run Try.prog w = .ok (.bool (keyEq x y)) w := by
  unfold keyEq idEq
  by_cases h0 : x.id.a = y.id.a
  · by_cases h1 : x.id.b = y.id.b
    · by_cases h2 : x.id.c = y.id.c
      · by_cases h3 : x.id.d = y.id.d
        · by_cases h4 : x.id.e = y.id.e
          · by_cases h5 : x.con = y.con
            · go_simp
            · go_simp
          · go_simp
        · go_simp
      · go_simp
    · go_simp
  · go_simp

theorem run_eql_off (x y : Off) (w : World) :
    (binOp .eql 26 (.agg #[.int .i64 x.id.a, .int .i64 x.id.b, .int .i64 x.id.c, .int .i64 x.id.d, .int .i64 x.id.e, .int .i64 x.con, .int .i64 x.due, .int .i64 x.tries]) (.agg #[.int .i64 y.id.a, .int .i64 y.id.b, .int .i64 y.id.c, .int .i64 y.id.d, .int .i64 y.id.e, .int .i64 y.con, .int .i64 y.due, .int .i64 y.tries])).run Try.prog w = .ok (.bool (offEq x y)) w := by
  unfold offEq idEq
  by_cases h0 : x.id.a = y.id.a
  · by_cases h1 : x.id.b = y.id.b
    · by_cases h2 : x.id.c = y.id.c
      · by_cases h3 : x.id.d = y.id.d
        · by_cases h4 : x.id.e = y.id.e
          · by_cases h5 : x.con = y.con
            · by_cases h6 : x.due = y.due
              · by_cases h7 : x.tries = y.tries
                · go_simp
                · go_simp
              · go_simp
            · go_simp
          · go_simp
        · go_simp
      · go_simp
    · go_simp
  · go_simp

theorem run_neq_off (x y : Off) (w : World) :
    (binOp .neq 26 (.agg #[.int .i64 x.id.a, .int .i64 x.id.b, .int .i64 x.id.c, .int .i64 x.id.d, .int .i64 x.id.e, .int .i64 x.con, .int .i64 x.due, .int .i64 x.tries]) (.agg #[.int .i64 y.id.a, .int .i64 y.id.b, .int .i64 y.id.c, .int .i64 y.id.d, .int .i64 y.id.e, .int .i64 y.con, .int .i64 y.due, .int .i64 y.tries])).run Try.prog w = .ok (.bool (!offEq x y)) w := by
  unfold offEq idEq
  by_cases h0 : x.id.a = y.id.a
  · by_cases h1 : x.id.b = y.id.b
    · by_cases h2 : x.id.c = y.id.c
      · by_cases h3 : x.id.d = y.id.d
        · by_cases h4 : x.id.e = y.id.e
          · by_cases h5 : x.con = y.con
            · by_cases h6 : x.due = y.due
              · by_cases h7 : x.tries = y.tries
                · go_simp
                · go_simp
              · go_simp
            · go_simp
          · go_simp
        · go_simp
      · go_simp
    · go_simp
  · go_simp

end Go.Proofs.Ytlhdmhgbclfneaa
