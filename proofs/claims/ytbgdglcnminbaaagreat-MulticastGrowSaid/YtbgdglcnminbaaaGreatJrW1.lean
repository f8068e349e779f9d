
/- Layer 24 (journey): the walks of hop (the program's and the reference's). -/
import Derived.Test.YtbgdglcnminbaaaGreatPlnA
import Derived.Test.YtbgdglcnminbaaaGreatPlnW2
import Derived.Laws.ResultCell
namespace Go.Proofs.YtbgdglcnminbaaaGreat
set_option linter.unusedVariables false
open Go.RowKit Go.Shelf

theorem begin_ok {c : Con} {t n : Int} (h : c.Ok) (hn : 1 ≤ n ∧ n ≤ 65536) (he : earr c t n ≠ -1) : c.beginE t n = 0 ∧ c.beginT t n = c.beg t ∧ c.atE (c.beg t) n = 0 ∧ c.arrT (c.beg t) n = earr c t n := by
  have ha : c.arg n = 0 := Con.arg_ok.2 ⟨h, hn⟩
  rcases earr_cases (t := t) h hn with g | ⟨g1, g2, g3, g4, g5, g6⟩
  · exact absurd g.1 he
  · have e : c.atE (c.beg t) n = 0 := by unfold Con.atE; rw [if_pos ha, g1]; rfl
    refine ⟨by unfold Con.beginE; exact e, by unfold Con.beginT; rw [if_pos e], e, ?_⟩
    unfold Con.arrT Con.aftT
    rw [if_pos e, g3]; omega
theorem begin_no {c : Con} {t n : Int} (h : c.Ok) (hn : 1 ≤ n ∧ n ≤ 65536) (he : earr c t n = -1) : c.beginE t n = 16 ∧ c.beginT t n = 0 := by
  have ha : c.arg n = 0 := Con.arg_ok.2 ⟨h, hn⟩
  rcases earr_cases (t := t) h hn with g | ⟨g1, g2, g3, g4, g5, g6⟩
  · have e : c.atE (c.beg t) n = 16 := by unfold Con.atE; rw [if_pos ha, g.2]; rfl
    refine ⟨by unfold Con.beginE; exact e, by unfold Con.beginT; rw [if_neg (by omega)]⟩
  · omega
def hopV (i : Nat) (c : Con) (t n : Int) : Value := .tuple #[(hopR i c t n).val, .bool (decide (earr c t n ≠ -1))]

end Go.Proofs.YtbgdglcnminbaaaGreat
