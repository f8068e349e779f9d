/- Layer 26 (reach): the chapter's example as plain data. -/
import Derived.Test.YtifopbkhflpbfaaRchS
namespace Go.Proofs.Ytifopbkhflpbfaa
set_option linter.unusedVariables false
open Go.RowKit

def exP : Pln := ⟨[100, 100, 100], [⟨0, 1, 10, 60, 4, 5, 0⟩, ⟨1, 2, 50, 100, 4, 5, 0⟩]⟩
theorem Chn.go {p : Pln} {src dst n : Int} {l l' : List Stp} {t t' : Int} (h : Chn p src dst n l t) (y x : Int) (h1 : t ≤ 1099511627776) (he : p.ear src dst n t = x) (hx : x ≠ -1) (hl : p.lat src dst n x = y) (e1 : l' = l ++ [⟨t, y, x⟩]) (e2 : t' = y + 1) : Chn p src dst n l' t' := by
  have := Chn.snoc h h1 (by rw [he]; exact hx)
  rw [he, hl] at this
  unfold Pln.stp at this
  rw [he, hl] at this
  rw [e1, e2]
  exact this
def exS : List Stp := [⟨0, 36, 64⟩, ⟨37, 37, 65⟩, ⟨38, 38, 66⟩, ⟨39, 39, 67⟩, ⟨40, 40, 68⟩, ⟨41, 41, 69⟩, ⟨42, 42, 70⟩, ⟨43, 43, 71⟩, ⟨44, 44, 72⟩, ⟨45, 45, 73⟩, ⟨46, 46, 74⟩, ⟨47, 47, 75⟩, ⟨48, 48, 76⟩, ⟨49, 49, 77⟩, ⟨50, 50, 78⟩, ⟨51, 51, 79⟩]
theorem exS_chn : Chn exP 0 2 20 exS 52 := by
  have c0 : Chn exP 0 2 20 [] 0 := Chn.nil
  have c1 : Chn exP 0 2 20 [⟨0, 36, 64⟩] 37 := c0.go 36 64 (by decide) (by kernel_rfl) (by decide) (by kernel_rfl) rfl rfl
  have c2 : Chn exP 0 2 20 [⟨0, 36, 64⟩, ⟨37, 37, 65⟩] 38 := c1.go 37 65 (by decide) (by kernel_rfl) (by decide) (by kernel_rfl) rfl rfl
  have c3 : Chn exP 0 2 20 [⟨0, 36, 64⟩, ⟨37, 37, 65⟩, ⟨38, 38, 66⟩] 39 := c2.go 38 66 (by decide) (by kernel_rfl) (by decide) (by kernel_rfl) rfl rfl
  have c4 : Chn exP 0 2 20 [⟨0, 36, 64⟩, ⟨37, 37, 65⟩, ⟨38, 38, 66⟩, ⟨39, 39, 67⟩] 40 := c3.go 39 67 (by decide) (by kernel_rfl) (by decide) (by kernel_rfl) rfl rfl
  have c5 : Chn exP 0 2 20 [⟨0, 36, 64⟩, ⟨37, 37, 65⟩, ⟨38, 38, 66⟩, ⟨39, 39, 67⟩, ⟨40, 40, 68⟩] 41 := c4.go 40 68 (by decide) (by kernel_rfl) (by decide) (by kernel_rfl) rfl rfl
  have c6 : Chn exP 0 2 20 [⟨0, 36, 64⟩, ⟨37, 37, 65⟩, ⟨38, 38, 66⟩, ⟨39, 39, 67⟩, ⟨40, 40, 68⟩, ⟨41, 41, 69⟩] 42 := c5.go 41 69 (by decide) (by kernel_rfl) (by decide) (by kernel_rfl) rfl rfl
  have c7 : Chn exP 0 2 20 [⟨0, 36, 64⟩, ⟨37, 37, 65⟩, ⟨38, 38, 66⟩, ⟨39, 39, 67⟩, ⟨40, 40, 68⟩, ⟨41, 41, 69⟩, ⟨42, 42, 70⟩] 43 := c6.go 42 70 (by decide) (by kernel_rfl) (by decide) (by kernel_rfl) rfl rfl
  have c8 : Chn exP 0 2 20 [⟨0, 36, 64⟩, ⟨37, 37, 65⟩, ⟨38, 38, 66⟩, ⟨39, 39, 67⟩, ⟨40, 40, 68⟩, ⟨41, 41, 69⟩, ⟨42, 42, 70⟩, ⟨43, 43, 71⟩] 44 := c7.go 43 71 (by decide) (by kernel_rfl) (by decide) (by kernel_rfl) rfl rfl
  have c9 : Chn exP 0 2 20 [⟨0, 36, 64⟩, ⟨37, 37, 65⟩, ⟨38, 38, 66⟩, ⟨39, 39, 67⟩, ⟨40, 40, 68⟩, ⟨41, 41, 69⟩, ⟨42, 42, 70⟩, ⟨43, 43, 71⟩, ⟨44, 44, 72⟩] 45 := c8.go 44 72 (by decide) (by kernel_rfl) (by decide) (by kernel_rfl) rfl rfl
  have c10 : Chn exP 0 2 20 [⟨0, 36, 64⟩, ⟨37, 37, 65⟩, ⟨38, 38, 66⟩, ⟨39, 39, 67⟩, ⟨40, 40, 68⟩, ⟨41, 41, 69⟩, ⟨42, 42, 70⟩, ⟨43, 43, 71⟩, ⟨44, 44, 72⟩, ⟨45, 45, 73⟩] 46 := c9.go 45 73 (by decide) (by kernel_rfl) (by decide) (by kernel_rfl) rfl rfl
  have c11 : Chn exP 0 2 20 [⟨0, 36, 64⟩, ⟨37, 37, 65⟩, ⟨38, 38, 66⟩, ⟨39, 39, 67⟩, ⟨40, 40, 68⟩, ⟨41, 41, 69⟩, ⟨42, 42, 70⟩, ⟨43, 43, 71⟩, ⟨44, 44, 72⟩, ⟨45, 45, 73⟩, ⟨46, 46, 74⟩] 47 := c10.go 46 74 (by decide) (by kernel_rfl) (by decide) (by kernel_rfl) rfl rfl
  have c12 : Chn exP 0 2 20 [⟨0, 36, 64⟩, ⟨37, 37, 65⟩, ⟨38, 38, 66⟩, ⟨39, 39, 67⟩, ⟨40, 40, 68⟩, ⟨41, 41, 69⟩, ⟨42, 42, 70⟩, ⟨43, 43, 71⟩, ⟨44, 44, 72⟩, ⟨45, 45, 73⟩, ⟨46, 46, 74⟩, ⟨47, 47, 75⟩] 48 := c11.go 47 75 (by decide) (by kernel_rfl) (by decide) (by kernel_rfl) rfl rfl
  have c13 : Chn exP 0 2 20 [⟨0, 36, 64⟩, ⟨37, 37, 65⟩, ⟨38, 38, 66⟩, ⟨39, 39, 67⟩, ⟨40, 40, 68⟩, ⟨41, 41, 69⟩, ⟨42, 42, 70⟩, ⟨43, 43, 71⟩, ⟨44, 44, 72⟩, ⟨45, 45, 73⟩, ⟨46, 46, 74⟩, ⟨47, 47, 75⟩, ⟨48, 48, 76⟩] 49 := c12.go 48 76 (by decide) (by kernel_rfl) (by decide) (by kernel_rfl) rfl rfl
  have c14 : Chn exP 0 2 20 [⟨0, 36, 64⟩, ⟨37, 37, 65⟩, ⟨38, 38, 66⟩, ⟨39, 39, 67⟩, ⟨40, 40, 68⟩, ⟨41, 41, 69⟩, ⟨42, 42, 70⟩, ⟨43, 43, 71⟩, ⟨44, 44, 72⟩, ⟨45, 45, 73⟩, ⟨46, 46, 74⟩, ⟨47, 47, 75⟩, ⟨48, 48, 76⟩, ⟨49, 49, 77⟩] 50 := c13.go 49 77 (by decide) (by kernel_rfl) (by decide) (by kernel_rfl) rfl rfl
  have c15 : Chn exP 0 2 20 [⟨0, 36, 64⟩, ⟨37, 37, 65⟩, ⟨38, 38, 66⟩, ⟨39, 39, 67⟩, ⟨40, 40, 68⟩, ⟨41, 41, 69⟩, ⟨42, 42, 70⟩, ⟨43, 43, 71⟩, ⟨44, 44, 72⟩, ⟨45, 45, 73⟩, ⟨46, 46, 74⟩, ⟨47, 47, 75⟩, ⟨48, 48, 76⟩, ⟨49, 49, 77⟩, ⟨50, 50, 78⟩] 51 := c14.go 50 78 (by decide) (by kernel_rfl) (by decide) (by kernel_rfl) rfl rfl
  have c16 : Chn exP 0 2 20 [⟨0, 36, 64⟩, ⟨37, 37, 65⟩, ⟨38, 38, 66⟩, ⟨39, 39, 67⟩, ⟨40, 40, 68⟩, ⟨41, 41, 69⟩, ⟨42, 42, 70⟩, ⟨43, 43, 71⟩, ⟨44, 44, 72⟩, ⟨45, 45, 73⟩, ⟨46, 46, 74⟩, ⟨47, 47, 75⟩, ⟨48, 48, 76⟩, ⟨49, 49, 77⟩, ⟨50, 50, 78⟩, ⟨51, 51, 79⟩] 52 := c15.go 51 79 (by decide) (by kernel_rfl) (by decide) (by kernel_rfl) rfl rfl
  exact c16
theorem exS_stop : exP.stopAt 0 2 20 52 := .inr (by kernel_rfl)
theorem exP_rv : exP.rv 20 [0, 2] = 0 := by kernel_rfl
theorem exP_lev : LevP exP 0 2 20 (lvl exS 52) (36, 64) 0 := by
  unfold LevP
  rw [if_pos exP_rv, if_neg (by decide)]
  exact .inr ⟨rfl, exS, 52, exS_chn, exS_stop, by decide, rfl, by decide⟩
theorem exP_hubs : hubs (exP.matM 0 100 20) = [0] := by kernel_rfl
theorem exP_hubE : exP.matE 0 100 20 = 0 := by kernel_rfl

end Go.Proofs.Ytifopbkhflpbfaa
