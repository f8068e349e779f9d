/- Layer 44 (custody): the chapter's example. -/
import Derived.Test.YtlhdmhgbclfneaaCusM
namespace Go.Proofs.Ytlhdmhgbclfneaa
set_option linter.unusedVariables false
open Go.RowKit

def exI : Bid := ⟨1, 4, 2, 0, 0⟩
def ex2 : Off := ⟨exI, 2, 20, 0⟩
def ex5 : Off := ⟨exI, 5, 30, 1⟩

theorem begin_ex1 (w : World) : Calls Try.prog 11 #[.slice none 0 0, .agg #[.int .i64 1, .int .i64 4, .int .i64 2, .int .i64 0, .int .i64 0], .int .i64 2, .int .i64 20] w (RetL w [ex2] 0) := by
  have h := begin_any none 0 [] exI 2 20 w Rd.nil (by simp)
  rw [show begL [] exI 2 20 = [ex2] from by kernel_rfl, show begE [] exI 2 20 = 0 from by kernel_rfl] at h
  exact h
theorem begin_ex2 (A : Option Addr) (c : Nat) (w : World) (hA : Rd EOff w A [ex2]) : Calls Try.prog 11 #[.slice A 1 c, .agg #[.int .i64 1, .int .i64 4, .int .i64 2, .int .i64 0, .int .i64 0], .int .i64 5, .int .i64 30] w (RetL w [ex2, ex5] 0) := by
  have h := begin_any A c [ex2] exI 5 30 w hA (by simp)
  rw [show begL [ex2] exI 5 30 = [ex2, ex5] from by kernel_rfl, show begE [ex2] exI 5 30 = 0 from by kernel_rfl] at h
  exact h
theorem signal_ex1 (A : Option Addr) (c : Nat) (w : World) (hA : Rd EOff w A [ex2, ex5]) : Calls Try.prog 16 #[.slice A 2 c, .agg #[.int .i64 1, .int .i64 4, .int .i64 2, .int .i64 0, .int .i64 0], .int .i64 2, .bool false] w (RetL2 w [ex5] 3 0) := by
  have h := signal_any A c [ex2, ex5] exI 2 false w hA (by simp)
  rw [show sigL [ex2, ex5] exI 2 false = [ex5] from by kernel_rfl, show sigN [ex2, ex5] exI 2 false = 3 from by kernel_rfl, show sigE [ex2, ex5] = 0 from by kernel_rfl] at h
  exact h
theorem signal_ex2 (A : Option Addr) (c : Nat) (w : World) (hA : Rd EOff w A [ex2, ex5]) : Calls Try.prog 16 #[.slice A 2 c, .agg #[.int .i64 1, .int .i64 4, .int .i64 2, .int .i64 0, .int .i64 0], .int .i64 2, .bool true] w (RetL2 w [] 2 0) := by
  have h := signal_any A c [ex2, ex5] exI 2 true w hA (by simp)
  rw [show sigL [ex2, ex5] exI 2 true = [] from by kernel_rfl, show sigN [ex2, ex5] exI 2 true = 2 from by kernel_rfl, show sigE [ex2, ex5] = 0 from by kernel_rfl] at h
  exact h
theorem equal_ex (A B : Option Addr) (c d : Nat) (l : List Off) (w : World) (hA : Rd EOff w A l) (hB : Rd EOff w B l) (hmax : l.length ≤ 1000000) :
    Calls Try.prog 25 #[.slice A l.length c, .slice B l.length d] w fun e w' => e = .returned (.bool true) ∧ Ext w w' := by
  have h := equal_any A B c d l l w hA hB hmax hmax
  rw [eqL_refl] at h
  exact h
theorem delay_ex (t v : Int) (w : World) (h : delay t = v) : Calls Try.prog 17 #[.int .i64 t] w fun e w' => e = .returned (.int .i64 v) ∧ Ext w w' := by
  rw [← h]; exact delay_any t w

set_option maxRecDepth 100000 in
set_option maxHeartbeats 2000000 in
theorem awake_any (w : World) :
    Calls Try.prog 10 #[] w fun e w' => e = .returned (.bool true) ∧ Ext w w' := by
  go_enter Try.func10, Try.ntmps10
  go_wp2_with fail
  obtain ⟨W, hW, hB, hk, hlt⟩ := box1 w exI.arr 24
  simp only [Bid.arr, exI] at hW hk
  rw [hW]
  clear hW
  have hc := hk.cell
  go_wp2_with fail
  refine (begin_ex1 _).mono ?_
  rintro e w1 ⟨A1, c1, rfl, hR1, hb1⟩
  have hk1 := hk.ext hb1
  replace hc := hk1.cell
  go_wp2_with fail
  refine (begin_ex2 _ _ _ hR1).mono ?_
  rintro e w2 ⟨A2, c2, rfl, hR2, hb2⟩
  have hk2 := hk1.ext hb2
  replace hc := hk2.cell
  go_wp2_with fail
  refine (signal_ex1 _ _ _ hR2).mono ?_
  rintro e w3 ⟨A3, c3, rfl, hR3, hb3⟩
  have hk3 := hk2.ext hb3
  replace hc := hk3.cell
  go_wp2_with fail
  refine (signal_ex2 _ _ _ (hR2.ext hb3)).mono ?_
  rintro e w4 ⟨A4, c4, rfl, hR4, hb4⟩
  have hk4 := hk3.ext hb4
  have hE := ((hB.trans hb1).trans hb2).trans (hb3.trans hb4)
  replace hc := hk4.cell
  have hlt4 := hk4.lt
  clear hlt
  clear hk hk1 hk2 hk3
  go_wp2_with fail
  obtain ⟨W5, hW5, hB5, hk5, hk6, hl5, hl6⟩ := box2 w4 #[.int .i64 1, .int .i64 4, .int .i64 2, .int .i64 0, .int .i64 0, .int .i64 5, .int .i64 30, .int .i64 1] #[.int .i64 1, .int .i64 4, .int .i64 2, .int .i64 0, .int .i64 0, .int .i64 2, .int .i64 20, .int .i64 0, .int .i64 1, .int .i64 4, .int .i64 2, .int .i64 0, .int .i64 0, .int .i64 5, .int .i64 30, .int .i64 1] 26 26
  rw [hW5]
  clear hW5
  have hE5 := hE.trans hB5
  refine (equal_ex A2 (some ⟨w4.heap.size + 1, 0, none⟩) c2 2 [ex2, ex5] W5 ((hR2.ext (hb3.trans hb4)).ext hB5) (rd_blk (l := [ex2, ex5]) hk6) (by simp)).mono ?_
  rintro e w6 ⟨rfl, hb6⟩
  have hk7 := hk5.ext hb6
  replace hc := hk7.cell
  have hl7 := hk7.lt
  clear hl5 hl6 hk5
  go_wp2_with fail
  obtain ⟨W7, hW7, hB7, hk8, hl8⟩ := box1 w6 #[.int .i64 1, .int .i64 4, .int .i64 2, .int .i64 0, .int .i64 0, .int .i64 5, .int .i64 30, .int .i64 1] 26
  rw [hW7]
  clear hW7
  have hE7 := (hE5.trans hb6).trans hB7
  refine (equal_ex A3 (some ⟨w6.heap.size, 0, none⟩) c3 1 [ex5] W7 ((((hR3.ext hb4).ext hB5).ext hb6).ext hB7) (rd_blk (l := [ex5]) hk8) (by simp)).mono ?_
  rintro e w8 ⟨rfl, hb8⟩
  have hE8 := hE7.trans hb8
  go_wp2_with fail
  refine (delay_ex 0 16 _ (by kernel_rfl)).mono ?_
  rintro e w9 ⟨rfl, hb9⟩
  go_wp2_with fail
  refine (delay_ex 1 32 _ (by kernel_rfl)).mono ?_
  rintro e w10 ⟨rfl, hb10⟩
  go_wp2_with fail
  refine (delay_ex 6 1024 _ (by kernel_rfl)).mono ?_
  rintro e w11 ⟨rfl, hb11⟩
  go_wp2_with fail
  refine (delay_ex 9 1024 _ (by kernel_rfl)).mono ?_
  rintro e w12 ⟨rfl, hb12⟩
  go_wp2
  go_ret
  exact ⟨rfl, hE8.trans ((hb9.trans hb10).trans (hb11.trans hb12))⟩

end Go.Proofs.Ytlhdmhgbclfneaa
