/- Update: no negative number in a vector. · Security: bundle.checkId. -/
import Derived.BigRegion
import Derived.Test.YtemkpimngbbpkaaGreatQm05
import Derived.Test.YtemkpimngbbpkaaGreatQm11
namespace Go.Proofs.YtemkpimngbbpkaaGreat
set_option linter.unusedVariables false
set_option linter.unusedSimpArgs false
set_option linter.unusedVariables false
set_option linter.unusedSimpArgs false
open Go.RowKit Go.Shelf
attribute [local go_sem] Oper.semAt_some

theorem miss1_any (x : Int) (w : World) (hx : 0 ≤ x) : Calls Tryz.prog 154 #[.int .i64 x] w fun e w' => e = .returned (.bool false) ∧ w' = w := by
  have hd : decide (x < 0) = false := decide_eq_false (by omega)
  go_enter Tryz.func154, Tryz.ntmps154
  go_wp2
  go_ret
  exact ⟨rfl, rfl⟩
set_option maxHeartbeats 4000000 in
theorem indexV_none (A : Option Addr) (c : Nat) (l : List Int) (w : World) (hA : Rd EInt w A l) (hmax : l.length ≤ 1000000) (hno : ∀ x ∈ l, 0 ≤ x) :
    Calls Tryz.prog 233 #[.slice A l.length c, .func (.func 154) #[] #[]] w fun e w' => e = .returned (.int .i64 (-1)) ∧ w' = w := by
  have hen : ∀ args w, (callFunc 154 args).run Tryz.prog w = .ok (.enter 154 args) w := enters_of Tryz.func154 (by kernel_rfl) rfl
  have HN := Lib.hid hno
  clear hno
  go_enter Tryz.func233, Tryz.ntmps233
  go_wp2
  go_loopg [8] l.length (fun n i wr => ∃ k : Nat, k + n = l.length ∧ i = .int .i64 k ∧ wr = w)
  case atStart => exact ⟨0, by omega, by go_num, rfl⟩
  case round =>
    obtain ⟨k, hkn, rfl, rfl⟩ := hrel
    have Hkn := Lib.hid hkn
    by_cases hlt : k < l.length
    · obtain ⟨b, o, rfl, hb, c0⟩ := hA.int hlt
      have hpx := HN.out _ (List.getElem_mem hlt)
      generalize l[k] = x at *
      clear hkn
      go_wp2_with fail
      refine (miss1_any x _ hpx).mono ?_
      rintro e w1 ⟨rfl, rfl⟩
      go_wp2
      go_roundg (gk - 1)
      case measure => have := Hkn.out; omega
      case rel => exact ⟨k + 1, by have := Hkn.out; omega, by go_num, rfl⟩
    · go_wp2
      go_ret
      exact ⟨rfl, rfl⟩
set_option maxHeartbeats 1000000 in
theorem containsV_none (A : Option Addr) (c : Nat) (l : List Int) (w : World) (hA : Rd EInt w A l) (hmax : l.length ≤ 1000000) (hno : ∀ x ∈ l, 0 ≤ x) :
    Calls Tryz.prog 153 #[.slice A l.length c, .func (.func 154) #[] #[]] w fun e w' => e = .returned (.bool false) ∧ w' = w := by
  go_enter Tryz.func153, Tryz.ntmps153
  go_wp2_with fail
  refine (indexV_none A c l w hA hmax hno).mono ?_
  rintro e w1 ⟨rfl, rfl⟩
  go_wp2
  go_ret
  exact ⟨rfl, rfl⟩
theorem unknown_any (n : Int) (A : Option Addr) (cc : Nat) (l : List Chg) (B : Option Addr) (nv cv : Nat) (w : World) :
    Calls Tryz.prog 156 #[.agg #[.int .i64 n, .slice A l.length cc], .slice B nv cv] w fun e w' => ∃ g v, e = .returned (.func (.func 235) #[] #[.pointer (some ⟨g, 0, none⟩), .pointer (some ⟨v, 0, none⟩)]) ∧ w.heap.size ≤ g ∧ g < v ∧ Blk w' g 56 #[.int .i64 n, .slice A l.length cc] ∧ Blk w' v 162 #[.slice B nv cv] ∧ Ext w w' := by
  obtain ⟨W1, hW1, hB1, hk1, hl1⟩ := box1 w #[.int .i64 n, .slice A l.length cc] 56
  obtain ⟨W2, hW2, hB2, hk2, hl2⟩ := box1 W1 #[.slice B nv cv] 162
  have y1 := hk1.lt
  go_enter Tryz.func156, Tryz.ntmps156
  go_wp2
  clear hW1 hW2
  go_ret
  exact ⟨_, _, rfl, Nat.le_refl _, y1, hk1.ext hB2, hk2, hB1.trans hB2⟩
end Go.Proofs.YtemkpimngbbpkaaGreat

namespace Go.Proofs.YtemkpimngbbpkaaGreat
set_option linter.unusedVariables false
set_option linter.unusedSimpArgs false
set_option linter.unusedVariables false
set_option linter.unusedSimpArgs false
open Go.RowKit Go.Shelf
attribute [local go_sem] Oper.semAt_some

set_option maxHeartbeats 8000000 in
theorem chkId_any (a b c d t : Int) (w : World) :
    Calls Tryz.prog 173 #[.agg #[.int .i64 a, .int .i64 b, .int .i64 c, .int .i64 d, .int .i64 t]] w fun e w' => e = .returned (.int .i64 (idE a b c d t)) ∧ Ext w w' := by
  obtain ⟨W, hW, hB, hk, hlt⟩ := box1 w #[.int .i64 a, .int .i64 b, .int .i64 c, .int .i64 d, .int .i64 t] 24
  have hc := hk.cell
  have f1 := fun w => buWithin_any a 0 15 w
  have f2 := fun w => buWithin_any b 0 1099511627776 w
  have f3 := fun w => buWithin_any c 0 1099511627776 w
  have f4 := fun w => buWithin_any t 1 4096 w
  have f5 := fun w => buWithin_any d 0 (t - 1) w
  obtain ⟨v, hv⟩ : ∃ v, idE a b c d t = v := ⟨_, rfl⟩
  have HV := Lib.hid hv
  rw [hv]
  clear hv
  by_cases x1 : 0 ≤ a ∧ a ≤ 15
  case neg =>
    rw [decide_eq_false x1] at f1
    have HX := Lib.hid (show v = 2 by rw [← HV.out]; unfold idE; rw [if_pos (by omega)])
    go_enter Tryz.func173, Tryz.ntmps173
    go_wp2_with fail
    refine (f1 _).mono ?_
    rintro e w1 ⟨rfl, rfl⟩
    go_wp2
    go_ret
    exact ⟨by rw [HX.out]; rfl, hB⟩
  rw [decide_eq_true x1] at f1
  by_cases x2 : 0 ≤ b ∧ b ≤ 1099511627776
  case neg =>
    rw [decide_eq_false x2] at f2
    have HX := Lib.hid (show v = 2 by rw [← HV.out]; unfold idE; rw [if_pos (by omega)])
    go_enter Tryz.func173, Tryz.ntmps173
    go_wp2_with fail
    refine (f1 _).mono ?_
    rintro e w1 ⟨rfl, rfl⟩
    go_wp2_with fail
    refine (f2 _).mono ?_
    rintro e w1 ⟨rfl, rfl⟩
    go_wp2
    go_ret
    exact ⟨by rw [HX.out]; rfl, hB⟩
  rw [decide_eq_true x2] at f2
  by_cases x3 : 0 ≤ c ∧ c ≤ 1099511627776
  case neg =>
    rw [decide_eq_false x3] at f3
    have HX := Lib.hid (show v = 2 by rw [← HV.out]; unfold idE; rw [if_pos (by omega)])
    go_enter Tryz.func173, Tryz.ntmps173
    go_wp2_with fail
    refine (f1 _).mono ?_
    rintro e w1 ⟨rfl, rfl⟩
    go_wp2_with fail
    refine (f2 _).mono ?_
    rintro e w1 ⟨rfl, rfl⟩
    go_wp2_with fail
    refine (f3 _).mono ?_
    rintro e w1 ⟨rfl, rfl⟩
    go_wp2
    go_ret
    exact ⟨by rw [HX.out]; rfl, hB⟩
  rw [decide_eq_true x3] at f3
  by_cases y1 : d = 0 ∧ t = 0
  case pos =>
    obtain ⟨rfl, rfl⟩ := y1
    have HX := Lib.hid (show v = 0 by rw [← HV.out]; unfold idE; rw [if_neg (by omega), if_pos ⟨rfl, rfl⟩])
    go_enter Tryz.func173, Tryz.ntmps173
    go_wp2_with fail
    refine (f1 _).mono ?_
    rintro e w1 ⟨rfl, rfl⟩
    go_wp2_with fail
    refine (f2 _).mono ?_
    rintro e w1 ⟨rfl, rfl⟩
    go_wp2_with fail
    refine (f3 _).mono ?_
    rintro e w1 ⟨rfl, rfl⟩
    go_wp2
    go_ret
    exact ⟨by rw [HX.out]; rfl, hB⟩
  have y2 : (d == 0) = false ∨ ((d == 0) = true ∧ (t == 0) = false) := by
    simp only [beq_eq_false_iff_ne, beq_iff_eq, ne_eq]
    omega
  by_cases x4 : 1 ≤ t ∧ t ≤ 4096
  case neg =>
    rw [decide_eq_false x4] at f4
    rcases y2 with y2 | ⟨y2, y3⟩
    · have HX := Lib.hid (show v = 2 by rw [← HV.out]; unfold idE; rw [if_neg (by omega), if_neg y1, if_pos (by omega)])
      go_enter Tryz.func173, Tryz.ntmps173
      go_wp2_with fail
      refine (f1 _).mono ?_
      rintro e w1 ⟨rfl, rfl⟩
      go_wp2_with fail
      refine (f2 _).mono ?_
      rintro e w1 ⟨rfl, rfl⟩
      go_wp2_with fail
      refine (f3 _).mono ?_
      rintro e w1 ⟨rfl, rfl⟩
      go_wp2_with fail
      refine (f4 _).mono ?_
      rintro e w1 ⟨rfl, rfl⟩
      go_wp2
      go_ret
      exact ⟨by rw [HX.out]; rfl, hB⟩
    · have HX := Lib.hid (show v = 2 by rw [← HV.out]; unfold idE; rw [if_neg (by omega), if_neg y1, if_pos (by omega)])
      go_enter Tryz.func173, Tryz.ntmps173
      go_wp2_with fail
      refine (f1 _).mono ?_
      rintro e w1 ⟨rfl, rfl⟩
      go_wp2_with fail
      refine (f2 _).mono ?_
      rintro e w1 ⟨rfl, rfl⟩
      go_wp2_with fail
      refine (f3 _).mono ?_
      rintro e w1 ⟨rfl, rfl⟩
      go_wp2_with fail
      refine (f4 _).mono ?_
      rintro e w1 ⟨rfl, rfl⟩
      go_wp2
      go_ret
      exact ⟨by rw [HX.out]; rfl, hB⟩
  rw [decide_eq_true x4] at f4
  by_cases x5 : 0 ≤ d ∧ d ≤ t - 1
  case neg =>
    rw [decide_eq_false x5] at f5
    rcases y2 with y2 | ⟨y2, y3⟩
    · have HX := Lib.hid (show v = 2 by rw [← HV.out]; unfold idE; rw [if_neg (by omega), if_neg y1, if_pos (by omega)])
      go_enter Tryz.func173, Tryz.ntmps173
      go_wp2_with fail
      refine (f1 _).mono ?_
      rintro e w1 ⟨rfl, rfl⟩
      go_wp2_with fail
      refine (f2 _).mono ?_
      rintro e w1 ⟨rfl, rfl⟩
      go_wp2_with fail
      refine (f3 _).mono ?_
      rintro e w1 ⟨rfl, rfl⟩
      go_wp2_with fail
      refine (f4 _).mono ?_
      rintro e w1 ⟨rfl, rfl⟩
      go_wp2_with fail
      refine (f5 _).mono ?_
      rintro e w1 ⟨rfl, rfl⟩
      go_wp2
      go_ret
      exact ⟨by rw [HX.out]; rfl, hB⟩
    · have HX := Lib.hid (show v = 2 by rw [← HV.out]; unfold idE; rw [if_neg (by omega), if_neg y1, if_pos (by omega)])
      go_enter Tryz.func173, Tryz.ntmps173
      go_wp2_with fail
      refine (f1 _).mono ?_
      rintro e w1 ⟨rfl, rfl⟩
      go_wp2_with fail
      refine (f2 _).mono ?_
      rintro e w1 ⟨rfl, rfl⟩
      go_wp2_with fail
      refine (f3 _).mono ?_
      rintro e w1 ⟨rfl, rfl⟩
      go_wp2_with fail
      refine (f4 _).mono ?_
      rintro e w1 ⟨rfl, rfl⟩
      go_wp2_with fail
      refine (f5 _).mono ?_
      rintro e w1 ⟨rfl, rfl⟩
      go_wp2
      go_ret
      exact ⟨by rw [HX.out]; rfl, hB⟩
  rw [decide_eq_true x5] at f5
  rcases y2 with y2 | ⟨y2, y3⟩
  · have HX := Lib.hid (show v = 0 by rw [← HV.out]; unfold idE; rw [if_neg (by omega), if_neg y1, if_neg (by omega)])
    go_enter Tryz.func173, Tryz.ntmps173
    go_wp2_with fail
    refine (f1 _).mono ?_
    rintro e w1 ⟨rfl, rfl⟩
    go_wp2_with fail
    refine (f2 _).mono ?_
    rintro e w1 ⟨rfl, rfl⟩
    go_wp2_with fail
    refine (f3 _).mono ?_
    rintro e w1 ⟨rfl, rfl⟩
    go_wp2_with fail
    refine (f4 _).mono ?_
    rintro e w1 ⟨rfl, rfl⟩
    go_wp2_with fail
    refine (f5 _).mono ?_
    rintro e w1 ⟨rfl, rfl⟩
    go_wp2
    go_ret
    exact ⟨by rw [HX.out]; rfl, hB⟩
  · have HX := Lib.hid (show v = 0 by rw [← HV.out]; unfold idE; rw [if_neg (by omega), if_neg y1, if_neg (by omega)])
    go_enter Tryz.func173, Tryz.ntmps173
    go_wp2_with fail
    refine (f1 _).mono ?_
    rintro e w1 ⟨rfl, rfl⟩
    go_wp2_with fail
    refine (f2 _).mono ?_
    rintro e w1 ⟨rfl, rfl⟩
    go_wp2_with fail
    refine (f3 _).mono ?_
    rintro e w1 ⟨rfl, rfl⟩
    go_wp2_with fail
    refine (f4 _).mono ?_
    rintro e w1 ⟨rfl, rfl⟩
    go_wp2_with fail
    refine (f5 _).mono ?_
    rintro e w1 ⟨rfl, rfl⟩
    go_wp2
    go_ret
    exact ⟨by rw [HX.out]; rfl, hB⟩

end Go.Proofs.YtemkpimngbbpkaaGreat
