/- Update: valid, follows. -/
import Derived.Test.YtemkpimngbbpkaaGreatQc07
namespace Go.Proofs.YtemkpimngbbpkaaGreat
set_option linter.unusedVariables false
set_option linter.unusedSimpArgs false
open Go.RowKit Go.Shelf
attribute [local go_sem] Oper.semAt_some
set_option maxRecDepth 100000 in
set_option maxHeartbeats 8000000 in
theorem vChg_any (n : Int) (x : Chg) (w : World) :
 Calls Tryz.prog 58 #[.int .i64 n, .agg x.arr] w fun e w' => e = .returned (.bool (x.ok n)) /\ Ext w w' := by
 have fv := fun w => vCon_any n x w
 obtain ⟨v, hv⟩ : ∃ v, x.ok n = v := ⟨_, rfl⟩
 rw [hv]
 unfold Chg.ok at hv
 obtain ⟨ck, hck⟩ : ∃ ck, x.cok n = ck := ⟨_, rfl⟩
 rw [hck] at fv hv
 have HV := Lib.hid hv
 unfold Chg.arr at fv ⊢
 obtain ⟨W1, hW1, hB1, hk1, hl1⟩ := box1 w #[.int .i64 x.org, .int .i64 x.cnt, .int .i64 x.stp, .int .i64 x.kind, .int .i64 x.con.src, .int .i64 x.con.dst, .int .i64 x.con.st, .int .i64 x.con.en, .int .i64 x.con.rate, .int .i64 x.con.rng, .int .i64 x.con.loss] 63
 have c1 := hk1.cell
 clear hv hck
 generalize x.org = org at *
 generalize x.cnt = cnt at *
 generalize x.stp = stp at *
 generalize x.kind = kind at *
 by_cases t0 : 0 <= org
 case neg =>
  have HX := Lib.hid (show v = false by rw [<- HV.out, decide_eq_false (fun h => t0 h.1)]; rfl)
  clear fv
  go_enter Tryz.func58, Tryz.ntmps58
  go_wp2
  go_ret
  exact ⟨by rw [HX.out]; rfl, hB1⟩
 by_cases t1 : org < n
 case neg =>
  have HX := Lib.hid (show v = false by rw [<- HV.out, decide_eq_false (fun h => t1 h.2.1)]; rfl)
  clear fv
  go_enter Tryz.func58, Tryz.ntmps58
  go_wp2
  go_ret
  exact ⟨by rw [HX.out]; rfl, hB1⟩
 by_cases t2 : 1 <= cnt
 case neg =>
  have HX := Lib.hid (show v = false by rw [<- HV.out, decide_eq_false (fun h => t2 h.2.2.1)]; rfl)
  clear fv
  go_enter Tryz.func58, Tryz.ntmps58
  go_wp2
  go_ret
  exact ⟨by rw [HX.out]; rfl, hB1⟩
 by_cases t3 : 1 <= stp
 case neg =>
  have HX := Lib.hid (show v = false by rw [<- HV.out, decide_eq_false (fun h => t3 h.2.2.2.1)]; rfl)
  clear fv
  go_enter Tryz.func58, Tryz.ntmps58
  go_wp2
  go_ret
  exact ⟨by rw [HX.out]; rfl, hB1⟩
 by_cases t4 : stp <= 1099511627776
 case neg =>
  have HX := Lib.hid (show v = false by rw [<- HV.out, decide_eq_false (fun h => t4 h.2.2.2.2)]; rfl)
  clear fv
  go_enter Tryz.func58, Tryz.ntmps58
  go_wp2
  go_ret
  exact ⟨by rw [HX.out]; rfl, hB1⟩
 have HX := Lib.hid (show v = ck by rw [<- HV.out, decide_eq_true (show 0 <= org /\ org < n /\ 1 <= cnt /\ 1 <= stp /\ stp <= 1099511627776 from ⟨t0, t1, t2, t3, t4⟩)]; rfl)
 go_enter Tryz.func58, Tryz.ntmps58
 go_wp2_with fail
 clear hW1
 refine (fv _).mono ?_
 rintro e w2 ⟨rfl, hb2⟩
 go_wp2
 go_ret
 exact ⟨by rw [HX.out]; rfl, hB1.trans hb2⟩
theorem fol_none (x : Chg) (w : World) :
 Calls Tryz.prog 75 #[.pointer none, .agg x.arr] w fun e w' => e = .returned (.int .i64 (folE none x)) /\ Ext w w' := by
 obtain ⟨v, hv⟩ : ∃ v, folE none x = v := ⟨_, rfl⟩
 rw [hv]
 unfold folE at hv
 dsimp only at hv
 have HV := Lib.hid hv
 unfold Chg.arr
 obtain ⟨W1, hW1, hB1, hk1, hl1⟩ := box1 w #[.int .i64 x.org, .int .i64 x.cnt, .int .i64 x.stp, .int .i64 x.kind, .int .i64 x.con.src, .int .i64 x.con.dst, .int .i64 x.con.st, .int .i64 x.con.en, .int .i64 x.con.rate, .int .i64 x.con.rng, .int .i64 x.con.loss] 63
 have c1 := hk1.cell
 clear hv
 generalize x.org = org at *
 generalize x.cnt = cnt at *
 by_cases h : cnt = 1
 ·have hb : (cnt != 1) = false := by rw [bne_eq_false_iff_eq]; exact h
  have HX := Lib.hid (show v = 0 by rw [<- HV.out, if_pos h])
  clear h
  go_enter Tryz.func75, Tryz.ntmps75
  go_wp2_with fail
  clear hW1
  go_region
  go_wp2_with fail
  go_region
  go_wp2_with fail
  go_region
  go_wp2_with fail
  go_region
  go_wp2
  go_ret
  exact ⟨by rw [HX.out]; rfl, (((hB1.drew).drew).drew).drew⟩
 ·have hb : (cnt != 1) = true := by rw [bne_iff_ne]; exact h
  have HX := Lib.hid (show v = 25 by rw [<- HV.out, if_neg h])
  clear h
  go_enter Tryz.func75, Tryz.ntmps75
  go_wp2_with fail
  clear hW1
  go_region
  go_wp2_with fail
  go_region
  go_wp2_with fail
  go_region
  go_wp2
  go_ret
  exact ⟨by rw [HX.out]; rfl, ((hB1.drew).drew).drew⟩
end Go.Proofs.YtemkpimngbbpkaaGreat
