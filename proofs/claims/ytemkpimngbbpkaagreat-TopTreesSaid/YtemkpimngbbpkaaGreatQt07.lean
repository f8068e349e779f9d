/- Update: valid, follows. · Security: what makes a bundle valid: the small checks. · Security: block.Check. · Security: bundle.checkId. -/
import Derived.BigRegion
import Derived.Test.YtemkpimngbbpkaaGreatQt01
import Derived.Test.YtemkpimngbbpkaaGreatQt04
import Derived.Test.YtemkpimngbbpkaaGreatQt06
namespace Go.Proofs.YtemkpimngbbpkaaGreat
set_option linter.unusedVariables false
set_option linter.unusedSimpArgs false
section
open Go.RowKit Go.Shelf
attribute [local go_sem] Oper.semAt_some
set_option maxRecDepth 100000 in
set_option maxHeartbeats 8000000 in
theorem vChg_any (n : Int) (x : Chg) (w : World) :
 Calls Tryz.prog 58 #[.int .i64 n, .agg x.arr] w fun e w' => e = .returned (.bool (x.ok n)) /\ Ext w w' := by
 have fv := fun w => vCon_any n x w
 obtain ⟨v, hv⟩ : ∃ v, x.ok n = v := ⟨_, rfl⟩
 rw [hv]
 unfold Chg.ok at hv
 obtain ⟨ck, hck⟩ : ∃ ck, x.cok n = ck := ⟨_, rfl⟩
 rw [hck] at fv hv
 have HV := Lib.hid hv
 unfold Chg.arr at fv ⊢
 obtain ⟨W1, hW1, hB1, hk1, hl1⟩ := box1 w #[.int .i64 x.org, .int .i64 x.cnt, .int .i64 x.stp, .int .i64 x.kind, .int .i64 x.con.src, .int .i64 x.con.dst, .int .i64 x.con.st, .int .i64 x.con.en, .int .i64 x.con.rate, .int .i64 x.con.rng, .int .i64 x.con.loss] 63
 have c1 := hk1.cell
 clear hv hck
 generalize x.org = org at *
 generalize x.cnt = cnt at *
 generalize x.stp = stp at *
 generalize x.kind = kind at *
 by_cases t0 : 0 <= org
 case neg =>
  have HX := Lib.hid (show v = false by rw [<- HV.out, decide_eq_false (fun h => t0 h.1)]; rfl)
  clear fv
  go_enter Tryz.func58, Tryz.ntmps58
  go_wp2
  go_ret
  exact ⟨by rw [HX.out]; rfl, hB1⟩
 by_cases t1 : org < n
 case neg =>
  have HX := Lib.hid (show v = false by rw [<- HV.out, decide_eq_false (fun h => t1 h.2.1)]; rfl)
  clear fv
  go_enter Tryz.func58, Tryz.ntmps58
  go_wp2
  go_ret
  exact ⟨by rw [HX.out]; rfl, hB1⟩
 by_cases t2 : 1 <= cnt
 case neg =>
  have HX := Lib.hid (show v = false by rw [<- HV.out, decide_eq_false (fun h => t2 h.2.2.1)]; rfl)
  clear fv
  go_enter Tryz.func58, Tryz.ntmps58
  go_wp2
  go_ret
  exact ⟨by rw [HX.out]; rfl, hB1⟩
 by_cases t3 : 1 <= stp
 case neg =>
  have HX := Lib.hid (show v = false by rw [<- HV.out, decide_eq_false (fun h => t3 h.2.2.2.1)]; rfl)
  clear fv
  go_enter Tryz.func58, Tryz.ntmps58
  go_wp2
  go_ret
  exact ⟨by rw [HX.out]; rfl, hB1⟩
 by_cases t4 : stp <= 1099511627776
 case neg =>
  have HX := Lib.hid (show v = false by rw [<- HV.out, decide_eq_false (fun h => t4 h.2.2.2.2)]; rfl)
  clear fv
  go_enter Tryz.func58, Tryz.ntmps58
  go_wp2
  go_ret
  exact ⟨by rw [HX.out]; rfl, hB1⟩
 have HX := Lib.hid (show v = ck by rw [<- HV.out, decide_eq_true (show 0 <= org /\ org < n /\ 1 <= cnt /\ 1 <= stp /\ stp <= 1099511627776 from ⟨t0, t1, t2, t3, t4⟩)]; rfl)
 go_enter Tryz.func58, Tryz.ntmps58
 go_wp2_with fail
 clear hW1
 refine (fv _).mono ?_
 rintro e w2 ⟨rfl, hb2⟩
 go_wp2
 go_ret
 exact ⟨by rw [HX.out]; rfl, hB1.trans hb2⟩
theorem fol_none (x : Chg) (w : World) :
 Calls Tryz.prog 75 #[.pointer none, .agg x.arr] w fun e w' => e = .returned (.int .i64 (folE none x)) /\ Ext w w' := by
 obtain ⟨v, hv⟩ : ∃ v, folE none x = v := ⟨_, rfl⟩
 rw [hv]
 unfold folE at hv
 dsimp only at hv
 have HV := Lib.hid hv
 unfold Chg.arr
 obtain ⟨W1, hW1, hB1, hk1, hl1⟩ := box1 w #[.int .i64 x.org, .int .i64 x.cnt, .int .i64 x.stp, .int .i64 x.kind, .int .i64 x.con.src, .int .i64 x.con.dst, .int .i64 x.con.st, .int .i64 x.con.en, .int .i64 x.con.rate, .int .i64 x.con.rng, .int .i64 x.con.loss] 63
 have c1 := hk1.cell
 clear hv
 generalize x.org = org at *
 generalize x.cnt = cnt at *
 by_cases h : cnt = 1
 ·have hb : (cnt != 1) = false := by rw [bne_eq_false_iff_eq]; exact h
  have HX := Lib.hid (show v = 0 by rw [<- HV.out, if_pos h])
  clear h
  go_enter Tryz.func75, Tryz.ntmps75
  go_wp2_with fail
  clear hW1
  go_region
  go_wp2_with fail
  go_region
  go_wp2_with fail
  go_region
  go_wp2_with fail
  go_region
  go_wp2
  go_ret
  exact ⟨by rw [HX.out]; rfl, (((hB1.drew).drew).drew).drew⟩
 ·have hb : (cnt != 1) = true := by rw [bne_iff_ne]; exact h
  have HX := Lib.hid (show v = 25 by rw [<- HV.out, if_neg h])
  clear h
  go_enter Tryz.func75, Tryz.ntmps75
  go_wp2_with fail
  clear hW1
  go_region
  go_wp2_with fail
  go_region
  go_wp2_with fail
  go_region
  go_wp2
  go_ret
  exact ⟨by rw [HX.out]; rfl, ((hB1.drew).drew).drew⟩
end
section
open Go.RowKit Go.Shelf
attribute [local go_sem] Oper.semAt_some
def epE (k n : Int) : Int := if k = 1 then (if n < 0 ∨ 16 <= n then 2 else 0) else if k = 2 then (if n < 0 ∨ 8 <= n then 2 else 0) else 8
set_option maxHeartbeats 2000000 in
theorem ep_any (k n : Int) (w : World) :
 Calls Tryz.prog 174 #[.agg #[.int .i64 k, .int .i64 n]] w fun e w' => e = .returned (.int .i64 (epE k n)) /\ Ext w w' := by
 obtain ⟨W, hW, hB, hk, hlt⟩ := box1 w #[.int .i64 k, .int .i64 n] 26
 have hc := hk.cell
 by_cases h1 : k = 1
 ·subst h1
  by_cases hn : n < 0
  ·have HV := Lib.hid (show epE 1 n = 2 by unfold epE; rw [if_pos rfl, if_pos (by omega)])
   go_enter Tryz.func174, Tryz.ntmps174
   go_wp2
   go_ret
   exact ⟨by rw [HV.out]; rfl, hB⟩
  ·by_cases hn2 : 16 <= n
   ·have HV := Lib.hid (show epE 1 n = 2 by unfold epE; rw [if_pos rfl, if_pos (by omega)])
    go_enter Tryz.func174, Tryz.ntmps174
    go_wp2
    go_ret
    exact ⟨by rw [HV.out]; rfl, hB⟩
   ·have HV := Lib.hid (show epE 1 n = 0 by unfold epE; rw [if_pos rfl, if_neg (by omega)])
    go_enter Tryz.func174, Tryz.ntmps174
    go_wp2
    go_ret
    exact ⟨by rw [HV.out]; rfl, hB⟩
 ·have b1 : (k == 1) = false := by rw [beq_eq_false_iff_ne]; exact h1
  by_cases h2 : k = 2
  ·subst h2
   by_cases hn : n < 0
   ·have HV := Lib.hid (show epE 2 n = 2 by unfold epE; rw [if_neg (by omega), if_pos rfl, if_pos (by omega)])
    go_enter Tryz.func174, Tryz.ntmps174
    go_wp2
    go_ret
    exact ⟨by rw [HV.out]; rfl, hB⟩
   ·by_cases hn2 : 8 <= n
    ·have HV := Lib.hid (show epE 2 n = 2 by unfold epE; rw [if_neg (by omega), if_pos rfl, if_pos (by omega)])
     go_enter Tryz.func174, Tryz.ntmps174
     go_wp2
     go_ret
     exact ⟨by rw [HV.out]; rfl, hB⟩
    ·have HV := Lib.hid (show epE 2 n = 0 by unfold epE; rw [if_neg (by omega), if_pos rfl, if_neg (by omega)])
     go_enter Tryz.func174, Tryz.ntmps174
     go_wp2
     go_ret
     exact ⟨by rw [HV.out]; rfl, hB⟩
  ·have b2 : (k == 2) = false := by rw [beq_eq_false_iff_ne]; exact h2
   have HV := Lib.hid (show epE k n = 8 by unfold epE; rw [if_neg h1, if_neg h2])
   go_enter Tryz.func174, Tryz.ntmps174
   go_wp2
   go_ret
   exact ⟨by rw [HV.out]; rfl, hB⟩
set_option maxHeartbeats 1000000 in
theorem buWithin_any (n lo hi : Int) (w : World) :
 Calls Tryz.prog 175 #[.int .i64 n, .int .i64 lo, .int .i64 hi] w fun e w' => e = .returned (.bool (decide (lo <= n /\ n <= hi))) /\ w = w' := by
 by_cases h1 : lo <= n
 ·by_cases h2 : n <= hi
  ·rw [decide_eq_true (show lo <= n /\ n <= hi from ⟨h1, h2⟩)]
   go_enter Tryz.func175, Tryz.ntmps175
   go_wp2
   go_ret
   exact ⟨rfl, rfl⟩
  ·rw [decide_eq_false (show ¬ (lo <= n /\ n <= hi) from fun h => h2 h.2)]
   go_enter Tryz.func175, Tryz.ntmps175
   go_wp2
   go_ret
   exact ⟨rfl, rfl⟩
 ·rw [decide_eq_false (show ¬ (lo <= n /\ n <= hi) from fun h => h1 h.1)]
  go_enter Tryz.func175, Tryz.ntmps175
  go_wp2
  go_ret
  exact ⟨rfl, rfl⟩
def idE (a b c d e : Int) : Int := if ¬ (0 <= a /\ a <= 15) ∨ ¬ (0 <= b /\ b <= 1099511627776) ∨ ¬ (0 <= c /\ c <= 1099511627776) then 2 else if d = 0 /\ e = 0 then 0 else if ¬ (1 <= e /\ e <= 4096) ∨ ¬ (0 <= d /\ d <= e - 1) then 2 else 0
end
section
open Go.RowKit Go.Shelf
attribute [local go_sem] Oper.semAt_some
def Bl.err (b : Bl) : Int := if b.kind < 1 ∨ 255 < b.kind then 8 else if b.flags < 0 ∨ 15 < b.flags then 2 else if 1024 < b.data.length then 4 else 0
set_option maxHeartbeats 4000000 in
theorem blChk_any (b : Bl) (w : World) :
 Calls Tryz.prog 131 #[.agg #[.int .i64 b.kind, .int .i64 b.flags, strV b.data]] w fun e w' => e = .returned (.int .i64 b.err) /\ Ext w w' := by
 obtain ⟨sv, hsv, hsz⟩ : ∃ sv : ByteArray, ⟨b.data.toArray⟩ = sv /\ sv.size = b.data.length := ⟨_, rfl, by show b.data.toArray.size = b.data.length; simp⟩
 unfold strV
 rw [hsv]
 clear hsv
 obtain ⟨W, hW, hB, hk, hlt⟩ := box1 w #[.int .i64 b.kind, .int .i64 b.flags, .string sv] 116
 have hc := hk.cell
 obtain ⟨v, hv⟩ : ∃ v, b.err = v := ⟨_, rfl⟩
 have HV := Lib.hid hv
 rw [hv]
 clear hv
 obtain ⟨kd, fl, dt⟩ := b
 dsimp only at *
 generalize hln : dt.length = ln at *
 have HL := Lib.hid hln
 clear hln
 have hs0 : 0 <= (ln : Int) := by omega
 by_cases h1 : kd < 1
 ·have HX := Lib.hid (show v = 8 by rw [<- HV.out]; unfold Bl.err; dsimp only; rw [if_pos (by omega)])
  go_enter Tryz.func131, Tryz.ntmps131
  go_wp2
  go_ret
  exact ⟨by rw [HX.out]; rfl, hB⟩
 by_cases h2 : 255 < kd
 ·have HX := Lib.hid (show v = 8 by rw [<- HV.out]; unfold Bl.err; dsimp only; rw [if_pos (by omega)])
  go_enter Tryz.func131, Tryz.ntmps131
  go_wp2
  go_ret
  exact ⟨by rw [HX.out]; rfl, hB⟩
 by_cases h3 : fl < 0
 ·have HX := Lib.hid (show v = 2 by rw [<- HV.out]; unfold Bl.err; dsimp only; rw [if_neg (by omega), if_pos (by omega)])
  go_enter Tryz.func131, Tryz.ntmps131
  go_wp2
  go_ret
  exact ⟨by rw [HX.out]; rfl, hB⟩
 by_cases h4 : 15 < fl
 ·have HX := Lib.hid (show v = 2 by rw [<- HV.out]; unfold Bl.err; dsimp only; rw [if_neg (by omega), if_pos (by omega)])
  go_enter Tryz.func131, Tryz.ntmps131
  go_wp2
  go_ret
  exact ⟨by rw [HX.out]; rfl, hB⟩
 by_cases h5 : 1024 < ln
 ·have HX := Lib.hid (show v = 4 by rw [<- HV.out]; unfold Bl.err; dsimp only; rw [if_neg (by omega), if_neg (by omega), if_pos (by rw [HL.out]; exact h5)])
  go_enter Tryz.func131, Tryz.ntmps131
  go_wp2
  go_ret
  exact ⟨by rw [HX.out]; rfl, hB⟩
 have HX := Lib.hid (show v = 0 by rw [<- HV.out]; unfold Bl.err; dsimp only; rw [if_neg (by omega), if_neg (by omega), if_neg (by rw [HL.out]; exact h5)])
 go_enter Tryz.func131, Tryz.ntmps131
 go_wp2
 go_ret
 exact ⟨by rw [HX.out]; rfl, hB⟩
end
section
open Go.RowKit Go.Shelf
attribute [local go_sem] Oper.semAt_some
set_option maxHeartbeats 8000000 in
theorem chkId_any (a b c d t : Int) (w : World) :
 Calls Tryz.prog 173 #[.agg #[.int .i64 a, .int .i64 b, .int .i64 c, .int .i64 d, .int .i64 t]] w fun e w' => e = .returned (.int .i64 (idE a b c d t)) /\ Ext w w' := by
 obtain ⟨W, hW, hB, hk, hlt⟩ := box1 w #[.int .i64 a, .int .i64 b, .int .i64 c, .int .i64 d, .int .i64 t] 24
 have hc := hk.cell
 have f1 := fun w => buWithin_any a 0 15 w
 have f2 := fun w => buWithin_any b 0 1099511627776 w
 have f3 := fun w => buWithin_any c 0 1099511627776 w
 have f4 := fun w => buWithin_any t 1 4096 w
 have f5 := fun w => buWithin_any d 0 (t - 1) w
 obtain ⟨v, hv⟩ : ∃ v, idE a b c d t = v := ⟨_, rfl⟩
 have HV := Lib.hid hv
 rw [hv]
 clear hv
 by_cases x1 : 0 <= a /\ a <= 15
 case neg =>
  rw [decide_eq_false x1] at f1
  have HX := Lib.hid (show v = 2 by rw [<- HV.out]; unfold idE; rw [if_pos (by omega)])
  go_enter Tryz.func173, Tryz.ntmps173
  go_wp2_with fail
  refine (f1 _).mono ?_
  rintro e w1 ⟨rfl, rfl⟩
  go_wp2
  go_ret
  exact ⟨by rw [HX.out]; rfl, hB⟩
 rw [decide_eq_true x1] at f1
 by_cases x2 : 0 <= b /\ b <= 1099511627776
 case neg =>
  rw [decide_eq_false x2] at f2
  have HX := Lib.hid (show v = 2 by rw [<- HV.out]; unfold idE; rw [if_pos (by omega)])
  go_enter Tryz.func173, Tryz.ntmps173
  go_wp2_with fail
  refine (f1 _).mono ?_
  rintro e w1 ⟨rfl, rfl⟩
  go_wp2_with fail
  refine (f2 _).mono ?_
  rintro e w1 ⟨rfl, rfl⟩
  go_wp2
  go_ret
  exact ⟨by rw [HX.out]; rfl, hB⟩
 rw [decide_eq_true x2] at f2
 by_cases x3 : 0 <= c /\ c <= 1099511627776
 case neg =>
  rw [decide_eq_false x3] at f3
  have HX := Lib.hid (show v = 2 by rw [<- HV.out]; unfold idE; rw [if_pos (by omega)])
  go_enter Tryz.func173, Tryz.ntmps173
  go_wp2_with fail
  refine (f1 _).mono ?_
  rintro e w1 ⟨rfl, rfl⟩
  go_wp2_with fail
  refine (f2 _).mono ?_
  rintro e w1 ⟨rfl, rfl⟩
  go_wp2_with fail
  refine (f3 _).mono ?_
  rintro e w1 ⟨rfl, rfl⟩
  go_wp2
  go_ret
  exact ⟨by rw [HX.out]; rfl, hB⟩
 rw [decide_eq_true x3] at f3
 by_cases y1 : d = 0 /\ t = 0
 case pos =>
  obtain ⟨rfl, rfl⟩ := y1
  have HX := Lib.hid (show v = 0 by rw [<- HV.out]; unfold idE; rw [if_neg (by omega), if_pos ⟨rfl, rfl⟩])
  go_enter Tryz.func173, Tryz.ntmps173
  go_wp2_with fail
  refine (f1 _).mono ?_
  rintro e w1 ⟨rfl, rfl⟩
  go_wp2_with fail
  refine (f2 _).mono ?_
  rintro e w1 ⟨rfl, rfl⟩
  go_wp2_with fail
  refine (f3 _).mono ?_
  rintro e w1 ⟨rfl, rfl⟩
  go_wp2
  go_ret
  exact ⟨by rw [HX.out]; rfl, hB⟩
 have y2 : (d == 0) = false ∨ ((d == 0) = true /\ (t == 0) = false) := by
  simp only [beq_eq_false_iff_ne, beq_iff_eq, ne_eq]
  omega
 by_cases x4 : 1 <= t /\ t <= 4096
 case neg =>
  rw [decide_eq_false x4] at f4
  rcases y2 with y2 | ⟨y2, y3⟩
  ·have HX := Lib.hid (show v = 2 by rw [<- HV.out]; unfold idE; rw [if_neg (by omega), if_neg y1, if_pos (by omega)])
   go_enter Tryz.func173, Tryz.ntmps173
   go_wp2_with fail
   refine (f1 _).mono ?_
   rintro e w1 ⟨rfl, rfl⟩
   go_wp2_with fail
   refine (f2 _).mono ?_
   rintro e w1 ⟨rfl, rfl⟩
   go_wp2_with fail
   refine (f3 _).mono ?_
   rintro e w1 ⟨rfl, rfl⟩
   go_wp2_with fail
   refine (f4 _).mono ?_
   rintro e w1 ⟨rfl, rfl⟩
   go_wp2
   go_ret
   exact ⟨by rw [HX.out]; rfl, hB⟩
  ·have HX := Lib.hid (show v = 2 by rw [<- HV.out]; unfold idE; rw [if_neg (by omega), if_neg y1, if_pos (by omega)])
   go_enter Tryz.func173, Tryz.ntmps173
   go_wp2_with fail
   refine (f1 _).mono ?_
   rintro e w1 ⟨rfl, rfl⟩
   go_wp2_with fail
   refine (f2 _).mono ?_
   rintro e w1 ⟨rfl, rfl⟩
   go_wp2_with fail
   refine (f3 _).mono ?_
   rintro e w1 ⟨rfl, rfl⟩
   go_wp2_with fail
   refine (f4 _).mono ?_
   rintro e w1 ⟨rfl, rfl⟩
   go_wp2
   go_ret
   exact ⟨by rw [HX.out]; rfl, hB⟩
 rw [decide_eq_true x4] at f4
 by_cases x5 : 0 <= d /\ d <= t - 1
 case neg =>
  rw [decide_eq_false x5] at f5
  rcases y2 with y2 | ⟨y2, y3⟩
  ·have HX := Lib.hid (show v = 2 by rw [<- HV.out]; unfold idE; rw [if_neg (by omega), if_neg y1, if_pos (by omega)])
   go_enter Tryz.func173, Tryz.ntmps173
   go_wp2_with fail
   refine (f1 _).mono ?_
   rintro e w1 ⟨rfl, rfl⟩
   go_wp2_with fail
   refine (f2 _).mono ?_
   rintro e w1 ⟨rfl, rfl⟩
   go_wp2_with fail
   refine (f3 _).mono ?_
   rintro e w1 ⟨rfl, rfl⟩
   go_wp2_with fail
   refine (f4 _).mono ?_
   rintro e w1 ⟨rfl, rfl⟩
   go_wp2_with fail
   refine (f5 _).mono ?_
   rintro e w1 ⟨rfl, rfl⟩
   go_wp2
   go_ret
   exact ⟨by rw [HX.out]; rfl, hB⟩
  ·have HX := Lib.hid (show v = 2 by rw [<- HV.out]; unfold idE; rw [if_neg (by omega), if_neg y1, if_pos (by omega)])
   go_enter Tryz.func173, Tryz.ntmps173
   go_wp2_with fail
   refine (f1 _).mono ?_
   rintro e w1 ⟨rfl, rfl⟩
   go_wp2_with fail
   refine (f2 _).mono ?_
   rintro e w1 ⟨rfl, rfl⟩
   go_wp2_with fail
   refine (f3 _).mono ?_
   rintro e w1 ⟨rfl, rfl⟩
   go_wp2_with fail
   refine (f4 _).mono ?_
   rintro e w1 ⟨rfl, rfl⟩
   go_wp2_with fail
   refine (f5 _).mono ?_
   rintro e w1 ⟨rfl, rfl⟩
   go_wp2
   go_ret
   exact ⟨by rw [HX.out]; rfl, hB⟩
 rw [decide_eq_true x5] at f5
 rcases y2 with y2 | ⟨y2, y3⟩
 ·have HX := Lib.hid (show v = 0 by rw [<- HV.out]; unfold idE; rw [if_neg (by omega), if_neg y1, if_neg (by omega)])
  go_enter Tryz.func173, Tryz.ntmps173
  go_wp2_with fail
  refine (f1 _).mono ?_
  rintro e w1 ⟨rfl, rfl⟩
  go_wp2_with fail
  refine (f2 _).mono ?_
  rintro e w1 ⟨rfl, rfl⟩
  go_wp2_with fail
  refine (f3 _).mono ?_
  rintro e w1 ⟨rfl, rfl⟩
  go_wp2_with fail
  refine (f4 _).mono ?_
  rintro e w1 ⟨rfl, rfl⟩
  go_wp2_with fail
  refine (f5 _).mono ?_
  rintro e w1 ⟨rfl, rfl⟩
  go_wp2
  go_ret
  exact ⟨by rw [HX.out]; rfl, hB⟩
 ·have HX := Lib.hid (show v = 0 by rw [<- HV.out]; unfold idE; rw [if_neg (by omega), if_neg y1, if_neg (by omega)])
  go_enter Tryz.func173, Tryz.ntmps173
  go_wp2_with fail
  refine (f1 _).mono ?_
  rintro e w1 ⟨rfl, rfl⟩
  go_wp2_with fail
  refine (f2 _).mono ?_
  rintro e w1 ⟨rfl, rfl⟩
  go_wp2_with fail
  refine (f3 _).mono ?_
  rintro e w1 ⟨rfl, rfl⟩
  go_wp2_with fail
  refine (f4 _).mono ?_
  rintro e w1 ⟨rfl, rfl⟩
  go_wp2_with fail
  refine (f5 _).mono ?_
  rintro e w1 ⟨rfl, rfl⟩
  go_wp2
  go_ret
  exact ⟨by rw [HX.out]; rfl, hB⟩
end
end Go.Proofs.YtemkpimngbbpkaaGreat
