/- Update: what makes a change valid. · Update: valid, follows. · Update: follows. · Update: Check, New. · Update: New, next. · Update: the orders of changes. · The example of the chapters' last parts: blocks that are no part of a bundle's cells. · Layer 13's reference: Great, Check: that they answer. · Layer 13's reference: flags: that they answer. -/
import Derived.Laws.StructEq
import Derived.LaidEql
import Derived.BigRegion
import Derived.Laws.ResultCell
import Derived.Deep.RegionHeld3
import Derived.Test.YtemkpimngbbpkaaGreatQs01
import Derived.Test.YtemkpimngbbpkaaGreatQs02
import Derived.Test.YtemkpimngbbpkaaGreatQs05
import Derived.Test.YtemkpimngbbpkaaGreatQs06
import Derived.Test.YtemkpimngbbpkaaGreatQs08
import Derived.Test.YtemkpimngbbpkaaGreatQs10
namespace Go.Proofs.YtemkpimngbbpkaaGreat
set_option linter.unusedVariables false
set_option linter.unusedSimpArgs false
section
open Go.RowKit Go.Shelf
attribute [local go_sem] Oper.semAt_some
theorem ins_any (g : Nat) (n i : Int) (w : World) (hg : Blk w g 3 #[.int .i64 n]) :
 Calls Tryz.prog 214 #[.int .i64 i, .pointer (some ⟨g, 0, none⟩)] w fun e w' => e = .returned (.bool (inN n i)) /\ w = w' := by
 have hc := hg.cell
 have hl := hg.lt
 unfold inN
 by_cases h1 : 0 <= i
 ·by_cases h2 : i < n
  ·rw [decide_eq_true (show 0 <= i /\ i < n from ⟨h1, h2⟩)]
   go_enter Tryz.func214, Tryz.ntmps214
   go_wp2
   go_ret
   exact ⟨rfl, rfl⟩
  ·rw [decide_eq_false (show ¬ (0 <= i /\ i < n) from fun h => h2 h.2)]
   go_enter Tryz.func214, Tryz.ntmps214
   go_wp2
   go_ret
   exact ⟨rfl, rfl⟩
 ·rw [decide_eq_false (show ¬ (0 <= i /\ i < n) from fun h => h1 h.1)]
  go_enter Tryz.func214, Tryz.ntmps214
  go_wp2
  go_ret
  exact ⟨rfl, rfl⟩
def Chg.arr (x : Chg) : Array Value := #[.int .i64 x.org, .int .i64 x.cnt, .int .i64 x.stp, .int .i64 x.kind, .int .i64 x.con.src, .int .i64 x.con.dst, .int .i64 x.con.st, .int .i64 x.con.en, .int .i64 x.con.rate, .int .i64 x.con.rng, .int .i64 x.con.loss]
set_option maxRecDepth 100000 in
set_option maxHeartbeats 16000000 in
theorem vCon_any (n : Int) (x : Chg) (w : World) :
 Calls Tryz.prog 143 #[.int .i64 n, .agg x.arr] w fun e w' => e = .returned (.bool (x.cok n)) /\ Ext w w' := by
 obtain ⟨org, cnt, stp, kind, c⟩ := x
 obtain ⟨v, hv⟩ : ∃ v, Chg.cok n ⟨org, cnt, stp, kind, c⟩ = v := ⟨_, rfl⟩
 rw [hv]
 unfold Chg.cok at hv
 dsimp only at hv
 have HV := Lib.hid hv
 clear hv
 unfold Chg.arr
 dsimp only
 have fc := fun w => check_any c w
 unfold Con.val at fc
 have hib := fun h : c.isBare = true => (show c.en = 0 /\ c.rate = 0 /\ c.rng = 0 /\ c.loss = 0 by simpa [Con.isBare] using h)
 have hnb := fun h : c.isBare = false => (show ¬ (c.en = 0 /\ c.rate = 0 /\ c.rng = 0 /\ c.loss = 0) from fun h2 => by simp [Con.isBare, h2] at h)
 obtain ⟨ck, hck⟩ : ∃ ck, c.check = ck := ⟨_, rfl⟩
 rw [hck] at fc HV
 obtain ⟨bb, hbb⟩ : ∃ bb, c.isBare = bb := ⟨_, rfl⟩
 rw [hbb] at HV hib hnb
 obtain ⟨src, dst, st, en, rate, rng, loss⟩ := c
 dsimp only at *
 obtain ⟨W1, hW1, hB1, hk1, hl1⟩ := box1 w #[.int .i64 n] 3
 obtain ⟨W2, hW2, hB2, hk2, hl2⟩ := box1 W1 #[.int .i64 org, .int .i64 cnt, .int .i64 stp, .int .i64 kind, .int .i64 src, .int .i64 dst, .int .i64 st, .int .i64 en, .int .i64 rate, .int .i64 rng, .int .i64 loss] 63
 have c2 := hk2.cell
 obtain ⟨W3, hW3, hB3, hk3, hl3⟩ := box1 W2 #[.int .i64 src, .int .i64 dst, .int .i64 st, .int .i64 en, .int .i64 rate, .int .i64 rng, .int .i64 loss] 61
 have c3 := hk3.cell
 have kx3 := hk2.ext hB3
 have c4 := kx3.cell
 have c5 := kx3.lt
 have hE := (hB1.trans hB2).trans hB3
 have hn3 := (hk1.ext hB2).ext hB3
 have fi := fun i => ins_any w.heap.size n i W3 hn3
 have hen : ∀ args w, (callFunc 214 args).run Tryz.prog w = .ok (.enter 214 args) w := enters_of Tryz.func214 (by kernel_rfl) rfl
 clear hck hbb
 cases i1 : inN n src
 case false =>
  have fs := fi src
  rw [i1] at fs HV
  have HX := Lib.hid (show v = false by rw [<- HV.out]; rfl)
  clear fi
  go_enter Tryz.func143, Tryz.ntmps143
  go_wp2_with fail
  clear hW1 hW2 hW3
  refine fs.mono ?_
  rintro e w4 ⟨rfl, rfl⟩
  go_wp2
  go_ret
  exact ⟨by rw [HX.out]; rfl, hE⟩
 cases i2 : inN n dst
 case false =>
  have fs := fi src
  have fd := fi dst
  rw [i1] at fs HV
  rw [i2] at fd HV
  have HX := Lib.hid (show v = false by rw [<- HV.out]; rfl)
  clear fi
  go_enter Tryz.func143, Tryz.ntmps143
  go_wp2_with fail
  clear hW1 hW2 hW3
  refine fs.mono ?_
  rintro e w4 ⟨rfl, rfl⟩
  go_wp2_with fail
  refine fd.mono ?_
  rintro e w4 ⟨rfl, rfl⟩
  go_wp2
  go_ret
  exact ⟨by rw [HX.out]; rfl, hE⟩
 have fs := fi src
 have fd := fi dst
 rw [i1] at fs HV
 rw [i2] at fd HV
 simp only [Bool.true_and] at HV
 clear fi i1 i2
 by_cases k1 : kind = 1
 ·subst k1
  have HX := Lib.hid (show v = decide (ck = 0) by rw [<- HV.out, if_pos rfl])
  go_enter Tryz.func143, Tryz.ntmps143
  go_wp2_with fail
  clear hW1 hW2 hW3
  refine fs.mono ?_
  rintro e w4 ⟨rfl, rfl⟩
  go_wp2_with fail
  refine fd.mono ?_
  rintro e w4 ⟨rfl, rfl⟩
  go_wp2_with fail
  refine (fc _).mono ?_
  rintro e w5 ⟨rfl, hb5⟩
  go_wp2
  go_ret
  exact ⟨by rw [HX.out]; rfl, hE.trans hb5⟩
 rw [if_neg k1] at HV
 have b1 : (kind == 1) = false := by rw [beq_eq_false_iff_ne]; exact k1
 by_cases k2 : kind = 2
 case neg =>
  have b2 : (kind == 2) = false := by rw [beq_eq_false_iff_ne]; exact k2
  have HX := Lib.hid (show v = false by rw [<- HV.out, if_neg k2])
  clear k1 k2 fc
  go_enter Tryz.func143, Tryz.ntmps143
  go_wp2_with fail
  clear hW1 hW2 hW3
  refine fs.mono ?_
  rintro e w4 ⟨rfl, rfl⟩
  go_wp2_with fail
  refine fd.mono ?_
  rintro e w4 ⟨rfl, rfl⟩
  go_wp2
  go_ret
  exact ⟨by rw [HX.out]; rfl, hE⟩
 subst k2
 rw [if_pos rfl] at HV
 clear k1 b1 fc
 by_cases s1 : src = dst
 case pos =>
  have d1 : (src != dst) = false := by rw [bne_eq_false_iff_eq]; exact s1
  have HX := Lib.hid (show v = false by rw [<- HV.out, decide_eq_false (fun h => h s1)]; rfl)
  clear s1
  go_enter Tryz.func143, Tryz.ntmps143
  go_wp2_with fail
  clear hW1 hW2 hW3
  refine fs.mono ?_
  rintro e w4 ⟨rfl, rfl⟩
  go_wp2_with fail
  refine fd.mono ?_
  rintro e w4 ⟨rfl, rfl⟩
  go_wp2
  go_ret
  exact ⟨by rw [HX.out]; rfl, hE⟩
 have d1 : (src != dst) = true := by rw [bne_iff_ne]; exact s1
 rw [decide_eq_true s1, Bool.true_and] at HV
 clear s1
 by_cases t1 : 0 <= st
 case neg =>
  have HX := Lib.hid (show v = false by rw [<- HV.out, decide_eq_false (fun h => t1 h.1)]; rfl)
  go_enter Tryz.func143, Tryz.ntmps143
  go_wp2_with fail
  clear hW1 hW2 hW3
  refine fs.mono ?_
  rintro e w4 ⟨rfl, rfl⟩
  go_wp2_with fail
  refine fd.mono ?_
  rintro e w4 ⟨rfl, rfl⟩
  go_wp2
  go_ret
  exact ⟨by rw [HX.out]; rfl, hE⟩
 by_cases t2 : st <= 1099511627776
 case neg =>
  have HX := Lib.hid (show v = false by rw [<- HV.out, decide_eq_false (fun h => t2 h.2)]; rfl)
  go_enter Tryz.func143, Tryz.ntmps143
  go_wp2_with fail
  clear hW1 hW2 hW3
  refine fs.mono ?_
  rintro e w4 ⟨rfl, rfl⟩
  go_wp2_with fail
  refine fd.mono ?_
  rintro e w4 ⟨rfl, rfl⟩
  go_wp2
  go_ret
  exact ⟨by rw [HX.out]; rfl, hE⟩
 rw [decide_eq_true (show 0 <= st /\ st <= 1099511627776 from ⟨t1, t2⟩), Bool.true_and] at HV
 have HX := Lib.hid HV.out.symm
 cases bb
 case true =>
  obtain ⟨z1, z2, z3, z4⟩ := hib rfl
  replace z1 := beq_iff_eq.2 z1
  replace z2 := beq_iff_eq.2 z2
  replace z3 := beq_iff_eq.2 z3
  replace z4 := beq_iff_eq.2 z4
  clear hib hnb
  go_enter Tryz.func143, Tryz.ntmps143
  go_wp2_with fail
  clear hW1 hW2 hW3
  refine fs.mono ?_
  rintro e w4 ⟨rfl, rfl⟩
  go_wp2_with fail
  refine fd.mono ?_
  rintro e w4 ⟨rfl, rfl⟩
  go_wp2
  go_ret
  exact ⟨by rw [HX.out]; rfl, hE⟩
 have hz := hnb rfl
 have hz2 : en ≠ 0 ∨ (en = 0 /\ rate ≠ 0) ∨ (en = 0 /\ rate = 0 /\ rng ≠ 0) ∨ (en = 0 /\ rate = 0 /\ rng = 0 /\ loss ≠ 0) := by omega
 clear hib hnb hz
 have hz3 : (en == 0) = false ∨ ((en == 0) = true /\ (rate == 0) = false) ∨ ((en == 0) = true /\ (rate == 0) = true /\ (rng == 0) = false) ∨ ((en == 0) = true /\ (rate == 0) = true /\ (rng == 0) = true /\ (loss == 0) = false) := by
  simp only [beq_eq_false_iff_ne, beq_iff_eq, ne_eq]
  exact hz2
 clear hz2
 rcases hz3 with h1 | ⟨h1, h2⟩ | ⟨h1, h2, h3⟩ | ⟨h1, h2, h3, h4⟩
 all_goals
  go_enter Tryz.func143, Tryz.ntmps143
  go_wp2_with fail
  clear hW1 hW2 hW3
  refine fs.mono ?_
  rintro e w4 ⟨rfl, rfl⟩
  go_wp2_with fail
  refine fd.mono ?_
  rintro e w4 ⟨rfl, rfl⟩
  go_wp2
  go_ret
  exact ⟨by rw [HX.out]; rfl, hE⟩
end
section
open Go.RowKit Go.Shelf
attribute [local go_sem] Oper.semAt_some
set_option maxRecDepth 100000 in
set_option maxHeartbeats 8000000 in
theorem vChg_any (n : Int) (x : Chg) (w : World) :
 Calls Tryz.prog 58 #[.int .i64 n, .agg x.arr] w fun e w' => e = .returned (.bool (x.ok n)) /\ Ext w w' := by
 have fv := fun w => vCon_any n x w
 obtain ⟨v, hv⟩ : ∃ v, x.ok n = v := ⟨_, rfl⟩
 rw [hv]
 unfold Chg.ok at hv
 obtain ⟨ck, hck⟩ : ∃ ck, x.cok n = ck := ⟨_, rfl⟩
 rw [hck] at fv hv
 have HV := Lib.hid hv
 unfold Chg.arr at fv ⊢
 obtain ⟨W1, hW1, hB1, hk1, hl1⟩ := box1 w #[.int .i64 x.org, .int .i64 x.cnt, .int .i64 x.stp, .int .i64 x.kind, .int .i64 x.con.src, .int .i64 x.con.dst, .int .i64 x.con.st, .int .i64 x.con.en, .int .i64 x.con.rate, .int .i64 x.con.rng, .int .i64 x.con.loss] 63
 have c1 := hk1.cell
 clear hv hck
 generalize x.org = org at *
 generalize x.cnt = cnt at *
 generalize x.stp = stp at *
 generalize x.kind = kind at *
 by_cases t0 : 0 <= org
 case neg =>
  have HX := Lib.hid (show v = false by rw [<- HV.out, decide_eq_false (fun h => t0 h.1)]; rfl)
  clear fv
  go_enter Tryz.func58, Tryz.ntmps58
  go_wp2
  go_ret
  exact ⟨by rw [HX.out]; rfl, hB1⟩
 by_cases t1 : org < n
 case neg =>
  have HX := Lib.hid (show v = false by rw [<- HV.out, decide_eq_false (fun h => t1 h.2.1)]; rfl)
  clear fv
  go_enter Tryz.func58, Tryz.ntmps58
  go_wp2
  go_ret
  exact ⟨by rw [HX.out]; rfl, hB1⟩
 by_cases t2 : 1 <= cnt
 case neg =>
  have HX := Lib.hid (show v = false by rw [<- HV.out, decide_eq_false (fun h => t2 h.2.2.1)]; rfl)
  clear fv
  go_enter Tryz.func58, Tryz.ntmps58
  go_wp2
  go_ret
  exact ⟨by rw [HX.out]; rfl, hB1⟩
 by_cases t3 : 1 <= stp
 case neg =>
  have HX := Lib.hid (show v = false by rw [<- HV.out, decide_eq_false (fun h => t3 h.2.2.2.1)]; rfl)
  clear fv
  go_enter Tryz.func58, Tryz.ntmps58
  go_wp2
  go_ret
  exact ⟨by rw [HX.out]; rfl, hB1⟩
 by_cases t4 : stp <= 1099511627776
 case neg =>
  have HX := Lib.hid (show v = false by rw [<- HV.out, decide_eq_false (fun h => t4 h.2.2.2.2)]; rfl)
  clear fv
  go_enter Tryz.func58, Tryz.ntmps58
  go_wp2
  go_ret
  exact ⟨by rw [HX.out]; rfl, hB1⟩
 have HX := Lib.hid (show v = ck by rw [<- HV.out, decide_eq_true (show 0 <= org /\ org < n /\ 1 <= cnt /\ 1 <= stp /\ stp <= 1099511627776 from ⟨t0, t1, t2, t3, t4⟩)]; rfl)
 go_enter Tryz.func58, Tryz.ntmps58
 go_wp2_with fail
 clear hW1
 refine (fv _).mono ?_
 rintro e w2 ⟨rfl, hb2⟩
 go_wp2
 go_ret
 exact ⟨by rw [HX.out]; rfl, hB1.trans hb2⟩
theorem fol_none (x : Chg) (w : World) :
 Calls Tryz.prog 75 #[.pointer none, .agg x.arr] w fun e w' => e = .returned (.int .i64 (folE none x)) /\ Ext w w' := by
 obtain ⟨v, hv⟩ : ∃ v, folE none x = v := ⟨_, rfl⟩
 rw [hv]
 unfold folE at hv
 dsimp only at hv
 have HV := Lib.hid hv
 unfold Chg.arr
 obtain ⟨W1, hW1, hB1, hk1, hl1⟩ := box1 w #[.int .i64 x.org, .int .i64 x.cnt, .int .i64 x.stp, .int .i64 x.kind, .int .i64 x.con.src, .int .i64 x.con.dst, .int .i64 x.con.st, .int .i64 x.con.en, .int .i64 x.con.rate, .int .i64 x.con.rng, .int .i64 x.con.loss] 63
 have c1 := hk1.cell
 clear hv
 generalize x.org = org at *
 generalize x.cnt = cnt at *
 by_cases h : cnt = 1
 ·have hb : (cnt != 1) = false := by rw [bne_eq_false_iff_eq]; exact h
  have HX := Lib.hid (show v = 0 by rw [<- HV.out, if_pos h])
  clear h
  go_enter Tryz.func75, Tryz.ntmps75
  go_wp2_with fail
  clear hW1
  go_region
  go_wp2_with fail
  go_region
  go_wp2_with fail
  go_region
  go_wp2_with fail
  go_region
  go_wp2
  go_ret
  exact ⟨by rw [HX.out]; rfl, (((hB1.drew).drew).drew).drew⟩
 ·have hb : (cnt != 1) = true := by rw [bne_iff_ne]; exact h
  have HX := Lib.hid (show v = 25 by rw [<- HV.out, if_neg h])
  clear h
  go_enter Tryz.func75, Tryz.ntmps75
  go_wp2_with fail
  clear hW1
  go_region
  go_wp2_with fail
  go_region
  go_wp2_with fail
  go_region
  go_wp2
  go_ret
  exact ⟨by rw [HX.out]; rfl, ((hB1.drew).drew).drew⟩
end
section
open Go.RowKit Go.Shelf
attribute [local go_sem] Oper.semAt_some
set_option maxRecDepth 100000 in
set_option maxHeartbeats 8000000 in
theorem fol_some (y x : Chg) (b o : Nat) (w : World) (hb : b < w.heap.size) (c0 : w.cell? ⟨b, o, none⟩ = some (.int .i64 y.org)) (c1 : w.cell? ⟨b, o + 1, none⟩ = some (.int .i64 y.cnt)) (c2 : w.cell? ⟨b, o + 2, none⟩ = some (.int .i64 y.stp)) (hc : 0 <= y.cnt /\ y.cnt <= 1000000) :
 Calls Tryz.prog 75 #[.pointer (some ⟨b, o, none⟩), .agg x.arr] w fun e w' => e = .returned (.int .i64 (folE (some y) x)) /\ Ext w w' := by
 obtain ⟨v, hv⟩ : ∃ v, folE (some y) x = v := ⟨_, rfl⟩
 rw [hv]
 unfold folE at hv
 dsimp only at hv
 have HV := Lib.hid hv
 unfold Chg.arr
 obtain ⟨W1, hW1, hB1, hk1, hl1⟩ := box1 w #[.int .i64 x.org, .int .i64 x.cnt, .int .i64 x.stp, .int .i64 x.kind, .int .i64 x.con.src, .int .i64 x.con.dst, .int .i64 x.con.st, .int .i64 x.con.en, .int .i64 x.con.rate, .int .i64 x.con.rng, .int .i64 x.con.loss] 63
 have d1 := hk1.cell
 have hbW : b < W1.heap.size := Nat.lt_of_lt_of_le hb hB1.size
 have y0 := (hB1.cell (p := ⟨b, o, none⟩) hb).trans c0
 have y1 := (hB1.cell (p := ⟨b, o + 1, none⟩) hb).trans c1
 have y2 := (hB1.cell (p := ⟨b, o + 2, none⟩) hb).trans c2
 clear hv c0 c1 c2
 generalize x.org = xo at *
 generalize x.cnt = xc at *
 generalize x.stp = xs at *
 generalize y.org = yo at *
 generalize y.cnt = yc at *
 generalize y.stp = ys at *
 obtain ⟨hc1, hc2⟩ := hc
 by_cases h1 : xo < yo
 case pos =>
  have s1 : (yo == xo) = false := by rw [beq_eq_false_iff_ne]; omega
  have HX := Lib.hid (show v = 9 by rw [<- HV.out, if_pos (.inl h1)])
  go_enter Tryz.func75, Tryz.ntmps75
  go_wp2_with fail
  clear hW1
  go_region
  go_wp2_with fail
  go_region
  go_wp2
  go_ret
  exact ⟨by rw [HX.out]; rfl, ((hB1).drew).drew⟩
 by_cases h2 : yo = xo
 case pos =>
  subst h2
  have s1 : (yo == yo) = true := by rw [beq_iff_eq]
  by_cases h3 : xc <= yc
  case pos =>
   have HX := Lib.hid (show v = 9 by rw [<- HV.out, if_pos (.inr ⟨rfl, h3⟩)])
   go_enter Tryz.func75, Tryz.ntmps75
   go_wp2_with fail
   clear hW1
   go_region
   go_wp2_with fail
   go_region
   go_wp2
   go_ret
   exact ⟨by rw [HX.out]; rfl, ((hB1).drew).drew⟩
  have n1 : ¬ (yo < yo ∨ (yo = yo /\ xc <= yc)) := by omega
  by_cases h4 : xc = yc + 1
  case neg =>
   have s2 : (xc != yc + 1) = true := by rw [bne_iff_ne]; exact h4
   have HX := Lib.hid (show v = 25 by rw [<- HV.out, if_neg n1, if_pos rfl, if_pos h4])
   clear n1 h4
   go_enter Tryz.func75, Tryz.ntmps75
   go_wp2_with fail
   clear hW1
   go_region
   go_wp2_with fail
   go_region
   go_wp2_with fail
   go_region
   go_wp2
   go_ret
   exact ⟨by rw [HX.out]; rfl, (((hB1).drew).drew).drew⟩
  have s2 : (xc != yc + 1) = false := by rw [bne_eq_false_iff_eq]; exact h4
  by_cases h5 : xs <= ys
  case pos =>
   have HX := Lib.hid (show v = 9 by rw [<- HV.out, if_neg n1, if_pos rfl, if_neg (fun h => h h4), if_pos h5])
   clear n1 h4
   go_enter Tryz.func75, Tryz.ntmps75
   go_wp2_with fail
   clear hW1
   go_region
   go_wp2_with fail
   go_region
   go_wp2_with fail
   go_region
   go_wp2_with fail
   go_region
   go_wp2
   go_ret
   exact ⟨by rw [HX.out]; rfl, ((((hB1).drew).drew).drew).drew⟩
  have HX := Lib.hid (show v = 0 by rw [<- HV.out, if_neg n1, if_pos rfl, if_neg (fun h => h h4), if_neg h5])
  clear n1 h4
  go_enter Tryz.func75, Tryz.ntmps75
  go_wp2_with fail
  clear hW1
  go_region
  go_wp2_with fail
  go_region
  go_wp2_with fail
  go_region
  go_wp2_with fail
  go_region
  go_wp2
  go_ret
  exact ⟨by rw [HX.out]; rfl, ((((hB1).drew).drew).drew).drew⟩
 have s1 : (yo == xo) = false := by rw [beq_eq_false_iff_ne]; exact h2
 have e1 : decide (xo < yo) = false := decide_eq_false h1
 have n1 : ¬ (xo < yo ∨ (yo = xo /\ xc <= yc)) := by omega
 by_cases h6 : xc = 1
 case neg =>
  have s2 : (xc != 1) = true := by rw [bne_iff_ne]; exact h6
  have HX := Lib.hid (show v = 25 by rw [<- HV.out, if_neg n1, if_neg h2, if_pos h6])
  clear n1 h2 h6
  go_enter Tryz.func75, Tryz.ntmps75
  go_wp2_with fail
  clear hW1
  go_region
  go_wp2_with fail
  go_region
  go_wp2_with fail
  go_region
  go_wp2
  go_ret
  exact ⟨by rw [HX.out]; rfl, (((hB1).drew).drew).drew⟩
 have s2 : (xc != 1) = false := by rw [bne_eq_false_iff_eq]; exact h6
 have HX := Lib.hid (show v = 0 by rw [<- HV.out, if_neg n1, if_neg h2, if_neg (fun h => h h6)])
 clear n1 h2 h6
 go_enter Tryz.func75, Tryz.ntmps75
 go_wp2_with fail
 clear hW1
 go_region
 go_wp2_with fail
 go_region
 go_wp2_with fail
 go_region
 go_wp2_with fail
 go_region
 go_wp2
 go_ret
 exact ⟨by rw [HX.out]; rfl, ((((hB1).drew).drew).drew).drew⟩
end
section
open Go.RowKit Go.Shelf
attribute [local go_sem] Oper.semAt_some
theorem Rd.chg {w : World} {A : Option Addr} {l : List Chg} (h : Rd EChg w A l) {k : Nat} (hk : k < l.length) : ∃ b o, A = some ⟨b, o, none⟩ /\ b < w.heap.size /\
 w.cell? ⟨b, o + k * 11, none⟩ = some (.int .i64 l[k].org) /\ w.cell? ⟨b, o + k * 11 + 1, none⟩ = some (.int .i64 l[k].cnt) /\ w.cell? ⟨b, o + k * 11 + 2, none⟩ = some (.int .i64 l[k].stp) /\ w.cell? ⟨b, o + k * 11 + 3, none⟩ = some (.int .i64 l[k].kind) /\
 w.cell? ⟨b, o + k * 11 + 4, none⟩ = some (.int .i64 l[k].con.src) /\ w.cell? ⟨b, o + k * 11 + 5, none⟩ = some (.int .i64 l[k].con.dst) /\ w.cell? ⟨b, o + k * 11 + 6, none⟩ = some (.int .i64 l[k].con.st) /\ w.cell? ⟨b, o + k * 11 + 7, none⟩ = some (.int .i64 l[k].con.en) /\
 w.cell? ⟨b, o + k * 11 + 8, none⟩ = some (.int .i64 l[k].con.rate) /\ w.cell? ⟨b, o + k * 11 + 9, none⟩ = some (.int .i64 l[k].con.rng) /\ w.cell? ⟨b, o + k * 11 + 10, none⟩ = some (.int .i64 l[k].con.loss) := by
 obtain ⟨b, o, rfl, hb, hc⟩ := h.at hk
 exact ⟨b, o, rfl, hb, hc 0 _ rfl, hc 1 _ rfl, hc 2 _ rfl, hc 3 _ rfl, hc 4 _ rfl, hc 5 _ rfl, hc 6 _ rfl, hc 7 _ rfl, hc 8 _ rfl, hc 9 _ rfl, hc 10 _ rfl⟩
def prevC (l : List Chg) (k : Nat) : Option Chg := if k = 0 then none else l[k - 1]?
def prevP (A : Option Addr) (k : Nat) : Value := if k = 0 then .pointer none else .pointer (A.map (·.add ((k - 1) * 11)))
theorem prevC_succ {l : List Chg} {k : Nat} (h : k < l.length) : prevC l (k + 1) = some l[k] := by
 unfold prevC
 rw [if_neg (by omega), Nat.add_sub_cancel, List.getElem?_eq_getElem h]
theorem chkF_step {n : Int} {l : List Chg} {k : Nat} (h : k < l.length) (b : Option Chg) : chkF n b (l.drop k) = if l[k].ok n = false then 2 else if folE b l[k] ≠ 0 then folE b l[k] else chkF n (some l[k]) (l.drop (k + 1)) := by
 rw [List.drop_eq_getElem_cons h]
 rfl
theorem folE_cnt {b : Option Chg} {x : Chg} (h : folE b x = 0) : x.cnt = 1 ∨ ∃ y, b = some y /\ x.cnt = y.cnt + 1 := by
 cases b with
 | none =>
   unfold folE at h
   dsimp only at h
   split at h
   ·exact .inl (by assumption)
   ·omega
 | some y =>
   unfold folE at h
   dsimp only at h
   split at h
   ·omega
   ·split at h
    ·split at h
     ·omega
     ·rename_i e; exact .inr ⟨y, rfl, by simpa using e⟩
    ·split at h
     ·omega
     ·rename_i e; exact .inl (by simpa using e)
def CkI (n : Int) (l : List Chg) (k : Nat) : Prop := chkF n none l = chkF n (prevC l k) (l.drop k) /\ ∀ i (h : i < l.length), i < k -> 1 <= l[i].cnt /\ l[i].cnt <= i + 1
theorem ckI_step {n : Int} {l : List Chg} {k : Nat} (h : CkI n l k) (hk : k < l.length) (h1 : l[k].ok n = true) (h2 : folE (prevC l k) l[k] = 0) : CkI n l (k + 1) := by
 refine ⟨?_, fun i hi hik => ?_⟩
 ·rw [h.1, chkF_step hk, if_neg (by rw [h1]; simp), if_neg (by rw [h2]; simp), prevC_succ hk]
 ·rcases Nat.lt_or_ge i k with h3 | h3
  ·exact h.2 i hi h3
  ·have : i = k := by omega
   subst this
   have hok : 1 <= l[i].cnt := by
    unfold Chg.ok at h1
    simp only [Bool.and_eq_true, decide_eq_true_eq] at h1
    exact h1.1.2.2.1
   refine ⟨hok, ?_⟩
   rcases folE_cnt h2 with h4 | ⟨y, h4, h5⟩
   ·omega
   ·unfold prevC at h4
    split at h4
    ·cases h4
    ·have hlt : i - 1 < l.length := by omega
     rw [List.getElem?_eq_getElem hlt] at h4
     injection h4 with h4
     subst h4
     have := (h.2 (i - 1) hlt (by omega)).2
     omega
set_option maxRecDepth 100000 in
set_option maxHeartbeats 16000000 in
theorem hCheck_any (n : Int) (A : Option Addr) (cc : Nat) (l : List Chg) (w : World) (hR : Rd EChg w A l) :
 Calls Tryz.prog 22 #[.agg #[.int .i64 n, .slice A l.length cc]] w fun e w' => e = .returned (.int .i64 (hChk n l)) /\ Ext w w' := by
 obtain ⟨W1, hW1, hB1, hk1, hl1⟩ := box1 w #[.int .i64 n, .slice A l.length cc] 56
 have c1 := hk1.cell
 by_cases h1 : n < 1
 case pos =>
  have HX := Lib.hid (show hChk n l = 2 by unfold hChk; rw [if_pos (.inl h1)])
  go_enter Tryz.func22, Tryz.ntmps22
  go_wp2
  go_ret
  exact ⟨by rw [HX.out]; rfl, hB1⟩
 by_cases h2 : 16 < n
 case pos =>
  have HX := Lib.hid (show hChk n l = 2 by unfold hChk; rw [if_pos (.inr h2)])
  go_enter Tryz.func22, Tryz.ntmps22
  go_wp2
  go_ret
  exact ⟨by rw [HX.out]; rfl, hB1⟩
 by_cases h3 : 1000 < l.length
 case pos =>
  have HX := Lib.hid (show hChk n l = 4 by unfold hChk; rw [if_neg (by omega), if_pos h3])
  go_enter Tryz.func22, Tryz.ntmps22
  go_wp2
  go_ret
  exact ⟨by rw [HX.out]; rfl, hB1⟩
 have HX := Lib.hid (show hChk n l = chkF n none l by unfold hChk; rw [if_neg (by omega), if_neg h3])
 go_enter Tryz.func22, Tryz.ntmps22
 go_wp2_with fail
 clear hW1
 go_loopg [3, 22] l.length (fun m u v wr => ∃ k : Nat, k + m = l.length /\ v = .int .i64 k /\ u = prevP A k /\ Hid (CkI n l k) /\ Ext W1 wr)
 case atStart => exact ⟨0, by omega, by go_num, rfl, Lib.hid ⟨by simp [prevC], fun i _ h => by omega⟩, Ext.refl _⟩
 case round =>
  obtain ⟨k, hkn, rfl, rfl, hck, hE⟩ := hrel
  have Hkn := Lib.hid hkn
  clear hkn
  have k1 := hk1.ext hE
  have d1 := k1.cell
  have d2 := k1.lt
  by_cases hlt : k < l.length
  ·obtain ⟨b, o, rfl, hb, e0, e1, e2, e3, e4, e5, e6, e7, e8, e9, e10⟩ := ((hR.ext hB1).ext hE).chg hlt
   have hst := chkF_step (n := n) hlt (prevC l k)
   have hstep := fun h1 h2 => ckI_step (n := n) hck.out hlt h1 h2
   have hpr : prevC l k = none /\ k = 0 ∨ ∃ j, k = j + 1 /\ ∃ hj : j < l.length, prevC l k = some l[j] := by
    cases k with
    | zero => exact .inl ⟨rfl, rfl⟩
    | succ j => exact .inr ⟨j, rfl, by omega, prevC_succ (by omega)⟩
   have fv := fun w => vChg_any n l[k] w
   have ff : ∀ w', Ext wr w' -> Calls Tryz.prog 75 #[prevP (some ⟨b, o, none⟩) k, .agg (l[k]'hlt).arr] w' fun e w2 => e = .returned (.int .i64 (folE (prevC l k) l[k])) /\ Ext w' w2 := by
    intro w' hw'
    rcases hpr with ⟨h4, rfl⟩ | ⟨j, rfl, hj, h4⟩
    ·rw [h4]
     exact fol_none l[0] w'
    ·rw [h4]
     have hR' := ((hR.ext hB1).ext hE).ext hw'
     obtain ⟨b', o', e', hb', y0, y1, y2, _⟩ := hR'.chg hj
     injection e' with e'
     injection e' with x1 x2
     subst x1 x2
     have hcb := hck.out.2 j hj (by omega)
     have := fol_some l[j] l[j + 1] b (o + j * 11) w' hb' y0 y1 y2 (by omega)
     unfold prevP
     rw [if_neg (by omega), Nat.add_sub_cancel, Option.map_some, Addr.add_lit]
     exact this
   clear hpr
   have hres := hck.out.1.trans hst
   have hnp : prevP (some ⟨b, o, none⟩) (k + 1) = .pointer (some ⟨b, o + k * 11, none⟩) := by
    unfold prevP
    rw [if_neg (by omega), Nat.add_sub_cancel, Option.map_some, Addr.add_lit]
   have HNP := Lib.hid hnp
   obtain ⟨fe, hfe⟩ : ∃ fe, folE (prevC l k) l[k] = fe := ⟨_, rfl⟩
   rw [hfe] at ff hres hstep
   obtain ⟨y, hy⟩ : ∃ y, l[k] = y := ⟨_, rfl⟩
   rw [hy] at e0 e1 e2 e3 e4 e5 e6 e7 e8 e9 e10 fv ff hres hstep
   obtain ⟨ok, hok⟩ : ∃ ok, y.ok n = ok := ⟨_, rfl⟩
   rw [hok] at fv hres hstep
   obtain ⟨org, cnt, stp, kind, src, dst, st, en, rate, rng, loss⟩ := y
   unfold Chg.arr at fv ff
   dsimp only at e0 e1 e2 e3 e4 e5 e6 e7 e8 e9 e10 fv ff
   obtain ⟨PP, hPP⟩ : ∃ PP, prevP (some ⟨b, o, none⟩) k = PP := ⟨_, rfl⟩
   rw [hPP] at ff ⊢
   have HRES := Lib.hid hres
   clear hnp hfe hy hok hPP hres hst
   obtain ⟨W3, hW3, hB3, hk3, hl3⟩ := box1 wr #[.int .i64 org, .int .i64 cnt, .int .i64 stp, .int .i64 kind, .int .i64 src, .int .i64 dst, .int .i64 st, .int .i64 en, .int .i64 rate, .int .i64 rng, .int .i64 loss] 63
   have x1 := hk3.cell
   have k3 := k1.ext hB3
   have d3 := k3.cell
   have d4 := k3.lt
   cases ok with
   | false =>
     have HV := Lib.hid (show chkF n none l = 2 by rw [HRES.out, if_pos rfl])
     clear hstep ff
     go_wp2_with fail
     clear hW3
     refine (fv _).mono ?_
     rintro e w4 ⟨rfl, hb4⟩
     go_wp2
     go_ret
     exact ⟨by rw [HX.out, HV.out]; rfl, ((hB1.trans hE).trans hB3).trans hb4⟩
   | true =>
     by_cases hf0 : fe = 0
     ·subst hf0
      have HCK := Lib.hid (hstep rfl rfl)
      clear hstep
      go_wp2_with fail
      clear hW3 e0 e1 e2 e3 e4 e5 e6 e7 e8 e9 e10
      refine (fv _).mono ?_
      rintro e w4 ⟨rfl, hb4⟩
      have x4 := (hk3.ext hb4).cell
      have x5 := (hk3.ext hb4).lt
      have k4 := k3.ext hb4
      clear x1
      go_wp2_with fail
      refine (ff _ (hB3.trans hb4)).mono ?_
      rintro e w5 ⟨rfl, hb5⟩
      have k5 := k4.ext hb5
      have x6 := k5.cell
      have x7 := k5.lt
      have hb9 : b < w5.heap.size := Nat.lt_of_lt_of_le hb (Nat.le_trans hB3.size (Nat.le_trans hb4.size hb5.size))
      clear x4 x5 d1 d2 d3 d4
      go_wp2
      go_roundg (gk - 1)
      case measure => have := Hkn.out; omega
      case rel => exact ⟨k + 1, by have := Hkn.out; omega, by go_num, HNP.out.symm, HCK, ((hE.trans hB3).trans hb4).trans hb5⟩
     ·have hn0 : (fe != 0) = true := by rw [bne_iff_ne]; exact hf0
      have HV := Lib.hid (show chkF n none l = fe by rw [HRES.out, if_neg (by simp), if_pos hf0])
      clear hstep
      go_wp2_with fail
      clear hW3 e0 e1 e2 e3 e4 e5 e6 e7 e8 e9 e10
      refine (fv _).mono ?_
      rintro e w4 ⟨rfl, hb4⟩
      have x4 := (hk3.ext hb4).cell
      have x5 := (hk3.ext hb4).lt
      clear x1
      go_wp2_with fail
      refine (ff _ (hB3.trans hb4)).mono ?_
      rintro e w5 ⟨rfl, hb5⟩
      go_wp2
      go_ret
      exact ⟨by rw [HX.out, HV.out]; rfl, (((hB1.trans hE).trans hB3).trans hb4).trans hb5⟩
  ·obtain rfl : k = l.length := by have := Hkn.out; omega
   have HC := Lib.hid (show chkF n none l = 0 by rw [hck.out.1, List.drop_length]; rfl)
   generalize prevP A l.length = PP at *
   go_wp2
   go_ret
   exact ⟨by rw [HX.out, HC.out]; rfl, hB1.trans hE⟩
end
section
open Go.RowKit Go.Shelf
attribute [local go_sem] Oper.semAt_some
theorem uNew_any (n : Int) (w : World) (h : 1 <= n /\ n <= 16) :
 Calls Tryz.prog 40 #[.int .i64 n] w fun e w' => e = .returned (.tuple #[.agg #[.int .i64 n, .slice none 0 0], .int .i64 0]) /\ Ext w w' := by
 obtain ⟨W1, hW1, hB1, hk1, hl1⟩ := box1 w #[.int .i64 0, .slice none 0 0] 56
 have c1 := hk1.cell
 have c3 := hk1.frozen
 obtain ⟨h1, h2⟩ := h
 go_enter Tryz.func40, Tryz.ntmps40
 go_wp2
 clear hW1
 obtain ⟨w7, hw7, hz7, hE7⟩ : ∃ w7, W1.setCells w.heap.size 0 [.int .i64 n, .slice none 0 0] = w7 /\ Blk w7 w.heap.size 56 #[.int .i64 n, .slice none 0 0] /\ Ext w w7 :=
  ⟨_, rfl, hk1.setCells_ [.int .i64 n, .slice none 0 0] 0, ext_setCells hB1 (Nat.le_refl _) 0 _⟩
 simp only [World.setCells, Nat.zero_add, Nat.reduceAdd] at hw7
 rw [hw7]
 have hc7 := hz7.cell
 refine bodyPost_ret (v := .tuple #[.agg #[.int .i64 n, .slice none 0 0], .int .i64 0]) (by rw [results_cell_tmp rfl]; simp [asAddr, Result.andThen, hc7, go_sem]) rfl ?_
 exact ⟨rfl, hE7⟩
theorem nxt_take {l : List Chg} {k : Nat} (h : k < l.length) (x : Chg) : (l.take (k + 1)).foldl nxt x = nxt ((l.take k).foldl nxt x) l[k] := by
 rw [<- List.take_append_getElem h, List.foldl_append]
 rfl
theorem arrSets11 (v0 v1 v2 v3 v4 v5 v6 v7 v8 v9 v10 : Value) : arrSets #[.int .i64 0, .int .i64 0, .int .i64 0, .int .i64 0, .int .i64 0, .int .i64 0, .int .i64 0, .int .i64 0, .int .i64 0, .int .i64 0, .int .i64 0] 0 [v0, v1, v2, v3, v4, v5, v6, v7, v8, v9, v10] = #[v0, v1, v2, v3, v4, v5, v6, v7, v8, v9, v10] := by
 simp [arrSets]
theorem results_cellu {fn : Func} {p : Tmp} {ty : TypeId} (h : fn.results = #[.cell p ty]) (tmps : Array Value) (P : Program) (w : World) :
 (results fn tmps).run P w = ((asAddr (tmps.getD p undef)).run P w).andThen fun a w₁ => (loadVar ty a).run P w₁ := by
 simp only [results, h]
 simp [Sem.run_bind, Result.andThen]
def ChB (y : Chg) : Prop := (0 <= y.stp /\ y.stp <= 1099511627776) /\ (0 <= y.cnt /\ y.cnt <= 1000000)
set_option maxRecDepth 100000 in
set_option maxHeartbeats 16000000 in
theorem uNext_any (n : Int) (A : Option Addr) (cc : Nat) (l : List Chg) (o kind : Int) (c : Con) (w : World) (hR : Rd EChg w A l) (hb : ∀ y ∈ l, ChB y) (hl : l.length <= 1000) :
 Calls Tryz.prog 118 #[.agg #[.int .i64 n, .slice A l.length cc], .int .i64 o, .int .i64 kind, c.val] w fun e w' => e = .returned (.agg (nextC l o kind c).arr) /\ Ext w w' := by
 have HF := Lib.hid (show nextC l o kind c = l.foldl nxt ⟨o, 1, 1, kind, c⟩ from rfl)
 have hb' := Lib.hid hb
 clear hb
 obtain ⟨src, dst, st, en, rate, rng, loss⟩ := c
 unfold Con.val
 dsimp only
 obtain ⟨W1, hW1, hB1, hk1, hl1⟩ := box1 w #[.int .i64 n, .slice A l.length cc] 56
 obtain ⟨W2, hW2, hB2, hk2, hl2⟩ := box1 W1 #[.int .i64 src, .int .i64 dst, .int .i64 st, .int .i64 en, .int .i64 rate, .int .i64 rng, .int .i64 loss] 61
 have c2 := hk2.cell
 obtain ⟨W3, hW3, hB3, hk3, hl3⟩ := box1 W2 #[.int .i64 0, .int .i64 0, .int .i64 0, .int .i64 0, .int .i64 0, .int .i64 0, .int .i64 0, .int .i64 0, .int .i64 0, .int .i64 0, .int .i64 0] 63
 have kc3 := hk2.ext hB3
 have c3 := kc3.cell
 have c4 := kc3.lt
 obtain ⟨W4, hW4, hB4, hk4, hl4⟩ := box1 W3 #[.int .i64 o, .int .i64 1, .int .i64 1, .int .i64 kind, .int .i64 src, .int .i64 dst, .int .i64 st, .int .i64 en, .int .i64 rate, .int .i64 rng, .int .i64 loss] 63
 have kh4 := ((hk1.ext hB2).ext hB3).ext hB4
 have e1 := kh4.cell
 have e2 := kh4.lt
 have y1 := hB1.size
 have y2 := hB2.size
 have y3 := hB3.size
 have hE4 := (hB1.trans hB2).trans (hB3.trans hB4)
 have kz4 := hk3.ext hB4
 go_enter Tryz.func118, Tryz.ntmps118
 go_wp2_with fail
 clear hW1 hW2 hW3 hW4 c2 c3 c4
 go_loopg [19] l.length (fun m v wr => ∃ (k : Nat) (x : Chg), k + m = l.length /\ v = .int .i64 k /\ Hid (x = (l.take k).foldl nxt ⟨o, 1, 1, kind, ⟨src, dst, st, en, rate, rng, loss⟩⟩) /\ Hid (x.org = o) /\ Hid ((0 <= x.stp /\ x.stp <= 1099511627777) /\ (0 <= x.cnt /\ x.cnt <= 1000001)) /\ Blk wr W3.heap.size 63 x.arr /\ Ext W3 wr)
 case atStart => exact ⟨0, ⟨o, 1, 1, kind, ⟨src, dst, st, en, rate, rng, loss⟩⟩, by omega, by go_num, Lib.hid rfl, Lib.hid rfl, Lib.hid ⟨⟨by dsimp only; omega, by dsimp only; omega⟩, by dsimp only; omega, by dsimp only; omega⟩, hk4, hB4⟩
 case round =>
  obtain ⟨k, x, hkn, rfl, hx, hxo, hxb, kx, hE⟩ := hrel
  have Hkn := Lib.hid hkn
  clear hkn
  have hsz := hE.size
  have l4 := kx.lt
  by_cases hlt : k < l.length
  ·obtain ⟨b, o', rfl, hb, a0, a1, a2, a3, a4, a5, a6, a7, a8, a9, a10⟩ := ((((hR.ext hB1).ext hB2).ext hB3).ext hE).chg hlt
   have hyb := hb'.out _ (List.getElem_mem hlt)
   have hst := nxt_take hlt ⟨o, 1, 1, kind, ⟨src, dst, st, en, rate, rng, loss⟩⟩
   rw [<- hx.out] at hst
   obtain ⟨y, hy⟩ : ∃ y, l[k] = y := ⟨_, rfl⟩
   rw [hy] at a0 a1 a2 a3 a4 a5 a6 a7 a8 a9 a10 hyb hst
   have HST := Lib.hid hst
   obtain ⟨⟨s1, s2⟩, s3, s4⟩ := hyb
   obtain ⟨⟨b1, b2⟩, b3, b4⟩ := hxb.out
   obtain ⟨yo, yc, ys, yk, ⟨ysrc, ydst, yst, yen, yrate, yrng, yloss⟩⟩ := y
   obtain ⟨xo, xc, xs, xk, ⟨xsrc, xdst, xst, xen, xrate, xrng, xloss⟩⟩ := x
   dsimp only at a0 a1 a2 a3 a4 a5 a6 a7 a8 a9 a10 s1 s2 s3 s4 b1 b2 b3 b4
   obtain rfl : xo = o := hxo.out
   unfold Chg.arr at kx
   dsimp only at kx
   obtain ⟨W5, hW5, hB5, hk5, hl5⟩ := box1 wr #[.int .i64 yo, .int .i64 yc, .int .i64 ys, .int .i64 yk, .int .i64 ysrc, .int .i64 ydst, .int .i64 yst, .int .i64 yen, .int .i64 yrate, .int .i64 yrng, .int .i64 yloss] 63
   have x5 := kx.ext hB5
   have f1 := x5.cell
   have f2 := x5.lt
   have f3 := x5.frozen
   have f4 := hk5.cell
   obtain ⟨m1, hm1⟩ : ∃ m, (if xs < ys + 1 then ys + 1 else xs) = m := ⟨_, rfl⟩
   have HM1 := Lib.hid (show max xs (ys + 1) = m1 by rw [<- hm1]; split <;> omega)
   have x6 : Blk (W5.setCell ⟨W3.heap.size, 2, none⟩ (.int .i64 m1)) W3.heap.size 63 #[.int .i64 xo, .int .i64 xc, .int .i64 m1, .int .i64 xk, .int .i64 xsrc, .int .i64 xdst, .int .i64 xst, .int .i64 xen, .int .i64 xrate, .int .i64 xrng, .int .i64 xloss] := x5.set_ 2 _
   have y6 := hk5.far (p := ⟨W3.heap.size, 2, none⟩) (show wr.heap.size ≠ W3.heap.size by omega) (.int .i64 m1)
   have hE6 := (hE.trans hB5).setCell (p := ⟨W3.heap.size, 2, none⟩) (Nat.le_refl _) (.int .i64 m1)
   obtain ⟨W6, hW6⟩ : ∃ W6, W5.setCell ⟨W3.heap.size, 2, none⟩ (.int .i64 m1) = W6 := ⟨_, rfl⟩
   rw [hW6] at x6 y6 hE6
   have g1 := x6.cell
   have g2 := x6.lt
   have g3 := x6.frozen
   have g4 := y6.cell
   have g5 := y6.lt
   by_cases ho : yo = xo
   ·obtain ⟨m2, hm2⟩ : ∃ m, (if xc < yc + 1 then yc + 1 else xc) = m := ⟨_, rfl⟩
    have HM2 := Lib.hid (show max xc (yc + 1) = m2 by rw [<- hm2]; split <;> omega)
    have hbo : (yo == xo) = true := by rw [beq_iff_eq]; exact ho
    have HN := Lib.hid (show nxt ⟨xo, xc, xs, xk, ⟨xsrc, xdst, xst, xen, xrate, xrng, xloss⟩⟩ ⟨yo, yc, ys, yk, ⟨ysrc, ydst, yst, yen, yrate, yrng, yloss⟩⟩ = ⟨xo, m2, m1, xk, ⟨xsrc, xdst, xst, xen, xrate, xrng, xloss⟩⟩ by unfold nxt; dsimp only; rw [if_pos ho, HM1.out, HM2.out])
    have x7 : Blk (W6.setCell ⟨W3.heap.size, 1, none⟩ (.int .i64 m2)) W3.heap.size 63 #[.int .i64 xo, .int .i64 m2, .int .i64 m1, .int .i64 xk, .int .i64 xsrc, .int .i64 xdst, .int .i64 xst, .int .i64 xen, .int .i64 xrate, .int .i64 xrng, .int .i64 xloss] := x6.set_ 1 _
    have hE7 := hE6.setCell (p := ⟨W3.heap.size, 1, none⟩) (Nat.le_refl _) (.int .i64 m2)
    have HB := Lib.hid (show (0 <= m1 /\ m1 <= 1099511627777) /\ (0 <= m2 /\ m2 <= 1000001) by have := HM1.out; have := HM2.out; omega)
    clear hst hy ho e1 e2
    go_wp2
    go_roundg (gk - 1)
    case measure => have := Hkn.out; omega
    case rel => exact ⟨k + 1, ⟨xo, m2, m1, xk, ⟨xsrc, xdst, xst, xen, xrate, xrng, xloss⟩⟩, by have := Hkn.out; omega, by go_num, Lib.hid (by rw [HST.out, HN.out]), Lib.hid rfl, HB, x7, hE7⟩
   ·have hbo : (yo == xo) = false := by rw [beq_eq_false_iff_ne]; exact ho
    have HN := Lib.hid (show nxt ⟨xo, xc, xs, xk, ⟨xsrc, xdst, xst, xen, xrate, xrng, xloss⟩⟩ ⟨yo, yc, ys, yk, ⟨ysrc, ydst, yst, yen, yrate, yrng, yloss⟩⟩ = ⟨xo, xc, m1, xk, ⟨xsrc, xdst, xst, xen, xrate, xrng, xloss⟩⟩ by unfold nxt; dsimp only; rw [if_neg ho, HM1.out])
    have HB := Lib.hid (show (0 <= m1 /\ m1 <= 1099511627777) /\ (0 <= xc /\ xc <= 1000001) by have := HM1.out; omega)
    clear hst hy ho e1 e2
    go_wp2
    go_roundg (gk - 1)
    case measure => have := Hkn.out; omega
    case rel => exact ⟨k + 1, ⟨xo, xc, m1, xk, ⟨xsrc, xdst, xst, xen, xrate, xrng, xloss⟩⟩, by have := Hkn.out; omega, by go_num, Lib.hid (by rw [HST.out, HN.out]), Lib.hid rfl, HB, x6, hE6⟩
  ·obtain rfl : k = l.length := by have := Hkn.out; omega
   have HX := Lib.hid (show x = nextC l o kind ⟨src, dst, st, en, rate, rng, loss⟩ by rw [HF.out, hx.out, List.take_length])
   obtain ⟨xo, xc, xs, xk, ⟨xsrc, xdst, xst, xen, xrate, xrng, xloss⟩⟩ := x
   unfold Chg.arr at kx
   dsimp only at kx
   have kz := hk3.ext hE
   have f1 := kx.cell
   have f2 := kx.lt
   have g1 := kz.cell
   have g2 := kz.lt
   have g3 := kz.frozen
   have hs := kz.setCells_ [.int .i64 xo, .int .i64 xc, .int .i64 xs, .int .i64 xk, .int .i64 xsrc, .int .i64 xdst, .int .i64 xst, .int .i64 xen, .int .i64 xrate, .int .i64 xrng, .int .i64 xloss] 0
   rw [arrSets11] at hs
   have hE7 := ext_setCells (((hB1.trans hB2).trans hB3).trans hE) (show w.heap.size <= W2.heap.size by omega) 0 [.int .i64 xo, .int .i64 xc, .int .i64 xs, .int .i64 xk, .int .i64 xsrc, .int .i64 xdst, .int .i64 xst, .int .i64 xen, .int .i64 xrate, .int .i64 xrng, .int .i64 xloss]
   obtain ⟨w7, hw7⟩ : ∃ w7, wr.setCells W2.heap.size 0 [.int .i64 xo, .int .i64 xc, .int .i64 xs, .int .i64 xk, .int .i64 xsrc, .int .i64 xdst, .int .i64 xst, .int .i64 xen, .int .i64 xrate, .int .i64 xrng, .int .i64 xloss] = w7 := ⟨_, rfl⟩
   rw [hw7] at hs hE7
   clear e1 e2
   go_wp2
   simp only [World.setCells, Nat.zero_add, Nat.reduceAdd] at hw7
   rw [hw7]
   have hc7 := hs.cell
   refine bodyPost_ret (v := .agg #[.int .i64 xo, .int .i64 xc, .int .i64 xs, .int .i64 xk, .int .i64 xsrc, .int .i64 xdst, .int .i64 xst, .int .i64 xen, .int .i64 xrate, .int .i64 xrng, .int .i64 xloss]) (by rw [results_cellu rfl]; simp [asAddr, Result.andThen, hc7, go_sem]) rfl ?_
   exact ⟨by rw [<- HX.out]; rfl, hE7⟩
end
section
open Go.RowKit Go.Shelf
attribute [local go_sem] Oper.semAt_some
def orgC (x y : Chg) : Int := orL [cmpI x.org y.org, cmpI x.cnt y.cnt]
def newC (x y : Chg) : Int := orL [cmpI y.stp x.stp, cmpI y.org x.org]
set_option maxRecDepth 100000 in
set_option maxHeartbeats 4000000 in
theorem newer_any (x y : Chg) (w : World) :
 Calls Tryz.prog 147 #[.agg x.arr, .agg y.arr] w fun e w' => e = .returned (.int .i64 (newC x y)) /\ Ext w w' := by
 obtain ⟨W, hW, hB, hk, hk2, hlt, hlt2⟩ := box2 w #[.int .i64 x.org, .int .i64 x.cnt, .int .i64 x.stp, .int .i64 x.kind, .int .i64 x.con.src, .int .i64 x.con.dst, .int .i64 x.con.st, .int .i64 x.con.en, .int .i64 x.con.rate, .int .i64 x.con.rng, .int .i64 x.con.loss] #[.int .i64 y.org, .int .i64 y.cnt, .int .i64 y.stp, .int .i64 y.kind, .int .i64 y.con.src, .int .i64 y.con.dst, .int .i64 y.con.st, .int .i64 y.con.en, .int .i64 y.con.rate, .int .i64 y.con.rng, .int .i64 y.con.loss] 63 63
 have hc := hk.cell
 have hc2 := hk2.cell
 unfold Chg.arr
 go_enter Tryz.func147, Tryz.ntmps147
 go_wp2_with fail
 clear hW
 have hN := Near.refl W
 go_region_held3 (fun w' => Ext W w' /\ ∀ b o, b < W.heap.size -> w'.cell? ⟨b, o, none⟩ = W.cell? ⟨b, o, none⟩) (first | exact hN.drew | exact near_alloc (by assumption) _ | assumption)
  (first | (go_at_call 68; refine (cmp_any _ _ _).mono ?_; rintro e w1 ⟨rfl, rfl⟩) | (go_at_call 67; refine (or_any _ 2 [cmpI y.stp x.stp, cmpI y.org x.org] _ (by first | exact rd_blk2 (Blk.new _ _ _) | exact rd_new2 _ _ _ _) (by simp)).mono ?_; rintro e w1 ⟨rfl, rfl⟩))
 all_goals
  clear hN
  go_wp2
  go_ret
  exact ⟨rfl, hB.trans (And.left ‹Ext W _ /\ _›)⟩
end
section
open Go.RowKit Go.Shelf
theorem arrSets12e (u0 u1 u2 u3 u4 u5 u6 u7 u8 u9 u10 u11 v0 v1 v2 v3 v4 v5 v6 v7 v8 v9 v10 v11 : Value) : arrSets #[u0, u1, u2, u3, u4, u5, u6, u7, u8, u9, u10, u11] 0 [v0, v1, v2, v3, v4, v5, v6, v7, v8, v9, v10, v11] = #[v0, v1, v2, v3, v4, v5, v6, v7, v8, v9, v10, v11] := by
 simp [arrSets]
theorem heap_setCells {g b : Nat} (hb : b ≠ g) : ∀ (vs : List Value) (o : Nat) (w : World), (w.setCells g o vs).heap[b]? = w.heap[b]?
 | [], _, _ => rfl
 | v :: vs, o, w => (heap_setCells hb vs (o + 1) _).trans (Below.heap_setCell w ⟨g, o, none⟩ v b hb)
theorem rd_farB {w : World} {A : Option Addr} {l : List Bl} (h : Rd EBl w A l) {g : Nat} {a0 a1 a2 a3 a4 a5 a6 a7 a8 a9 : Int} {s : Value} {ba : ByteArray} {t : TypeId} (hs : ∀ k i, s ≠ .int k i) (hg : Blk w g t #[.int .i64 a0, .int .i64 a1, .int .i64 a2, .int .i64 a3, .int .i64 a4, .int .i64 a5, .int .i64 a6, .int .i64 a7, .int .i64 a8, .int .i64 a9, s, .string ba]) (hs2 : ∀ ba, s ≠ .string ba) (vs : List Value) : Rd EBl (w.setCells g 0 vs) A l := by
 rcases Nat.eq_zero_or_pos l.length with h0 | h0
 ·obtain rfl := List.eq_nil_of_length_eq_zero h0
  exact ⟨h.1, fun hne => absurd hne (by simp)⟩
 ·obtain ⟨b, o, rfl, hb, c0, c1, c2⟩ := h.bl (k := 0) h0
  have hne : b ≠ g := by
   rintro rfl
   simp only [Nat.zero_mul, Nat.add_zero] at c0 c1 c2
   rw [hg.cell] at c0 c1 c2
   rcases Nat.lt_or_ge (o + 2) 12 with h1 | h1
   ·have : o = 0 ∨ o = 1 ∨ o = 2 ∨ o = 3 ∨ o = 4 ∨ o = 5 ∨ o = 6 ∨ o = 7 ∨ o = 8 ∨ o = 9 := by omega
    unfold strV at c2
    rcases this with rfl | rfl | rfl | rfl | rfl | rfl | rfl | rfl | rfl | rfl <;> simp at c0 c1 c2
    ·exact hs2 _ c2
    ·exact hs _ _ c1
   ·rw [Array.getElem?_eq_none (by simpa using h1)] at c2
    cases c2
  obtain ⟨h1, h2⟩ := h
  refine ⟨h1, fun hn => ?_⟩
  obtain ⟨a, ha, hlt, hc⟩ := h2 hn
  injection ha with ha
  subst ha
  refine ⟨_, rfl, ?_, fun j u hu => ?_⟩
  ·have := heap_setCells hne vs 0 w
   exact (Array.getElem?_eq_some_iff.1 (this.trans (Array.getElem?_eq_getElem hlt))).1
  ·have h9 := hc j u hu
   rw [Addr.add_lit] at h9 ⊢
   rw [World.cell?_of_block (w := w) (heap_setCells hne vs 0 w)]
   exact h9
end
section
open Go.RowKit Go.Shelf
attribute [local go_sem] Oper.semAt_some
def RetB (e : Ending) : Prop := ∃ v, e = .returned (.bool v)
def RetP (P : Prop) (e : Ending) : Prop := ∃ v, e = .returned (.bool v) /\ (v = true -> P)
def RetI (e : Ending) : Prop := ∃ v, e = .returned (.int .i64 v)
theorem num3_any (x : Int) (w : World) : Calls Tryz.prog 115 #[.int .i64 x] w fun e w' => RetP (0 <= x /\ x <= 1099511627776) e /\ Ext w w' := by
 by_cases h1 : 0 <= x
 ·by_cases h2 : x <= 1099511627776
  ·go_enter Tryz.func115, Tryz.ntmps115
   go_wp2
   go_ret
   exact ⟨⟨_, rfl, fun h => by first | exact absurd h Bool.false_ne_true | omega | (simp at h; omega)⟩, Ext.refl _⟩
  ·go_enter Tryz.func115, Tryz.ntmps115
   go_wp2
   go_ret
   exact ⟨⟨_, rfl, fun h => by first | exact absurd h Bool.false_ne_true | omega | (simp at h; omega)⟩, Ext.refl _⟩
 ·go_enter Tryz.func115, Tryz.ntmps115
  go_wp2
  go_ret
  exact ⟨⟨_, rfl, fun h => by first | exact absurd h Bool.false_ne_true | omega | (simp at h; omega)⟩, Ext.refl _⟩
theorem has3_any (x k : Int) (hk : k = 2 ∨ k = 4 ∨ k = 64) (hx : 0 <= x /\ x <= 127) (w : World) : Calls Tryz.prog 116 #[.int .i64 x, .int .i64 k] w fun e w' => RetB e /\ Ext w w' := by
 obtain ⟨x0, x1⟩ := hx
 rcases hk with rfl | rfl | rfl
 all_goals
  go_enter Tryz.func116, Tryz.ntmps116
  go_wp2
  go_ret
  exact ⟨⟨_, rfl⟩, Ext.refl _⟩
set_option maxHeartbeats 8000000 in
theorem id3_any (a b c d t : Int) (w : World) :
 Calls Tryz.prog 36 #[.agg #[.int .i64 a, .int .i64 b, .int .i64 c, .int .i64 d, .int .i64 t]] w fun e w' => RetP ((0 <= b /\ b <= 1099511627776) /\ (0 <= d /\ d <= 4096) /\ (0 <= t /\ t <= 4096)) e /\ Ext w w' := by
 obtain ⟨W, hW, hB, hk, hlt⟩ := box1 w #[.int .i64 a, .int .i64 b, .int .i64 c, .int .i64 d, .int .i64 t] 24
 have hc := hk.cell
 have f1 := fun w => num3_any b w
 have f2 := fun w => num3_any c w
 by_cases x1 : a < 0
 ·go_enter Tryz.func36, Tryz.ntmps36
  go_wp2
  go_ret
  exact ⟨⟨_, rfl, fun h => by first | exact absurd h Bool.false_ne_true | omega | (simp at h; omega)⟩, hB⟩
 by_cases x2 : 16 <= a
 ·go_enter Tryz.func36, Tryz.ntmps36
  go_wp2
  go_ret
  exact ⟨⟨_, rfl, fun h => by first | exact absurd h Bool.false_ne_true | omega | (simp at h; omega)⟩, hB⟩
 go_enter Tryz.func36, Tryz.ntmps36
 go_wp2_with fail
 clear hW
 refine (f1 _).mono ?_
 rintro e w1 ⟨⟨v1, rfl, g1⟩, hb1⟩
 have hk1 := hk.ext hb1
 have hl1 := hk1.lt
 have hc1 := hk1.cell
 have hE1 := hB.trans hb1
 clear hc
 cases v1 with
 | false =>
   go_wp2
   go_ret
   exact ⟨⟨_, rfl, fun h => by first | exact absurd h Bool.false_ne_true | omega | (simp at h; omega)⟩, hE1⟩
 | true =>
   go_wp2_with fail
   refine (f2 _).mono ?_
   rintro e w2 ⟨⟨v2, rfl, g2⟩, hb2⟩
   have hk2 := hk1.ext hb2
   have hl2 := hk2.lt
   have hc2 := hk2.cell
   have hE2 := hE1.trans hb2
   clear hc1 hl1
   cases v2 with
   | false =>
     go_wp2
     go_ret
     exact ⟨⟨_, rfl, fun h => by first | exact absurd h Bool.false_ne_true | omega | (simp at h; omega)⟩, hE2⟩
   | true =>
     have g1 := g1 (by trivial)
     have g2 := g2 (by trivial)
     by_cases y1 : t = 0
     ·subst y1
      go_wp2
      go_ret
      exact ⟨⟨_, rfl, fun h => by first | exact absurd h Bool.false_ne_true | omega | (simp at h; omega)⟩, hE2⟩
     ·have z1 : (t == 0) = false := by rw [beq_eq_false_iff_ne]; exact y1
      by_cases y2 : 1 <= t
      ·by_cases y3 : t <= 4096
       ·by_cases y4 : 0 <= d
        ·go_wp2
         go_ret
         exact ⟨⟨_, rfl, fun h => by first | exact absurd h Bool.false_ne_true | omega | (simp at h; omega)⟩, hE2⟩
        ·go_wp2
         go_ret
         exact ⟨⟨_, rfl, fun h => by first | exact absurd h Bool.false_ne_true | omega | (simp at h; omega)⟩, hE2⟩
       ·go_wp2
        go_ret
        exact ⟨⟨_, rfl, fun h => by first | exact absurd h Bool.false_ne_true | omega | (simp at h; omega)⟩, hE2⟩
      ·go_wp2
       go_ret
       exact ⟨⟨_, rfl, fun h => by first | exact absurd h Bool.false_ne_true | omega | (simp at h; omega)⟩, hE2⟩
set_option maxHeartbeats 8000000 in
theorem ep3_any (k n : Int) (w : World) : Calls Tryz.prog 37 #[.agg #[.int .i64 k, .int .i64 n]] w fun e w' => RetI e /\ Ext w w' := by
 obtain ⟨W, hW, hB, hk, hlt⟩ := box1 w #[.int .i64 k, .int .i64 n] 26
 have hc := hk.cell
 by_cases k1 : k = 1
 ·subst k1
  by_cases n1 : n < 0
  ·go_enter Tryz.func37, Tryz.ntmps37
   go_wp2
   go_ret
   exact ⟨⟨_, rfl⟩, hB⟩
  by_cases n2 : 16 <= n
  ·go_enter Tryz.func37, Tryz.ntmps37
   go_wp2
   go_ret
   exact ⟨⟨_, rfl⟩, hB⟩
  ·go_enter Tryz.func37, Tryz.ntmps37
   go_wp2
   go_ret
   exact ⟨⟨_, rfl⟩, hB⟩
 have z1 : (k == 1) = false := by rw [beq_eq_false_iff_ne]; exact k1
 have z1' : (k != 1) = true := by rw [bne_iff_ne]; exact k1
 by_cases k2 : k = 2
 ·subst k2
  by_cases n1 : n < 0
  ·go_enter Tryz.func37, Tryz.ntmps37
   go_wp2
   go_ret
   exact ⟨⟨_, rfl⟩, hB⟩
  by_cases n2 : 8 <= n
  ·go_enter Tryz.func37, Tryz.ntmps37
   go_wp2
   go_ret
   exact ⟨⟨_, rfl⟩, hB⟩
  ·go_enter Tryz.func37, Tryz.ntmps37
   go_wp2
   go_ret
   exact ⟨⟨_, rfl⟩, hB⟩
 have z2 : (k == 2) = false := by rw [beq_eq_false_iff_ne]; exact k2
 have z2' : (k != 2) = true := by rw [bne_iff_ne]; exact k2
 go_enter Tryz.func37, Tryz.ntmps37
 go_wp2
 go_ret
 exact ⟨⟨_, rfl⟩, hB⟩
set_option maxHeartbeats 8000000 in
theorem blk3_any (kd fl : Int) (sv : ByteArray) (w : World) : Calls Tryz.prog 117 #[.agg #[.int .i64 kd, .int .i64 fl, .string sv]] w fun e w' => RetI e /\ Ext w w' := by
 obtain ⟨W, hW, hB, hk, hlt⟩ := box1 w #[.int .i64 kd, .int .i64 fl, .string sv] 116
 have hc := hk.cell
 have hs0 : 0 <= (sv.size : Int) := by omega
 by_cases h1 : kd < 1
 ·go_enter Tryz.func117, Tryz.ntmps117
  go_wp2
  go_ret
  exact ⟨⟨_, rfl⟩, hB⟩
 by_cases h2 : 255 < kd
 ·go_enter Tryz.func117, Tryz.ntmps117
  go_wp2
  go_ret
  exact ⟨⟨_, rfl⟩, hB⟩
 by_cases h3 : fl < 0
 ·go_enter Tryz.func117, Tryz.ntmps117
  go_wp2
  go_ret
  exact ⟨⟨_, rfl⟩, hB⟩
 by_cases h4 : 15 < fl
 ·go_enter Tryz.func117, Tryz.ntmps117
  go_wp2
  go_ret
  exact ⟨⟨_, rfl⟩, hB⟩
 by_cases h5 : 1024 < (sv.size : Int)
 ·go_enter Tryz.func117, Tryz.ntmps117
  go_wp2
  go_ret
  exact ⟨⟨_, rfl⟩, hB⟩
 ·go_enter Tryz.func117, Tryz.ntmps117
  go_wp2
  go_ret
  exact ⟨⟨_, rfl⟩, hB⟩
set_option maxRecDepth 100000 in
set_option maxHeartbeats 8000000 in
theorem blks3_any (A : Option Addr) (cc : Nat) (l : List Bl) (w : World) (hR : Rd EBl w A l) :
 Calls Tryz.prog 39 #[.slice A l.length cc] w fun e w' => RetI e /\ Ext w w' := by
 by_cases h8 : 8 < l.length
 ·go_enter Tryz.func39, Tryz.ntmps39
  go_wp2
  go_ret
  exact ⟨⟨_, rfl⟩, Ext.refl _⟩
 ·have H8 : l.length <= 8 := by omega
  go_enter Tryz.func39, Tryz.ntmps39
  go_wp2_with fail
  go_loopg [3] l.length (fun n v wr => ∃ k : Nat, k + n = l.length /\ v = .int .i64 k /\ Ext w wr)
  case atStart => exact ⟨0, by omega, by go_num, Ext.refl _⟩
  case round =>
   obtain ⟨k, hkn, rfl, hE⟩ := hrel
   have Hkn := Lib.hid hkn
   by_cases hlt : k < l.length
   ·obtain ⟨b, o, rfl, hb, c0, c1, c2⟩ := (hR.ext hE).bl hlt
    obtain ⟨sv, hsv, -⟩ := strV_str l[k].data
    rw [hsv] at c2
    clear hsv
    have f1 := fun w => blk3_any l[k].kind l[k].flags sv w
    go_wp2_with fail
    refine (f1 _).mono ?_
    rintro e w1 ⟨⟨v, rfl⟩, hb1⟩
    by_cases hv : v = 0
    ·subst hv
     go_wp2
     go_roundg (gk - 1)
     case measure => have := Hkn.out; omega
     case rel => exact ⟨k + 1, by have := Hkn.out; omega, by go_num, hE.trans hb1⟩
    ·have zv : (v != 0) = true := by rw [bne_iff_ne]; exact hv
     go_wp2
     go_ret
     exact ⟨⟨_, rfl⟩, hE.trans hb1⟩
   ·clear hkn
    go_wp2_with fail
    go_loopg [5] l.length (fun n v wq => ∃ k : Nat, 1 <= k /\ k + n = l.length + 1 /\ v = .int .i64 k /\ Ext w wq)
    case atStart => exact ⟨1, by omega, by omega, by go_num, hE⟩
    case round =>
     obtain ⟨j, hj1, hjn, rfl, hE2⟩ := hrel
     have Hjn := Lib.hid hjn
     by_cases hlt2 : j < l.length
     ·obtain ⟨i, rfl⟩ : ∃ i, j = i + 1 := ⟨j - 1, by omega⟩
      obtain ⟨b, o, rfl, hb, c0, _, _⟩ := (hR.ext hE2).bl hlt2
      obtain ⟨b', o', e', hb', d0, _, _⟩ := (hR.ext hE2).bl (show i < l.length by omega)
      injection e' with e'
      injection e' with e1 e2
      subst e1 e2
      generalize l[i + 1] = x at *
      generalize l[i] = y at *
      clear hjn
      have hN := Near.refl wr
      by_cases hle : x.kind <= y.kind
      ·go_wp2
       have hq := quiet_near hN
       refine wp_region_quiet_below (by kernel_rfl) (by kernel_rfl) ?_
       repeat (first | go_big_quiet_skip | (go_big_quiet_want; go_big_quiet_op; first | go_big_quiet_on | (apply Exists.intro; refine ⟨fun _ => ?_, ?_⟩; (focus (first | fail)); go_big_quiet_on)))
       refine wpQuiet_nil ?_
       intro w1 hw1
       clear hq
       replace hw1 := quiet_ext hw1
       replace hN := hN.step hw1
       have hC := hN.2
       go_wp2
       go_ret
       exact ⟨⟨_, rfl⟩, hE2.trans hN.1⟩
      ·go_wp2
       have hq := quiet_near hN
       refine wp_region_quiet_below (by kernel_rfl) (by kernel_rfl) ?_
       repeat (first | go_big_quiet_skip | (go_big_quiet_want; go_big_quiet_op; first | go_big_quiet_on | (apply Exists.intro; refine ⟨fun _ => ?_, ?_⟩; (focus (first | fail)); go_big_quiet_on)))
       refine wpQuiet_nil ?_
       intro w1 hw1
       clear hq
       replace hw1 := quiet_ext hw1
       replace hN := hN.step hw1
       have hC := hN.2
       go_wp2
       go_roundg (gk - 1)
       case measure => have := Hjn.out; omega
       case rel => exact ⟨i + 1 + 1, by omega, by have := Hjn.out; omega, by go_num, hE2.trans hN.1⟩
     ·go_wp2
      go_ret
      exact ⟨⟨_, rfl⟩, hE2⟩
end
section
open Go.RowKit Go.Shelf
attribute [local go_sem] Oper.semAt_some
set_option maxHeartbeats 8000000 in
theorem flags3_any (b : Bu) (A : Option Addr) (cap : Nat) (w : World) :
 Calls Tryz.prog 38 #[.agg (b.cells A cap)] w fun e w' => RetB e /\ Ext w w' := by
 obtain ⟨src, cr, seq, off, tot, dk, dn, life, prio, f, bl, pay⟩ := b
 unfold Bu.cells
 dsimp only at *
 generalize strV pay = sv at *
 obtain ⟨W, hW, hB, hk, hlt⟩ := box1 w #[.int .i64 src, .int .i64 cr, .int .i64 seq, .int .i64 off, .int .i64 tot, .int .i64 dk, .int .i64 dn, .int .i64 life, .int .i64 prio, .int .i64 f, .slice A bl.length cap, sv] 29
 have hc := hk.cell
 by_cases x1 : f < 0
 ·go_enter Tryz.func38, Tryz.ntmps38
  go_wp2
  go_ret
  exact ⟨⟨_, rfl⟩, hB⟩
 by_cases x2 : 127 < f
 ·go_enter Tryz.func38, Tryz.ntmps38
  go_wp2
  go_ret
  exact ⟨⟨_, rfl⟩, hB⟩
 have f1 := fun w => has3_any f 4 (by omega) (by omega) w
 have f2 := fun w => has3_any f 64 (by omega) (by omega) w
 have f3 := fun w => has3_any f 2 (by omega) (by omega) w
 go_enter Tryz.func38, Tryz.ntmps38
 go_wp2_with fail
 clear hW
 refine (f1 _).mono ?_
 rintro e w1 ⟨⟨v1, rfl⟩, hb1⟩
 have hk1 := hk.ext hb1
 have hc1 := hk1.cell
 have hl1 := hk1.lt
 have hE1 := hB.trans hb1
 clear hc
 have hq : ∀ w2, Ext w1 w2 -> Ext w w2 /\ Blk w2 w.heap.size 29 #[.int .i64 src, .int .i64 cr, .int .i64 seq, .int .i64 off, .int .i64 tot, .int .i64 dk, .int .i64 dn, .int .i64 life, .int .i64 prio, .int .i64 f, .slice A bl.length cap, sv] := fun w2 h => ⟨hE1.trans h, hk1.ext h⟩
 have Hq := Lib.hid hq
 clear hq
 cases v1 with
 | true =>
   go_wp2_with fail
   refine (f2 _).mono ?_
   rintro e w2 ⟨⟨v2, rfl⟩, hb2⟩
   obtain ⟨hE2, hk2⟩ := Hq.out _ hb2
   have hc2 := hk2.cell
   have hl2 := hk2.lt
   clear hc1 hl1
   cases v2 with
   | true =>
     go_wp2
     go_ret
     exact ⟨⟨_, rfl⟩, hE2⟩
   | false =>
     by_cases y1 : tot = 0
     ·subst y1
      go_wp2
      go_ret
      exact ⟨⟨_, rfl⟩, hE2⟩
     ·have z1 : (tot == 0) = false := by rw [beq_eq_false_iff_ne]; exact y1
      go_wp2_with fail
      refine (f3 _).mono ?_
      rintro e w3 ⟨⟨v3, rfl⟩, hb3⟩
      go_wp2
      go_ret
      exact ⟨⟨_, rfl⟩, hE2.trans hb3⟩
 | false =>
   by_cases y1 : tot = 0
   ·subst y1
    go_wp2
    go_ret
    exact ⟨⟨_, rfl⟩, hE1⟩
   ·have z1 : (tot == 0) = false := by rw [beq_eq_false_iff_ne]; exact y1
    go_wp2_with fail
    refine (f3 _).mono ?_
    rintro e w3 ⟨⟨v3, rfl⟩, hb3⟩
    go_wp2
    go_ret
    exact ⟨⟨_, rfl⟩, hE1.trans hb3⟩
end
end Go.Proofs.YtemkpimngbbpkaaGreat
