/- Update: what makes a change valid. -/
import Derived.Laws.StructEq
import Derived.LaidEql
import Derived.BigRegion
import Derived.Test.YtemkpimngbbpkaaGreatQt01
import Derived.Test.YtemkpimngbbpkaaGreatQt02
import Derived.Test.YtemkpimngbbpkaaGreatQt03
import Derived.Test.YtemkpimngbbpkaaGreatQt04
namespace Go.Proofs.YtemkpimngbbpkaaGreat
set_option linter.unusedVariables false
set_option linter.unusedSimpArgs false
open Go.RowKit Go.Shelf
attribute [local go_sem] Oper.semAt_some
theorem ins_any (g : Nat) (n i : Int) (w : World) (hg : Blk w g 3 #[.int .i64 n]) :
 Calls Tryz.prog 214 #[.int .i64 i, .pointer (some ⟨g, 0, none⟩)] w fun e w' => e = .returned (.bool (inN n i)) /\ w = w' := by
 have hc := hg.cell
 have hl := hg.lt
 unfold inN
 by_cases h1 : 0 <= i
 ·by_cases h2 : i < n
  ·rw [decide_eq_true (show 0 <= i /\ i < n from ⟨h1, h2⟩)]
   go_enter Tryz.func214, Tryz.ntmps214
   go_wp2
   go_ret
   exact ⟨rfl, rfl⟩
  ·rw [decide_eq_false (show ¬ (0 <= i /\ i < n) from fun h => h2 h.2)]
   go_enter Tryz.func214, Tryz.ntmps214
   go_wp2
   go_ret
   exact ⟨rfl, rfl⟩
 ·rw [decide_eq_false (show ¬ (0 <= i /\ i < n) from fun h => h1 h.1)]
  go_enter Tryz.func214, Tryz.ntmps214
  go_wp2
  go_ret
  exact ⟨rfl, rfl⟩
def Chg.arr (x : Chg) : Array Value := #[.int .i64 x.org, .int .i64 x.cnt, .int .i64 x.stp, .int .i64 x.kind, .int .i64 x.con.src, .int .i64 x.con.dst, .int .i64 x.con.st, .int .i64 x.con.en, .int .i64 x.con.rate, .int .i64 x.con.rng, .int .i64 x.con.loss]
set_option maxRecDepth 100000 in
set_option maxHeartbeats 16000000 in
theorem vCon_any (n : Int) (x : Chg) (w : World) :
 Calls Tryz.prog 143 #[.int .i64 n, .agg x.arr] w fun e w' => e = .returned (.bool (x.cok n)) /\ Ext w w' := by
 obtain ⟨org, cnt, stp, kind, c⟩ := x
 obtain ⟨v, hv⟩ : ∃ v, Chg.cok n ⟨org, cnt, stp, kind, c⟩ = v := ⟨_, rfl⟩
 rw [hv]
 unfold Chg.cok at hv
 dsimp only at hv
 have HV := Lib.hid hv
 clear hv
 unfold Chg.arr
 dsimp only
 have fc := fun w => check_any c w
 unfold Con.val at fc
 have hib := fun h : c.isBare = true => (show c.en = 0 /\ c.rate = 0 /\ c.rng = 0 /\ c.loss = 0 by simpa [Con.isBare] using h)
 have hnb := fun h : c.isBare = false => (show ¬ (c.en = 0 /\ c.rate = 0 /\ c.rng = 0 /\ c.loss = 0) from fun h2 => by simp [Con.isBare, h2] at h)
 obtain ⟨ck, hck⟩ : ∃ ck, c.check = ck := ⟨_, rfl⟩
 rw [hck] at fc HV
 obtain ⟨bb, hbb⟩ : ∃ bb, c.isBare = bb := ⟨_, rfl⟩
 rw [hbb] at HV hib hnb
 obtain ⟨src, dst, st, en, rate, rng, loss⟩ := c
 dsimp only at *
 obtain ⟨W1, hW1, hB1, hk1, hl1⟩ := box1 w #[.int .i64 n] 3
 obtain ⟨W2, hW2, hB2, hk2, hl2⟩ := box1 W1 #[.int .i64 org, .int .i64 cnt, .int .i64 stp, .int .i64 kind, .int .i64 src, .int .i64 dst, .int .i64 st, .int .i64 en, .int .i64 rate, .int .i64 rng, .int .i64 loss] 63
 have c2 := hk2.cell
 obtain ⟨W3, hW3, hB3, hk3, hl3⟩ := box1 W2 #[.int .i64 src, .int .i64 dst, .int .i64 st, .int .i64 en, .int .i64 rate, .int .i64 rng, .int .i64 loss] 61
 have c3 := hk3.cell
 have kx3 := hk2.ext hB3
 have c4 := kx3.cell
 have c5 := kx3.lt
 have hE := (hB1.trans hB2).trans hB3
 have hn3 := (hk1.ext hB2).ext hB3
 have fi := fun i => ins_any w.heap.size n i W3 hn3
 have hen : ∀ args w, (callFunc 214 args).run Tryz.prog w = .ok (.enter 214 args) w := enters_of Tryz.func214 (by kernel_rfl) rfl
 clear hck hbb
 cases i1 : inN n src
 case false =>
  have fs := fi src
  rw [i1] at fs HV
  have HX := Lib.hid (show v = false by rw [<- HV.out]; rfl)
  clear fi
  go_enter Tryz.func143, Tryz.ntmps143
  go_wp2_with fail
  clear hW1 hW2 hW3
  refine fs.mono ?_
  rintro e w4 ⟨rfl, rfl⟩
  go_wp2
  go_ret
  exact ⟨by rw [HX.out]; rfl, hE⟩
 cases i2 : inN n dst
 case false =>
  have fs := fi src
  have fd := fi dst
  rw [i1] at fs HV
  rw [i2] at fd HV
  have HX := Lib.hid (show v = false by rw [<- HV.out]; rfl)
  clear fi
  go_enter Tryz.func143, Tryz.ntmps143
  go_wp2_with fail
  clear hW1 hW2 hW3
  refine fs.mono ?_
  rintro e w4 ⟨rfl, rfl⟩
  go_wp2_with fail
  refine fd.mono ?_
  rintro e w4 ⟨rfl, rfl⟩
  go_wp2
  go_ret
  exact ⟨by rw [HX.out]; rfl, hE⟩
 have fs := fi src
 have fd := fi dst
 rw [i1] at fs HV
 rw [i2] at fd HV
 simp only [Bool.true_and] at HV
 clear fi i1 i2
 by_cases k1 : kind = 1
 ·subst k1
  have HX := Lib.hid (show v = decide (ck = 0) by rw [<- HV.out, if_pos rfl])
  go_enter Tryz.func143, Tryz.ntmps143
  go_wp2_with fail
  clear hW1 hW2 hW3
  refine fs.mono ?_
  rintro e w4 ⟨rfl, rfl⟩
  go_wp2_with fail
  refine fd.mono ?_
  rintro e w4 ⟨rfl, rfl⟩
  go_wp2_with fail
  refine (fc _).mono ?_
  rintro e w5 ⟨rfl, hb5⟩
  go_wp2
  go_ret
  exact ⟨by rw [HX.out]; rfl, hE.trans hb5⟩
 rw [if_neg k1] at HV
 have b1 : (kind == 1) = false := by rw [beq_eq_false_iff_ne]; exact k1
 by_cases k2 : kind = 2
 case neg =>
  have b2 : (kind == 2) = false := by rw [beq_eq_false_iff_ne]; exact k2
  have HX := Lib.hid (show v = false by rw [<- HV.out, if_neg k2])
  clear k1 k2 fc
  go_enter Tryz.func143, Tryz.ntmps143
  go_wp2_with fail
  clear hW1 hW2 hW3
  refine fs.mono ?_
  rintro e w4 ⟨rfl, rfl⟩
  go_wp2_with fail
  refine fd.mono ?_
  rintro e w4 ⟨rfl, rfl⟩
  go_wp2
  go_ret
  exact ⟨by rw [HX.out]; rfl, hE⟩
 subst k2
 rw [if_pos rfl] at HV
 clear k1 b1 fc
 by_cases s1 : src = dst
 case pos =>
  have d1 : (src != dst) = false := by rw [bne_eq_false_iff_eq]; exact s1
  have HX := Lib.hid (show v = false by rw [<- HV.out, decide_eq_false (fun h => h s1)]; rfl)
  clear s1
  go_enter Tryz.func143, Tryz.ntmps143
  go_wp2_with fail
  clear hW1 hW2 hW3
  refine fs.mono ?_
  rintro e w4 ⟨rfl, rfl⟩
  go_wp2_with fail
  refine fd.mono ?_
  rintro e w4 ⟨rfl, rfl⟩
  go_wp2
  go_ret
  exact ⟨by rw [HX.out]; rfl, hE⟩
 have d1 : (src != dst) = true := by rw [bne_iff_ne]; exact s1
 rw [decide_eq_true s1, Bool.true_and] at HV
 clear s1
 by_cases t1 : 0 <= st
 case neg =>
  have HX := Lib.hid (show v = false by rw [<- HV.out, decide_eq_false (fun h => t1 h.1)]; rfl)
  go_enter Tryz.func143, Tryz.ntmps143
  go_wp2_with fail
  clear hW1 hW2 hW3
  refine fs.mono ?_
  rintro e w4 ⟨rfl, rfl⟩
  go_wp2_with fail
  refine fd.mono ?_
  rintro e w4 ⟨rfl, rfl⟩
  go_wp2
  go_ret
  exact ⟨by rw [HX.out]; rfl, hE⟩
 by_cases t2 : st <= 1099511627776
 case neg =>
  have HX := Lib.hid (show v = false by rw [<- HV.out, decide_eq_false (fun h => t2 h.2)]; rfl)
  go_enter Tryz.func143, Tryz.ntmps143
  go_wp2_with fail
  clear hW1 hW2 hW3
  refine fs.mono ?_
  rintro e w4 ⟨rfl, rfl⟩
  go_wp2_with fail
  refine fd.mono ?_
  rintro e w4 ⟨rfl, rfl⟩
  go_wp2
  go_ret
  exact ⟨by rw [HX.out]; rfl, hE⟩
 rw [decide_eq_true (show 0 <= st /\ st <= 1099511627776 from ⟨t1, t2⟩), Bool.true_and] at HV
 have HX := Lib.hid HV.out.symm
 cases bb
 case true =>
  obtain ⟨z1, z2, z3, z4⟩ := hib rfl
  replace z1 := beq_iff_eq.2 z1
  replace z2 := beq_iff_eq.2 z2
  replace z3 := beq_iff_eq.2 z3
  replace z4 := beq_iff_eq.2 z4
  clear hib hnb
  go_enter Tryz.func143, Tryz.ntmps143
  go_wp2_with fail
  clear hW1 hW2 hW3
  refine fs.mono ?_
  rintro e w4 ⟨rfl, rfl⟩
  go_wp2_with fail
  refine fd.mono ?_
  rintro e w4 ⟨rfl, rfl⟩
  go_wp2
  go_ret
  exact ⟨by rw [HX.out]; rfl, hE⟩
 have hz := hnb rfl
 have hz2 : en ≠ 0 ∨ (en = 0 /\ rate ≠ 0) ∨ (en = 0 /\ rate = 0 /\ rng ≠ 0) ∨ (en = 0 /\ rate = 0 /\ rng = 0 /\ loss ≠ 0) := by omega
 clear hib hnb hz
 have hz3 : (en == 0) = false ∨ ((en == 0) = true /\ (rate == 0) = false) ∨ ((en == 0) = true /\ (rate == 0) = true /\ (rng == 0) = false) ∨ ((en == 0) = true /\ (rate == 0) = true /\ (rng == 0) = true /\ (loss == 0) = false) := by
  simp only [beq_eq_false_iff_ne, beq_iff_eq, ne_eq]
  exact hz2
 clear hz2
 rcases hz3 with h1 | ⟨h1, h2⟩ | ⟨h1, h2, h3⟩ | ⟨h1, h2, h3, h4⟩
 all_goals
  go_enter Tryz.func143, Tryz.ntmps143
  go_wp2_with fail
  clear hW1 hW2 hW3
  refine fs.mono ?_
  rintro e w4 ⟨rfl, rfl⟩
  go_wp2_with fail
  refine fd.mono ?_
  rintro e w4 ⟨rfl, rfl⟩
  go_wp2
  go_ret
  exact ⟨by rw [HX.out]; rfl, hE⟩
end Go.Proofs.YtemkpimngbbpkaaGreat
