/- Update: follows. -/
import Derived.Test.YtemkpimngbbpkaaGreatQt07
namespace Go.Proofs.YtemkpimngbbpkaaGreat
set_option linter.unusedVariables false
set_option linter.unusedSimpArgs false
open Go.RowKit Go.Shelf
attribute [local go_sem] Oper.semAt_some
set_option maxRecDepth 100000 in
set_option maxHeartbeats 8000000 in
theorem fol_some (y x : Chg) (b o : Nat) (w : World) (hb : b < w.heap.size) (c0 : w.cell? ⟨b, o, none⟩ = some (.int .i64 y.org)) (c1 : w.cell? ⟨b, o + 1, none⟩ = some (.int .i64 y.cnt)) (c2 : w.cell? ⟨b, o + 2, none⟩ = some (.int .i64 y.stp)) (hc : 0 <= y.cnt /\ y.cnt <= 1000000) :
 Calls Tryz.prog 75 #[.pointer (some ⟨b, o, none⟩), .agg x.arr] w fun e w' => e = .returned (.int .i64 (folE (some y) x)) /\ Ext w w' := by
 obtain ⟨v, hv⟩ : ∃ v, folE (some y) x = v := ⟨_, rfl⟩
 rw [hv]
 unfold folE at hv
 dsimp only at hv
 have HV := Lib.hid hv
 unfold Chg.arr
 obtain ⟨W1, hW1, hB1, hk1, hl1⟩ := box1 w #[.int .i64 x.org, .int .i64 x.cnt, .int .i64 x.stp, .int .i64 x.kind, .int .i64 x.con.src, .int .i64 x.con.dst, .int .i64 x.con.st, .int .i64 x.con.en, .int .i64 x.con.rate, .int .i64 x.con.rng, .int .i64 x.con.loss] 63
 have d1 := hk1.cell
 have hbW : b < W1.heap.size := Nat.lt_of_lt_of_le hb hB1.size
 have y0 := (hB1.cell (p := ⟨b, o, none⟩) hb).trans c0
 have y1 := (hB1.cell (p := ⟨b, o + 1, none⟩) hb).trans c1
 have y2 := (hB1.cell (p := ⟨b, o + 2, none⟩) hb).trans c2
 clear hv c0 c1 c2
 generalize x.org = xo at *
 generalize x.cnt = xc at *
 generalize x.stp = xs at *
 generalize y.org = yo at *
 generalize y.cnt = yc at *
 generalize y.stp = ys at *
 obtain ⟨hc1, hc2⟩ := hc
 by_cases h1 : xo < yo
 case pos =>
  have s1 : (yo == xo) = false := by rw [beq_eq_false_iff_ne]; omega
  have HX := Lib.hid (show v = 9 by rw [<- HV.out, if_pos (.inl h1)])
  go_enter Tryz.func75, Tryz.ntmps75
  go_wp2_with fail
  clear hW1
  go_region
  go_wp2_with fail
  go_region
  go_wp2
  go_ret
  exact ⟨by rw [HX.out]; rfl, ((hB1).drew).drew⟩
 by_cases h2 : yo = xo
 case pos =>
  subst h2
  have s1 : (yo == yo) = true := by rw [beq_iff_eq]
  by_cases h3 : xc <= yc
  case pos =>
   have HX := Lib.hid (show v = 9 by rw [<- HV.out, if_pos (.inr ⟨rfl, h3⟩)])
   go_enter Tryz.func75, Tryz.ntmps75
   go_wp2_with fail
   clear hW1
   go_region
   go_wp2_with fail
   go_region
   go_wp2
   go_ret
   exact ⟨by rw [HX.out]; rfl, ((hB1).drew).drew⟩
  have n1 : ¬ (yo < yo ∨ (yo = yo /\ xc <= yc)) := by omega
  by_cases h4 : xc = yc + 1
  case neg =>
   have s2 : (xc != yc + 1) = true := by rw [bne_iff_ne]; exact h4
   have HX := Lib.hid (show v = 25 by rw [<- HV.out, if_neg n1, if_pos rfl, if_pos h4])
   clear n1 h4
   go_enter Tryz.func75, Tryz.ntmps75
   go_wp2_with fail
   clear hW1
   go_region
   go_wp2_with fail
   go_region
   go_wp2_with fail
   go_region
   go_wp2
   go_ret
   exact ⟨by rw [HX.out]; rfl, (((hB1).drew).drew).drew⟩
  have s2 : (xc != yc + 1) = false := by rw [bne_eq_false_iff_eq]; exact h4
  by_cases h5 : xs <= ys
  case pos =>
   have HX := Lib.hid (show v = 9 by rw [<- HV.out, if_neg n1, if_pos rfl, if_neg (fun h => h h4), if_pos h5])
   clear n1 h4
   go_enter Tryz.func75, Tryz.ntmps75
   go_wp2_with fail
   clear hW1
   go_region
   go_wp2_with fail
   go_region
   go_wp2_with fail
   go_region
   go_wp2_with fail
   go_region
   go_wp2
   go_ret
   exact ⟨by rw [HX.out]; rfl, ((((hB1).drew).drew).drew).drew⟩
  have HX := Lib.hid (show v = 0 by rw [<- HV.out, if_neg n1, if_pos rfl, if_neg (fun h => h h4), if_neg h5])
  clear n1 h4
  go_enter Tryz.func75, Tryz.ntmps75
  go_wp2_with fail
  clear hW1
  go_region
  go_wp2_with fail
  go_region
  go_wp2_with fail
  go_region
  go_wp2_with fail
  go_region
  go_wp2
  go_ret
  exact ⟨by rw [HX.out]; rfl, ((((hB1).drew).drew).drew).drew⟩
 have s1 : (yo == xo) = false := by rw [beq_eq_false_iff_ne]; exact h2
 have e1 : decide (xo < yo) = false := decide_eq_false h1
 have n1 : ¬ (xo < yo ∨ (yo = xo /\ xc <= yc)) := by omega
 by_cases h6 : xc = 1
 case neg =>
  have s2 : (xc != 1) = true := by rw [bne_iff_ne]; exact h6
  have HX := Lib.hid (show v = 25 by rw [<- HV.out, if_neg n1, if_neg h2, if_pos h6])
  clear n1 h2 h6
  go_enter Tryz.func75, Tryz.ntmps75
  go_wp2_with fail
  clear hW1
  go_region
  go_wp2_with fail
  go_region
  go_wp2_with fail
  go_region
  go_wp2
  go_ret
  exact ⟨by rw [HX.out]; rfl, (((hB1).drew).drew).drew⟩
 have s2 : (xc != 1) = false := by rw [bne_eq_false_iff_eq]; exact h6
 have HX := Lib.hid (show v = 0 by rw [<- HV.out, if_neg n1, if_neg h2, if_neg (fun h => h h6)])
 clear n1 h2 h6
 go_enter Tryz.func75, Tryz.ntmps75
 go_wp2_with fail
 clear hW1
 go_region
 go_wp2_with fail
 go_region
 go_wp2_with fail
 go_region
 go_wp2_with fail
 go_region
 go_wp2
 go_ret
 exact ⟨by rw [HX.out]; rfl, ((((hB1).drew).drew).drew).drew⟩
end Go.Proofs.YtemkpimngbbpkaaGreat
