/- Update: gaps; a function value that answers of a change. -/
import Derived.BigQuiet
import Derived.Test.YtemkpimngbbpkaaGreatQc34
namespace Go.Proofs.YtemkpimngbbpkaaGreat
set_option linter.unusedVariables false
set_option linter.unusedSimpArgs false
open Go.RowKit Go.Shelf Go.Sort
attribute [local go_sem] Oper.semAt_some
theorem fol_facts {y x : Chg} (h : folE (some y) x = 0) : (y.org = x.org /\ x.cnt = y.cnt + 1 /\ y.stp < x.stp) ∨ (y.org ≠ x.org /\ x.cnt = 1) := by
 unfold folE at h
 dsimp only at h
 split at h
 ·omega
 ·split at h
  ·rename_i e
   split at h
   ·omega
   ·split at h
    ·omega
    ·left; omega
  ·rename_i e
   split at h
   ·omega
   ·right; exact ⟨e, by omega⟩
theorem fol_facts0 {x : Chg} (h : folE none x = 0) : x.cnt = 1 := by
 unfold folE at h
 dsimp only at h
 split at h <;> omega
set_option maxRecDepth 100000 in
set_option maxHeartbeats 16000000 in
theorem gaps_ok (n : Int) (A : Option Addr) (cc : Nat) (l : List Chg) (w : World) (hR : Rd EChg w A l) (h0 : chkF n none l = 0) (hb : ∀ y ∈ l, ChB y) (hl : l.length <= 1000000) :
 Calls Tryz.prog 63 #[.slice A l.length cc] w fun e w' => e = .returned (.tuple #[.bool false, .bool false]) /\ Ext w w' := by
 have HF := Lib.hid (fun i h => (chkF_at h0 i h).2)
 have HB := Lib.hid hb
 clear h0 hb
 go_enter Tryz.func63, Tryz.ntmps63
 go_wp2_with fail
 go_loopg [4, 5, 11] l.length (fun m v4 v5 v wr => ∃ k : Nat, k + m = l.length /\ v = .int .i64 k /\ v4 = .bool false /\ v5 = .bool false /\ Ext w wr)
 case atStart => exact ⟨0, by omega, by go_num, rfl, rfl, Ext.refl _⟩
 case round =>
  obtain ⟨k, hkn, rfl, rfl, rfl, hE⟩ := hrel
  have Hkn := Lib.hid hkn
  by_cases hlt : k < l.length
  ·obtain ⟨b, o, rfl, hbb, a0, a1, a2, a3, a4, a5, a6, a7, a8, a9, a10⟩ := (hR.ext hE).chg hlt
   have hf := HF.out k hlt
   rcases Nat.eq_zero_or_pos k with hk0 | hk0
   ·rw [if_pos hk0] at hf
    have hc1 := fol_facts0 hf
    have hd0 : decide (0 < (k : Int)) = false := decide_eq_false (by omega)
    have hd0n : decide (0 < k) = false := decide_eq_false (by omega)
    generalize l[k] = x at *
    obtain ⟨xo, xc, xs, xk, ⟨xsrc, xdst, xst, xen, xrate, xrng, xloss⟩⟩ := x
    dsimp only at a0 a1 a2 a3 a4 a5 a6 a7 a8 a9 a10 hc1
    subst hc1
    obtain ⟨W5, hW5, hB5, hk5, hl5⟩ := box1 wr #[.int .i64 xo, .int .i64 1, .int .i64 xs, .int .i64 xk, .int .i64 xsrc, .int .i64 xdst, .int .i64 xst, .int .i64 xen, .int .i64 xrate, .int .i64 xrng, .int .i64 xloss] 63
    have f4 := hk5.cell
    clear hf hkn hk0
    have hN := Near.refl W5
    go_wp2_with fail
    clear hW5
    have hq := quiet_near hN
    refine wp_region_quiet_below (by kernel_rfl) (by kernel_rfl) ?_
    repeat (first | go_big_quiet_skip | (go_big_quiet_want; go_big_quiet_op; first | go_big_quiet_on | (apply Exists.intro; refine ⟨fun _ => ?_, ?_⟩; (focus (first | fail)); go_big_quiet_on)))
    refine wpQuiet_nil ?_
    intro w1 hw1
    clear hq
    replace hw1 := quiet_ext hw1
    replace hN := hN.step hw1
    have hC := hN.2
    go_wp2_with fail
    have hq := quiet_near hN
    refine wp_region_quiet_below (by kernel_rfl) (by kernel_rfl) ?_
    repeat (first | go_big_quiet_skip | (go_big_quiet_want; go_big_quiet_op; first | go_big_quiet_on | (apply Exists.intro; refine ⟨fun _ => ?_, ?_⟩; (focus (first | fail)); go_big_quiet_on)))
    refine wpQuiet_nil ?_
    intro w1 hw1
    clear hq
    replace hw1 := quiet_ext hw1
    replace hN := hN.step hw1
    have hC := hN.2
    go_wp2_with fail
    have hq := quiet_near hN
    refine wp_region_quiet_below (by kernel_rfl) (by kernel_rfl) ?_
    repeat (first | go_big_quiet_skip | (go_big_quiet_want; go_big_quiet_op; first | go_big_quiet_on | (apply Exists.intro; refine ⟨fun _ => ?_, ?_⟩; (focus (first | fail)); go_big_quiet_on)))
    refine wpQuiet_nil ?_
    intro w1 hw1
    clear hq
    replace hw1 := quiet_ext hw1
    replace hN := hN.step hw1
    have hC := hN.2
    go_wp2
    go_roundg (gk - 1)
    case measure => have := Hkn.out; omega
    case rel => exact ⟨k + 1, by have := Hkn.out; omega, by go_num, rfl, rfl, (hE.trans hB5).trans hN.1⟩
   ·obtain ⟨j, rfl⟩ : ∃ j, k = j + 1 := ⟨k - 1, by omega⟩
    have hj : j < l.length := by omega
    rw [if_neg (by omega), show j + 1 - 1 = j by omega, List.getElem?_eq_getElem hj] at hf
    have hy := HB.out _ (List.getElem_mem hj)
    have hx := HB.out _ (List.getElem_mem hlt)
    have hfa := Lib.hid (fol_facts hf)
    obtain ⟨bx, ox, ex, _, d0, d1, d2, _⟩ := (hR.ext hE).chg hj
    injection ex with ex
    injection ex with e1 e2
    subst e1 e2
    generalize l[j + 1] = x at *
    generalize l[j] = y at *
    obtain ⟨xo, xc, xs, xk, ⟨xsrc, xdst, xst, xen, xrate, xrng, xloss⟩⟩ := x
    obtain ⟨yo, yc, ys, yk, ⟨ysrc, ydst, yst, yen, yrate, yrng, yloss⟩⟩ := y
    unfold ChB at hx hy
    dsimp only at a0 a1 a2 a3 a4 a5 a6 a7 a8 a9 a10 d0 d1 d2 hx hy hfa
    obtain ⟨⟨y1, y2⟩, y3, y4⟩ := hy
    obtain ⟨⟨x1, x2⟩, x3, x4⟩ := hx
    obtain ⟨W5, hW5, hB5, hk5, hl5⟩ := box1 wr #[.int .i64 xo, .int .i64 xc, .int .i64 xs, .int .i64 xk, .int .i64 xsrc, .int .i64 xdst, .int .i64 xst, .int .i64 xen, .int .i64 xrate, .int .i64 xrng, .int .i64 xloss] 63
    have f4 := hk5.cell
    clear hf hkn hk0
    have hN := Near.refl W5
    have D0 := hB5.cell_some d0
    have D1 := hB5.cell_some d1
    have D2 := hB5.cell_some d2
    have hbW : b < W5.heap.size := Nat.lt_of_lt_of_le hbb hB5.size
    rcases hfa.out with ⟨g1, g2, g3⟩ | ⟨g1, g2⟩
    ·have hd0 : decide (0 < (j : Int) + 1) = true := decide_eq_true (by omega)
     have hd1 : decide (xs <= ys) = false := decide_eq_false (by omega)
     subst g1 g2
     go_wp2_with fail
     clear hW5
     have hq := quiet_near hN
     refine wp_region_quiet_below (by kernel_rfl) (by kernel_rfl) ?_
     repeat (first | go_big_quiet_skip | (go_big_quiet_want; go_big_quiet_op; first | go_big_quiet_on | (apply Exists.intro; refine ⟨fun _ => ?_, ?_⟩; (focus (first | fail)); go_big_quiet_on)))
     refine wpQuiet_nil ?_
     intro w1 hw1
     clear hq
     replace hw1 := quiet_ext hw1
     replace hN := hN.step hw1
     have hC := hN.2
     go_wp2_with fail
     have hq := quiet_near hN
     refine wp_region_quiet_below (by kernel_rfl) (by kernel_rfl) ?_
     repeat (first | go_big_quiet_skip | (go_big_quiet_want; go_big_quiet_op; first | go_big_quiet_on | (apply Exists.intro; refine ⟨fun _ => ?_, ?_⟩; (focus (first | fail)); go_big_quiet_on)))
     refine wpQuiet_nil ?_
     intro w1 hw1
     clear hq
     replace hw1 := quiet_ext hw1
     replace hN := hN.step hw1
     have hC := hN.2
     go_wp2_with fail
     have hq := quiet_near hN
     refine wp_region_quiet_below (by kernel_rfl) (by kernel_rfl) ?_
     repeat (first | go_big_quiet_skip | (go_big_quiet_want; go_big_quiet_op; first | go_big_quiet_on | (apply Exists.intro; refine ⟨fun _ => ?_, ?_⟩; (focus (first | fail)); go_big_quiet_on)))
     refine wpQuiet_nil ?_
     intro w1 hw1
     clear hq
     replace hw1 := quiet_ext hw1
     replace hN := hN.step hw1
     have hC := hN.2
     go_wp2
     go_roundg (gk - 1)
     case measure => have := Hkn.out; omega
     case rel => exact ⟨j + 1 + 1, by have := Hkn.out; omega, by go_num, rfl, rfl, (hE.trans hB5).trans hN.1⟩
    ·have hd0 : decide (0 < (j : Int) + 1) = true := decide_eq_true (by omega)
     subst g2
     have z1 : (yo == xo) = false := by rw [beq_eq_false_iff_ne]; exact g1
     go_wp2_with fail
     clear hW5
     have hq := quiet_near hN
     refine wp_region_quiet_below (by kernel_rfl) (by kernel_rfl) ?_
     repeat (first | go_big_quiet_skip | (go_big_quiet_want; go_big_quiet_op; first | go_big_quiet_on | (apply Exists.intro; refine ⟨fun _ => ?_, ?_⟩; (focus (first | fail)); go_big_quiet_on)))
     refine wpQuiet_nil ?_
     intro w1 hw1
     clear hq
     replace hw1 := quiet_ext hw1
     replace hN := hN.step hw1
     have hC := hN.2
     go_wp2_with fail
     have hq := quiet_near hN
     refine wp_region_quiet_below (by kernel_rfl) (by kernel_rfl) ?_
     repeat (first | go_big_quiet_skip | (go_big_quiet_want; go_big_quiet_op; first | go_big_quiet_on | (apply Exists.intro; refine ⟨fun _ => ?_, ?_⟩; (focus (first | fail)); go_big_quiet_on)))
     refine wpQuiet_nil ?_
     intro w1 hw1
     clear hq
     replace hw1 := quiet_ext hw1
     replace hN := hN.step hw1
     have hC := hN.2
     go_wp2_with fail
     have hq := quiet_near hN
     refine wp_region_quiet_below (by kernel_rfl) (by kernel_rfl) ?_
     repeat (first | go_big_quiet_skip | (go_big_quiet_want; go_big_quiet_op; first | go_big_quiet_on | (apply Exists.intro; refine ⟨fun _ => ?_, ?_⟩; (focus (first | fail)); go_big_quiet_on)))
     refine wpQuiet_nil ?_
     intro w1 hw1
     clear hq
     replace hw1 := quiet_ext hw1
     replace hN := hN.step hw1
     have hC := hN.2
     go_wp2
     go_roundg (gk - 1)
     case measure => have := Hkn.out; omega
     case rel => exact ⟨j + 1 + 1, by have := Hkn.out; omega, by go_num, rfl, rfl, (hE.trans hB5).trans hN.1⟩
  ·go_wp2
   go_ret2
   exact ⟨rfl, hE⟩
structure PredG (w0 : World) (f : FuncId) (cs : Array Value) (p : Chg -> Bool) : Prop where
 enters : ∀ args w, (callFunc f args).run Tryz.prog w = .ok (.enter f args) w
 says : ∀ (x : Chg) (w : World), Ext w0 w -> Calls Tryz.prog f (#[.agg #[.int .i64 x.org, .int .i64 x.cnt, .int .i64 x.stp, .int .i64 x.kind, .int .i64 x.con.src, .int .i64 x.con.dst, .int .i64 x.con.st, .int .i64 x.con.en, .int .i64 x.con.rate, .int .i64 x.con.rng, .int .i64 x.con.loss]] ++ cs) w fun e w' => e = .returned (.bool (p x)) /\ Ext w w'
set_option maxHeartbeats 4000000 in
theorem indexG_none (A : Option Addr) (c : Nat) (l : List Chg) (f : FuncId) (cs : Array Value) (p : Chg -> Bool) (w : World) (hA : Rd EChg w A l) (hmax : l.length <= 1000000) (hp : PredG w f cs p) (hno : ∀ x ∈ l, p x = false) :
 Calls Tryz.prog 142 #[.slice A l.length c, .func (.func f) #[] cs] w fun e w' => e = .returned (.int .i64 (-1)) /\ Ext w w' := by
 have hen := hp.enters
 have HN := Lib.hid hno
 clear hno
 go_enter Tryz.func142, Tryz.ntmps142
 go_wp2
 go_loopg [8] l.length (fun n i wr => ∃ k : Nat, k + n = l.length /\ i = .int .i64 k /\ Ext w wr)
 case atStart => exact ⟨0, by omega, by go_num, Ext.refl _⟩
 case round =>
  obtain ⟨k, hkn, rfl, hN⟩ := hrel
  have Hkn := Lib.hid hkn
  by_cases hlt : k < l.length
  ·obtain ⟨b, o, rfl, hb, c0, c1, c2, c3, c4, c5, c6, c7, c8, c9, c10⟩ := (hA.ext hN).chg hlt
   have hpx := HN.out _ (List.getElem_mem hlt)
   generalize l[k] = x at *
   clear hkn
   go_wp2_with fail
   refine (hp.says x _ hN).mono ?_
   rintro e w1 ⟨rfl, hb1⟩
   rw [hpx]
   go_wp2
   go_roundg (gk - 1)
   case measure => have := Hkn.out; omega
   case rel => exact ⟨k + 1, by have := Hkn.out; omega, by go_num, hN.trans hb1⟩
  ·go_wp2
   go_ret
   exact ⟨rfl, hN⟩
set_option maxHeartbeats 1000000 in
theorem containsG_none (A : Option Addr) (c : Nat) (l : List Chg) (f : FuncId) (cs : Array Value) (p : Chg -> Bool) (w : World) (hA : Rd EChg w A l) (hmax : l.length <= 1000000) (hp : PredG w f cs p) (hno : ∀ x ∈ l, p x = false) :
 Calls Tryz.prog 56 #[.slice A l.length c, .func (.func f) #[] cs] w fun e w' => e = .returned (.bool false) /\ Ext w w' := by
 go_enter Tryz.func56, Tryz.ntmps56
 go_wp2_with fail
 refine (indexG_none A c l f cs p w hA hmax hp hno).mono ?_
 rintro e w1 ⟨rfl, hb⟩
 go_wp2
 go_ret
 exact ⟨rfl, hb⟩
theorem mrg1_pred (n : Int) (sl : Value) (g : Nat) (w : World) (hg : Blk w g 56 #[.int .i64 n, sl]) : PredG w 57 #[.pointer (some ⟨g, 0, none⟩)] (fun x => !x.ok n) := by
 refine ⟨enters_of Tryz.func57 (by kernel_rfl) rfl, fun x w1 hw => ?_⟩
 obtain ⟨W, hW, hB, hk, hlt⟩ := box1 w1 #[.int .i64 x.org, .int .i64 x.cnt, .int .i64 x.stp, .int .i64 x.kind, .int .i64 x.con.src, .int .i64 x.con.dst, .int .i64 x.con.st, .int .i64 x.con.en, .int .i64 x.con.rate, .int .i64 x.con.rng, .int .i64 x.con.loss] 63
 have hc := hk.cell
 have hd := ((hg.ext hw).ext hB).cell
 have he := ((hg.ext hw).ext hB).lt
 have ho := fun w => vChg_any n x w
 unfold Chg.arr at ho
 obtain ⟨v, hv⟩ : ∃ v, x.ok n = v := ⟨_, rfl⟩
 rw [hv] at ho ⊢
 clear hv
 go_enter Tryz.func57, Tryz.ntmps57
 go_wp2_with fail
 clear hW
 refine (ho _).mono ?_
 rintro e w2 ⟨rfl, hb2⟩
 go_wp2
 go_ret
 exact ⟨rfl, hB.trans hb2⟩
end Go.Proofs.YtemkpimngbbpkaaGreat
