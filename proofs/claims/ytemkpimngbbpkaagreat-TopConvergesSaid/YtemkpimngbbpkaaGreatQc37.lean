/- Update: Merge. -/
import Derived.Test.YtemkpimngbbpkaaGreatQc29
import Derived.Test.YtemkpimngbbpkaaGreatQc30
import Derived.Test.YtemkpimngbbpkaaGreatQc35
import Derived.Test.YtemkpimngbbpkaaGreatQc36
namespace Go.Proofs.YtemkpimngbbpkaaGreat
set_option linter.unusedVariables false
set_option linter.unusedSimpArgs false
open Go.RowKit Go.Shelf Go.Sort
attribute [local go_sem] Oper.semAt_some
theorem le_of_sorted {x y : Chg} (h : ltOf orgC y x = false) : x.le y := by
 unfold ltOf at h
 rw [decide_eq_false_iff_not, orgC_neg] at h
 exact h
theorem orgC_zero {x y : Chg} (h : orgC x y = 0) : x.org = y.org /\ x.cnt = y.cnt := by
 have h1 : ¬ orgC x y < 0 := by omega
 rw [orgC_neg] at h1
 unfold orgC orL at h
 by_cases e : cmpI x.org y.org = 0
 ·have e1 := cmpI_zero.1 e
  refine ⟨e1, ?_⟩
  simp only [e, orL] at h
  by_cases e2 : cmpI x.cnt y.cnt = 0
  ·exact cmpI_zero.1 e2
  ·simp [e2] at h
 ·simp [e] at h
set_option maxRecDepth 100000 in
set_option maxHeartbeats 16000000 in
theorem uMerge_any (A : Option Addr) (cc : Nat) (h : List Chg) (B : Option Addr) (d : Nat) (l H : List Chg) (w : World) (hA : Rd EChg w A h) (hB : Rd EChg w B l) (h0 : hChk 4 h = 0) (hv : ∀ x ∈ l, x.ok 4 = true) (hl : l.length <= 1000)
 (hk : ∀ a b, a ∈ h ++ l -> b ∈ h ++ l -> a.org = b.org -> a.cnt = b.cnt -> a = b) (hu : H.Pairwise Chg.lt) (hm : ∀ x, x ∈ h ++ l ↔ x ∈ H) (hH : hChk 4 H = 0) (hb : ∀ y ∈ H, ChB y) :
 Calls Tryz.prog 16 #[.agg #[.int .i64 4, .slice A h.length cc], .slice B l.length d] w fun e w' => ∃ u, e = .returned (.tuple #[.agg #[.int .i64 4, u], .int .i64 0]) /\ Owns EChg w' w.heap.size 63 u H /\ Ext w w' := by
 obtain ⟨_, hh, _⟩ := hChk_ok h0
 obtain ⟨_, hHl, _⟩ := hChk_ok hH
 have hHc : chkF 4 none H = 0 := by
  unfold hChk at hH
  rw [if_neg (by omega), if_neg (by omega)] at hH
  exact hH
 have g0 := fun (w : World) (hx : Rd EChg w A h) => hCheck_any 4 A cc h w hx
 rw [h0] at g0
 have HV := Lib.hid (show ∀ x ∈ l, (!x.ok 4) = false from fun x hx => by rw [hv x hx]; rfl)
 have HK := Lib.hid hk
 have HU := Lib.hid hu
 have HM := Lib.hid hm
 have HG := Lib.hid hHc
 have HB := Lib.hid hb
 clear h0 hv hk hu hm hH hb hHc
 obtain ⟨W1, hW1, hB1, hk1, hl1⟩ := box1 w #[.int .i64 4, .slice A h.length cc] 56
 obtain ⟨W2, hW2, hB2, hk2, hl2⟩ := box1 W1 #[.int .i64 0, .slice none 0 0] 56
 have kh := hk1.ext hB2
 have e1 := kh.cell
 have e2 := kh.lt
 have hE2 := hB1.trans hB2
 have y1 := hB1.size
 have y2 := hB2.size
 go_enter Tryz.func16, Tryz.ntmps16
 go_wp2_with fail
 clear hW1 hW2
 refine (g0 _ (hA.ext hE2)).mono ?_
 rintro e w3 ⟨rfl, hb3⟩
 have hE3 := hE2.trans hb3
 have kh3 := kh.ext hb3
 clear e1 e2
 go_wp2_with fail
 refine (containsG_none B d l 57 #[.pointer (some ⟨w.heap.size, 0, none⟩)] _ w3 (hB.ext hE3) (by omega) (mrg1_pred 4 _ w.heap.size w3 kh3) HV.out).mono ?_
 rintro e w4 ⟨rfl, hb4⟩
 have hE4 := hE3.trans hb4
 have kh4 := kh3.ext hb4
 have e1 := kh4.cell
 have e2 := kh4.lt
 obtain ⟨W5, hW5, hB5, hk5, hl5⟩ := box1 w4 #[.slice A h.length cc, .slice B l.length d] 54
 have hE5 := hE4.trans hB5
 go_wp2_with fail
 clear hW5 e1 e2
 refine (concatChg_any A cc h B d l w4.heap.size W5 (hA.ext hE5) (hB.ext hE5) hk5 hh hl).mono ?_
 rintro e w6 ⟨u6, rfl, ho6, hb6⟩
 have hE6 := hE5.trans hb6
 have f6 := sortOrg_all W5.heap.size u6 (h ++ l) w6 ho6 (by rw [List.length_append]; omega)
 go_wp2_with fail
 refine Calls.mono f6 ?_
 clear f6
 rintro e w7 ⟨rfl, ts, hp, hs, ho7, hg7⟩
 have hx7 : Ext W5 w7 := ext_grown hb6 ho6 (Nat.le_refl _) hg7
 have hE7 := hE5.trans hx7
 have htl : ts.length <= 2000 := by rw [hp.length_eq, List.length_append]; omega
 have HEQ := Lib.hid (show ∀ a b, a ∈ ts -> b ∈ ts -> orgC a b = 0 -> a = b from fun a b ha hb he => HK.out a b (hp.mem_iff.1 ha) (hp.mem_iff.1 hb) (orgC_zero he).1 (orgC_zero he).2)
 have HCM := Lib.hid (show cmpct ts = H from cmpct_eq (hs.imp (fun h => le_of_sorted h)) (fun a b ha hb => HK.out a b (hp.mem_iff.1 ha) (hp.mem_iff.1 hb)) HU.out (fun x => (hp.mem_iff).trans (HM.out x)))
 clear hp hs
 obtain ⟨A7, c7, rfl, hR7⟩ := ho7.form
 go_wp2_with fail
 go_loopg [28] ts.length (fun n v wr => ∃ k : Nat, k + n = ts.length /\ v = .int .i64 k /\ Ext w7 wr)
 case atStart => exact ⟨0, by omega, by go_num, Ext.refl _⟩
 case round =>
  obtain ⟨k, hkn, rfl, hE8⟩ := hrel
  have Hkn := Lib.hid hkn
  by_cases hlt : k < ts.length
  ·rcases Nat.eq_zero_or_pos k with hk0 | hk0
   ·obtain ⟨b, o, rfl, hbb, a0, a1, a2, a3, a4, a5, a6, a7, a8, a9, a10⟩ := (hR7.ext hE8).chg hlt
    have hd0 : decide (0 < (k : Int)) = false := decide_eq_false (by omega)
    have hd0n : decide (0 < k) = false := decide_eq_false (by omega)
    generalize ts[k] = x at *
    obtain ⟨xo, xc, xs, xk, ⟨xsrc, xdst, xst, xen, xrate, xrng, xloss⟩⟩ := x
    dsimp only at a0 a1 a2 a3 a4 a5 a6 a7 a8 a9 a10
    obtain ⟨W8, hW8, hB8, hk8, hl8⟩ := box1 wr #[.int .i64 xo, .int .i64 xc, .int .i64 xs, .int .i64 xk, .int .i64 xsrc, .int .i64 xdst, .int .i64 xst, .int .i64 xen, .int .i64 xrate, .int .i64 xrng, .int .i64 xloss] 63
    have f4 := hk8.cell
    clear hkn hk0
    have hN := Near.refl W8
    go_wp2_with fail
    clear hW8
    have hq := quiet_near hN
    refine wp_region_quiet_below (by kernel_rfl) (by kernel_rfl) ?_
    repeat (first | go_big_quiet_skip | (go_big_quiet_want; go_big_quiet_op; first | go_big_quiet_on | (apply Exists.intro; refine ⟨fun _ => ?_, ?_⟩; (focus (first | (go_at_call 61; exact Calls.regrown_of (byOrg_any _ _ _)))); go_big_quiet_on)))
    refine wpQuiet_nil ?_
    intro w1 hw1
    clear hq
    replace hw1 := quiet_ext hw1
    replace hN := hN.step hw1
    have hC := hN.2
    go_wp2
    go_roundg (gk - 1)
    case measure => have := Hkn.out; omega
    case rel => exact ⟨k + 1, by have := Hkn.out; omega, by go_num, (hE8.trans hB8).trans hN.1⟩
   ·obtain ⟨j, rfl⟩ : ∃ j, k = j + 1 := ⟨k - 1, by omega⟩
    have hj : j < ts.length := by omega
    have hd0 : decide (0 < (j : Int) + 1) = true := decide_eq_true (by omega)
    obtain ⟨b, o, rfl, hbb, a0, a1, a2, a3, a4, a5, a6, a7, a8, a9, a10⟩ := (hR7.ext hE8).chg hlt
    obtain ⟨bx, ox, ex, _, d0, d1, d2, d3, d4, d5, d6, d7, d8, d9, d10⟩ := (hR7.ext hE8).chg hj
    injection ex with ex
    injection ex with e1 e2
    subst e1 e2
    have hq1 := HEQ.out _ _ (List.getElem_mem hj) (List.getElem_mem hlt)
    generalize ts[j + 1] = x at *
    generalize ts[j] = y at *
    have HQ1 := Lib.hid hq1
    have hor := fun w => byOrg_any y x w
    have hne := fun w => neqChg_run y x w
    obtain ⟨v, hv⟩ : ∃ v, orgC y x = v := ⟨_, rfl⟩
    rw [hv] at hor
    have HVV := Lib.hid hv
    clear hv hq1
    by_cases hv0 : v = 0
    ·have hyx := HQ1.out (HVV.out.trans hv0)
     have hce : chgEq y x = true := chgEq_iff.2 hyx
     rw [hce] at hne
     clear hyx hce
     subst hv0
     obtain ⟨xo, xc, xs, xk, ⟨xsrc, xdst, xst, xen, xrate, xrng, xloss⟩⟩ := x
     obtain ⟨yo, yc, ys, yk, ⟨ysrc, ydst, yst, yen, yrate, yrng, yloss⟩⟩ := y
     unfold Chg.arr at hor hne
     dsimp only at hor hne a0 a1 a2 a3 a4 a5 a6 a7 a8 a9 a10 d0 d1 d2 d3 d4 d5 d6 d7 d8 d9 d10
     obtain ⟨W8, hW8, hB8, hk8, hl8⟩ := box1 wr #[.int .i64 xo, .int .i64 xc, .int .i64 xs, .int .i64 xk, .int .i64 xsrc, .int .i64 xdst, .int .i64 xst, .int .i64 xen, .int .i64 xrate, .int .i64 xrng, .int .i64 xloss] 63
     have f4 := hk8.cell
     have hbW : b < W8.heap.size := Nat.lt_of_lt_of_le hbb hB8.size
     have D0 := hB8.cell_some d0
     have D1 := hB8.cell_some d1
     have D2 := hB8.cell_some d2
     have D3 := hB8.cell_some d3
     have D4 := hB8.cell_some d4
     have D5 := hB8.cell_some d5
     have D6 := hB8.cell_some d6
     have D7 := hB8.cell_some d7
     have D8 := hB8.cell_some d8
     have D9 := hB8.cell_some d9
     have D10 := hB8.cell_some d10
     clear hkn hk0
     have hN := Near.refl W8
     have hor2 := Lib.hid hor
     clear hor
     go_wp2_with fail
     clear hW8
     have hq := quiet_near hN
     refine wp_region_quiet_below (by kernel_rfl) (by kernel_rfl) ?_
     repeat (first | go_big_quiet_skip | (go_big_quiet_want; go_big_quiet_op; first | go_big_quiet_on | (apply Exists.intro; refine ⟨fun _ => ?_, ?_⟩; (focus (first | (go_at_call 61; exact Calls.regrown_of (hor2.out _)))); go_big_quiet_on)))
     refine wpQuiet_nil ?_
     intro w1 hw1
     clear hq
     replace hw1 := quiet_ext hw1
     replace hN := hN.step hw1
     have hC := hN.2
     go_wp2
     go_roundg (gk - 1)
     case measure => have := Hkn.out; omega
     case rel => exact ⟨j + 1 + 1, by have := Hkn.out; omega, by go_num, (hE8.trans hB8).trans hN.1⟩
    ·have z0 : (v == 0) = false := by rw [beq_eq_false_iff_ne]; exact hv0
     clear hne
     obtain ⟨xo, xc, xs, xk, ⟨xsrc, xdst, xst, xen, xrate, xrng, xloss⟩⟩ := x
     obtain ⟨yo, yc, ys, yk, ⟨ysrc, ydst, yst, yen, yrate, yrng, yloss⟩⟩ := y
     unfold Chg.arr at hor
     dsimp only at hor a0 a1 a2 a3 a4 a5 a6 a7 a8 a9 a10 d0 d1 d2 d3 d4 d5 d6 d7 d8 d9 d10
     obtain ⟨W8, hW8, hB8, hk8, hl8⟩ := box1 wr #[.int .i64 xo, .int .i64 xc, .int .i64 xs, .int .i64 xk, .int .i64 xsrc, .int .i64 xdst, .int .i64 xst, .int .i64 xen, .int .i64 xrate, .int .i64 xrng, .int .i64 xloss] 63
     have f4 := hk8.cell
     have hbW : b < W8.heap.size := Nat.lt_of_lt_of_le hbb hB8.size
     have D0 := hB8.cell_some d0
     have D1 := hB8.cell_some d1
     have D2 := hB8.cell_some d2
     have D3 := hB8.cell_some d3
     have D4 := hB8.cell_some d4
     have D5 := hB8.cell_some d5
     have D6 := hB8.cell_some d6
     have D7 := hB8.cell_some d7
     have D8 := hB8.cell_some d8
     have D9 := hB8.cell_some d9
     have D10 := hB8.cell_some d10
     clear hkn hk0
     have hN := Near.refl W8
     have hor2 := Lib.hid hor
     clear hor
     go_wp2_with fail
     clear hW8
     have hq := quiet_near hN
     refine wp_region_quiet_below (by kernel_rfl) (by kernel_rfl) ?_
     repeat (first | go_big_quiet_skip | (go_big_quiet_want; go_big_quiet_op; first | go_big_quiet_on | (apply Exists.intro; refine ⟨fun _ => ?_, ?_⟩; (focus (first | (go_at_call 61; exact Calls.regrown_of (hor2.out _)))); go_big_quiet_on)))
     refine wpQuiet_nil ?_
     intro w1 hw1
     clear hq
     replace hw1 := quiet_ext hw1
     replace hN := hN.step hw1
     have hC := hN.2
     go_wp2
     go_roundg (gk - 1)
     case measure => have := Hkn.out; omega
     case rel => exact ⟨j + 1 + 1, by have := Hkn.out; omega, by go_num, (hE8.trans hB8).trans hN.1⟩
  ·clear hkn
   have ho8 := ho7.ext hE8
   have hx8 := hx7.trans hE8
   go_wp2_with fail
   refine (compactChg_any W5.heap.size _ ts W5 wr ho8 (by omega) hx8 (Nat.le_refl _)).mono ?_
   rintro e w9 ⟨u9, rfl, ho9, hx9⟩
   rw [HCM.out] at ho9
   have hE9 := hE5.trans hx9
   obtain ⟨A9, c9, rfl, hR9⟩ := ho9.form
   go_wp2_with fail
   refine (gaps_ok 4 A9 c9 H w9 hR9 HG.out HB.out (by omega)).mono ?_
   rintro e w10 ⟨rfl, hb10⟩
   have hE10 := hE9.trans hb10
   have ho10 := ho9.ext hb10
   have kh10 := (kh4.ext hB5).ext (hx9.trans hb10)
   have kz10 := ((((hk2.ext hb3).ext hb4).ext hB5).ext (hx9.trans hb10))
   have e1 := kh10.cell
   have e2 := kh10.lt
   have f1 := kz10.cell
   have f2 := kz10.lt
   have f3 := kz10.frozen
   have hHn : ¬ (1000 : Int) < (H.length : Int) := by omega
   have y5 := hE5.size
   have y3 := hb3.size
   have y4 := hb4.size
   have y6 := hB5.size
   obtain ⟨w11, hw11, hz11, hgr, hE11⟩ : ∃ w11, (w10.setCell ⟨W1.heap.size, 0, none⟩ (.int .i64 4)).setCell ⟨W1.heap.size, 1, none⟩ (.slice A9 H.length c9) = w11 /\ Blk w11 W1.heap.size 56 #[.int .i64 4, .slice A9 H.length c9] /\ w10.grownBy w11 (some W1.heap.size) /\ Ext w w11 :=
    ⟨_, rfl, (kz10.set_ 0 _).set_ 1 _, grown_setCell (grown_setCell (World.grownBy.refl w10 _) _ _) _ _, (hE10.setCell (by dsimp only; omega) _).setCell (by dsimp only; omega) _⟩
   have ho11 := ho10.kept hgr (fun g hgg e' => by injection e' with e'; have := (ho10.block hgg).1; omega)
   go_wp2
   (try rw [hw11])
   have hc11 := hz11.cell
   refine bodyPost_ret (v := .tuple #[.agg #[.int .i64 4, .slice A9 H.length c9], .int .i64 0]) (by rw [results_cell_tmp rfl]; simp [asAddr, Result.andThen, hc11, go_sem]) rfl ?_
   exact ⟨_, rfl, ho11.mono (by omega), hE11⟩
end Go.Proofs.YtemkpimngbbpkaaGreat
