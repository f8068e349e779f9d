/- Forwarding: the parser of hops, walked. -/
import Derived.Test.YtemkpimngbbpkaaGreatQs42
namespace Go.Proofs.YtemkpimngbbpkaaGreat
set_option linter.unusedVariables false
set_option linter.unusedSimpArgs false
open Go.RowKit Go.Shelf
attribute [local go_sem] Oper.semAt_some
theorem enS_len (s : Bts) (bad : Bool) : (enS s bad).length <= s.length := by
 unfold enS
 split
 ·rw [List.length_drop]; omega
 ·exact Nat.le_refl _
set_option maxRecDepth 100000 in
set_option maxHeartbeats 8000000 in
theorem par2_any (s : Bts) (w : World) (hs : s.length <= 1000000) :
 Calls Tryz.prog 299 #[strV s] w fun e w' => ParR (par2 s) e w' /\ Ext w w' := by
 have f1 := fun g w hk => enum_any g s false w hk hs
 have f2 := fun g w hk => enum_any g (enS s false) (!enO s false) w hk (Nat.le_trans (enS_len s false) hs)
 rw [par2_en]
 generalize enO (enS s false) (!enO s false) = o2 at *
 generalize enV (enS s false) (!enO s false) = v2 at *
 generalize enS (enS s false) (!enO s false) = s2 at *
 generalize enO s false = o1 at *
 generalize enV s false = v1 at *
 generalize enS s false = s1 at *
 obtain ⟨ba, hba, hbv, -⟩ := str_name s
 obtain ⟨b1, hb1, hv1, -⟩ := str_name s1
 obtain ⟨b2, hb2, hv2, -⟩ := str_name s2
 rw [hbv] at f1 ⊢
 rw [hv1] at f1 f2
 rw [hv2] at f2
 obtain ⟨W, hW, hB, hk, hlt⟩ := box1 w #[.string ba, .bool false] 419
 have hc := hk.cell
 clear hba hbv hv1 hv2 hb1
 cases o2 with
 | false =>
   rw [if_neg (fun h => by cases h.1)]
   go_enter Tryz.func299, Tryz.ntmps299
   go_wp2_with fail
   clear hW
   refine (f1 _ _ hk).mono ?_
   clear hc f1
   rintro e w1 ⟨rfl, hu1, hk1⟩
   have hE1 := hu1.ext hB (Nat.le_refl _)
   have c1 := hk1.cell
   go_wp2_with fail
   refine (f2 _ _ hk1).mono ?_
   clear c1 f2
   rintro e w3 ⟨rfl, hu3, hk3⟩
   have hE3 := hu3.ext hE1 (Nat.le_refl _)
   obtain ⟨W2, hW2, hB2, hk2, hl2⟩ := box1 w3 #[.int .i64 v1, .int .i64 v2] 3
   have k1 := hk3.ext hB2
   have c1 := k1.cell
   have c2 := k1.lt
   have d1 := hk2.cell
   have hE2 := hE3.trans hB2
   have hN := Near.refl W2
   go_upto_region 4 with fail
   clear hW2
   have hC := hN.2
   have hq := quiet_near hN
   refine wp_region_quiet_below (by kernel_rfl) (by kernel_rfl) ?_
   repeat (first | go_big_quiet_skip | (go_big_quiet_want; go_big_quiet_op; first | go_big_quiet_on | (apply Exists.intro; refine ⟨fun _ => ?_, ?_⟩; (focus (first | fail)); go_big_quiet_on)))
   refine wpQuiet_nil ?_
   intro w1 hw1
   clear hq
   replace hw1 := quiet_ext hw1
   replace hN := hN.step hw1
   have hC := hN.2
   go_wp2
   go_ret2
   exact ⟨⟨_, rfl⟩, hE2.trans hw1⟩
 | true =>
 by_cases h2 : s2 = []
 case neg =>
  rw [if_neg (fun h => h2 h.2.1)]
  have hbe := str_empty hb2 h2
  clear hb2
  go_enter Tryz.func299, Tryz.ntmps299
  go_wp2_with fail
  clear hW
  refine (f1 _ _ hk).mono ?_
  clear hc f1
  rintro e w1 ⟨rfl, hu1, hk1⟩
  have hE1 := hu1.ext hB (Nat.le_refl _)
  have c1 := hk1.cell
  go_wp2_with fail
  refine (f2 _ _ hk1).mono ?_
  clear c1 f2
  rintro e w3 ⟨rfl, hu3, hk3⟩
  have hE3 := hu3.ext hE1 (Nat.le_refl _)
  obtain ⟨W2, hW2, hB2, hk2, hl2⟩ := box1 w3 #[.int .i64 v1, .int .i64 v2] 3
  have k1 := hk3.ext hB2
  have c1 := k1.cell
  have c2 := k1.lt
  have d1 := hk2.cell
  have hE2 := hE3.trans hB2
  have hN := Near.refl W2
  go_upto_region 4 with fail
  clear hW2
  have hC := hN.2
  have hq := quiet_near hN
  refine wp_region_quiet_below (by kernel_rfl) (by kernel_rfl) ?_
  repeat (first | go_big_quiet_skip | (go_big_quiet_want; go_big_quiet_op; first | go_big_quiet_on | (apply Exists.intro; refine ⟨fun _ => ?_, ?_⟩; (focus (first | fail)); go_big_quiet_on)))
  refine wpQuiet_nil ?_
  intro w1 hw1
  clear hq
  replace hw1 := quiet_ext hw1
  replace hN := hN.step hw1
  have hC := hN.2
  go_wp2
  go_ret2
  exact ⟨⟨_, rfl⟩, hE2.trans hw1⟩
 subst h2
 obtain rfl : (⟨#[]⟩ : ByteArray) = b2 := hb2
 by_cases h3 : 1 <= v1
 case neg =>
  rw [if_neg (fun h => h3 h.2.2.1.1)]
  have h3' : v1 < 1 := by omega
  have h3 : decide (1 <= v1) = false := decide_eq_false h3
  go_enter Tryz.func299, Tryz.ntmps299
  go_wp2_with fail
  clear hW
  refine (f1 _ _ hk).mono ?_
  clear hc f1
  rintro e w1 ⟨rfl, hu1, hk1⟩
  have hE1 := hu1.ext hB (Nat.le_refl _)
  have c1 := hk1.cell
  go_wp2_with fail
  refine (f2 _ _ hk1).mono ?_
  clear c1 f2
  rintro e w3 ⟨rfl, hu3, hk3⟩
  have hE3 := hu3.ext hE1 (Nat.le_refl _)
  obtain ⟨W2, hW2, hB2, hk2, hl2⟩ := box1 w3 #[.int .i64 v1, .int .i64 v2] 3
  have k1 := hk3.ext hB2
  have c1 := k1.cell
  have c2 := k1.lt
  have d1 := hk2.cell
  have hE2 := hE3.trans hB2
  have hN := Near.refl W2
  go_upto_region 4 with fail
  clear hW2
  have hC := hN.2
  have hq := quiet_near hN
  refine wp_region_quiet_below (by kernel_rfl) (by kernel_rfl) ?_
  repeat (first | go_big_quiet_skip | (go_big_quiet_want; go_big_quiet_op; first | go_big_quiet_on | (apply Exists.intro; refine ⟨fun _ => ?_, ?_⟩; (focus (first | fail)); go_big_quiet_on)))
  refine wpQuiet_nil ?_
  intro w1 hw1
  clear hq
  replace hw1 := quiet_ext hw1
  replace hN := hN.step hw1
  have hC := hN.2
  go_wp2
  go_ret2
  exact ⟨⟨_, rfl⟩, hE2.trans hw1⟩
 by_cases h4 : v1 <= 255
 case neg =>
  rw [if_neg (fun h => h4 h.2.2.1.2)]
  have h4' : 255 < v1 := by omega
  have h4 : decide (v1 <= 255) = false := decide_eq_false h4
  go_enter Tryz.func299, Tryz.ntmps299
  go_wp2_with fail
  clear hW
  refine (f1 _ _ hk).mono ?_
  clear hc f1
  rintro e w1 ⟨rfl, hu1, hk1⟩
  have hE1 := hu1.ext hB (Nat.le_refl _)
  have c1 := hk1.cell
  go_wp2_with fail
  refine (f2 _ _ hk1).mono ?_
  clear c1 f2
  rintro e w3 ⟨rfl, hu3, hk3⟩
  have hE3 := hu3.ext hE1 (Nat.le_refl _)
  obtain ⟨W2, hW2, hB2, hk2, hl2⟩ := box1 w3 #[.int .i64 v1, .int .i64 v2] 3
  have k1 := hk3.ext hB2
  have c1 := k1.cell
  have c2 := k1.lt
  have d1 := hk2.cell
  have hE2 := hE3.trans hB2
  have hN := Near.refl W2
  go_upto_region 4 with fail
  clear hW2
  have hC := hN.2
  have hq := quiet_near hN
  refine wp_region_quiet_below (by kernel_rfl) (by kernel_rfl) ?_
  repeat (first | go_big_quiet_skip | (go_big_quiet_want; go_big_quiet_op; first | go_big_quiet_on | (apply Exists.intro; refine ⟨fun _ => ?_, ?_⟩; (focus (first | fail)); go_big_quiet_on)))
  refine wpQuiet_nil ?_
  intro w1 hw1
  clear hq
  replace hw1 := quiet_ext hw1
  replace hN := hN.step hw1
  have hC := hN.2
  go_wp2
  go_ret2
  exact ⟨⟨_, rfl⟩, hE2.trans hw1⟩
 by_cases h5 : 0 <= v2
 case neg =>
  rw [if_neg (fun h => h5 h.2.2.2.1)]
  have h5' : v2 < 0 := by omega
  have h5 : decide (0 <= v2) = false := decide_eq_false h5
  go_enter Tryz.func299, Tryz.ntmps299
  go_wp2_with fail
  clear hW
  refine (f1 _ _ hk).mono ?_
  clear hc f1
  rintro e w1 ⟨rfl, hu1, hk1⟩
  have hE1 := hu1.ext hB (Nat.le_refl _)
  have c1 := hk1.cell
  go_wp2_with fail
  refine (f2 _ _ hk1).mono ?_
  clear c1 f2
  rintro e w3 ⟨rfl, hu3, hk3⟩
  have hE3 := hu3.ext hE1 (Nat.le_refl _)
  obtain ⟨W2, hW2, hB2, hk2, hl2⟩ := box1 w3 #[.int .i64 v1, .int .i64 v2] 3
  have k1 := hk3.ext hB2
  have c1 := k1.cell
  have c2 := k1.lt
  have d1 := hk2.cell
  have hE2 := hE3.trans hB2
  have hN := Near.refl W2
  go_upto_region 4 with fail
  clear hW2
  have hC := hN.2
  have hq := quiet_near hN
  refine wp_region_quiet_below (by kernel_rfl) (by kernel_rfl) ?_
  repeat (first | go_big_quiet_skip | (go_big_quiet_want; go_big_quiet_op; first | go_big_quiet_on | (apply Exists.intro; refine ⟨fun _ => ?_, ?_⟩; (focus (first | fail)); go_big_quiet_on)))
  refine wpQuiet_nil ?_
  intro w1 hw1
  clear hq
  replace hw1 := quiet_ext hw1
  replace hN := hN.step hw1
  have hC := hN.2
  go_wp2
  go_ret2
  exact ⟨⟨_, rfl⟩, hE2.trans hw1⟩
 by_cases h6 : v2 <= v1
 case neg =>
  rw [if_neg (fun h => h6 h.2.2.2.2)]
  have h6' : v1 < v2 := by omega
  have h6 : decide (v2 <= v1) = false := decide_eq_false h6
  go_enter Tryz.func299, Tryz.ntmps299
  go_wp2_with fail
  clear hW
  refine (f1 _ _ hk).mono ?_
  clear hc f1
  rintro e w1 ⟨rfl, hu1, hk1⟩
  have hE1 := hu1.ext hB (Nat.le_refl _)
  have c1 := hk1.cell
  go_wp2_with fail
  refine (f2 _ _ hk1).mono ?_
  clear c1 f2
  rintro e w3 ⟨rfl, hu3, hk3⟩
  have hE3 := hu3.ext hE1 (Nat.le_refl _)
  obtain ⟨W2, hW2, hB2, hk2, hl2⟩ := box1 w3 #[.int .i64 v1, .int .i64 v2] 3
  have k1 := hk3.ext hB2
  have c1 := k1.cell
  have c2 := k1.lt
  have d1 := hk2.cell
  have hE2 := hE3.trans hB2
  have hN := Near.refl W2
  go_upto_region 4 with fail
  clear hW2
  have hC := hN.2
  have hq := quiet_near hN
  refine wp_region_quiet_below (by kernel_rfl) (by kernel_rfl) ?_
  repeat (first | go_big_quiet_skip | (go_big_quiet_want; go_big_quiet_op; first | go_big_quiet_on | (apply Exists.intro; refine ⟨fun _ => ?_, ?_⟩; (focus (first | fail)); go_big_quiet_on)))
  refine wpQuiet_nil ?_
  intro w1 hw1
  clear hq
  replace hw1 := quiet_ext hw1
  replace hN := hN.step hw1
  have hC := hN.2
  go_wp2
  go_ret2
  exact ⟨⟨_, rfl⟩, hE2.trans hw1⟩
 ·rw [if_pos ⟨rfl, rfl, ⟨h3, h4⟩, h5, h6⟩]
  go_enter Tryz.func299, Tryz.ntmps299
  go_wp2_with fail
  clear hW
  refine (f1 _ _ hk).mono ?_
  clear hc f1
  rintro e w1 ⟨rfl, hu1, hk1⟩
  have hE1 := hu1.ext hB (Nat.le_refl _)
  have c1 := hk1.cell
  go_wp2_with fail
  refine (f2 _ _ hk1).mono ?_
  clear c1 f2
  rintro e w3 ⟨rfl, hu3, hk3⟩
  have hE3 := hu3.ext hE1 (Nat.le_refl _)
  obtain ⟨W2, hW2, hB2, hk2, hl2⟩ := box1 w3 #[.int .i64 v1, .int .i64 v2] 3
  have k1 := hk3.ext hB2
  have c1 := k1.cell
  have c2 := k1.lt
  have d1 := hk2.cell
  have hE2 := hE3.trans hB2
  have hN := Near.refl W2
  go_upto_region 4 with fail
  clear hW2
  have hC := hN.2
  have hq := quiet_near hN
  refine wp_region_quiet_below (by kernel_rfl) (by kernel_rfl) ?_
  repeat (first | go_big_quiet_skip | (go_big_quiet_want; go_big_quiet_op; first | go_big_quiet_on | (apply Exists.intro; refine ⟨fun _ => ?_, ?_⟩; (focus (first | fail)); go_big_quiet_on)))
  refine wpQuiet_nil ?_
  intro w1 hw1
  clear hq
  replace hw1 := quiet_ext hw1
  replace hN := hN.step hw1
  have hC := hN.2
  go_wp2
  go_ret2
  exact ⟨⟨_, _, rfl, (rd_two hk2).ext hw1⟩, hE2.trans hw1⟩
end Go.Proofs.YtemkpimngbbpkaaGreat
