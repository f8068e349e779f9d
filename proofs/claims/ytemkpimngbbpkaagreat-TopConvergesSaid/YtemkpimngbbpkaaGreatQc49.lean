/- TopConverges: the walk. -/
import Derived.Test.YtemkpimngbbpkaaGreatQc42
import Derived.Test.YtemkpimngbbpkaaGreatQc48
namespace Go.Proofs.YtemkpimngbbpkaaGreat
set_option linter.unusedVariables false
set_option linter.unusedSimpArgs false
open Go.RowKit Go.Shelf
attribute [local go_sem] Oper.semAt_some
theorem plan_for {cons : List Con} (h : (⟨[50, 50, 50, 50], cons⟩ : Pln).chk = 0) : (⟨[50, 50, 50, 50], cons⟩ : Pln).forE 0 0 8 = 0 := by
 unfold Pln.forE
 rw [if_pos h]
 rfl
set_option maxRecDepth 100000 in
set_option maxHeartbeats 32000000 in
theorem converges_walk (Aa : Option Addr) (ca : Nat) (acts : List Act1) (Ac : Option Addr) (cc : Nat) (cons : List Con) (w : World) (hA : Rd EAct w Aa acts) (hC : Rd ECon w Ac cons) (hla : acts.length <= maxLen) (hlc : cons.length <= maxLen) :
 Calls Tryz.prog 5 #[.agg #[.slice Aa acts.length ca, .slice Ac cons.length cc]] w fun e w' => e = .returned (.bool true) /\ Ext w w' := by
 unfold maxLen at hla hlc
 obtain ⟨W1, hW1, hB1, hk1, hl1⟩ := box1 w #[.slice Aa acts.length ca, .slice Ac cons.length cc] 48
 have c1 := hk1.cell
 have c2 := hk1.lt
 by_cases h20 : acts.length <= 20
 case neg =>
  have d1 : decide ((20 : Int) < (acts.length : Int)) = true := decide_eq_true (by omega)
  have d2 : decide (20 < acts.length) = true := decide_eq_true (by omega)
  go_enter Tryz.func5, Tryz.ntmps5
  go_wp2_with fail
  clear hW1
  refine (awake5_any _).mono ?_
  rintro e w4 ⟨rfl, hb4⟩
  go_wp2
  go_ret
  exact ⟨rfl, hB1.trans hb4⟩
 have d1 : decide ((20 : Int) < (acts.length : Int)) = false := decide_eq_false (by omega)
 have d2 : decide (20 < acts.length) = false := decide_eq_false (by omega)
 by_cases h8 : cons.length <= 8
 case neg =>
  have d3 : decide ((8 : Int) < (cons.length : Int)) = true := decide_eq_true (by omega)
  have d4 : decide (8 < cons.length) = true := decide_eq_true (by omega)
  go_enter Tryz.func5, Tryz.ntmps5
  go_wp2_with fail
  clear hW1
  refine (awake5_any _).mono ?_
  rintro e w4 ⟨rfl, hb4⟩
  go_wp2
  go_ret
  exact ⟨rfl, hB1.trans hb4⟩
 have d3 : decide ((8 : Int) < (cons.length : Int)) = false := decide_eq_false (by omega)
 have d4 : decide (8 < cons.length) = false := decide_eq_false (by omega)
 go_enter Tryz.func5, Tryz.ntmps5
 go_wp2_with fail
 clear hW1
 refine (play_any Aa ca acts Ac cc cons _ (hA.ext hB1) (hC.ext hB1) h20 h8).mono ?_
 rintro e w2 ⟨B, L, K0, xs0, rfl, hP, hH, hb2⟩
 have hE2 := hB1.trans hb2
 clear c1 c2 d1 d2 d3 d4 hA hC
 go_wp2_with fail
 refine (awake5_any _).mono ?_
 rintro e w3 ⟨rfl, hb3⟩
 have hE3 := hE2.trans hb3
 have hH3 := hH.ext hb3
 have hcl := cloneHis_any ⟨B, 0, none⟩ 3 xs0 w3 hH3.own.rd (by rw [hH3.len]; omega)
 rw [hH3.len] at hcl
 go_wp2_with fail
 refine hcl.mono ?_
 clear hcl
 rintro e w4 ⟨u4, rfl, ho4, hb4⟩
 have hE4 := hE3.trans hb4
 have hH4 := hH3.ext hb4
 obtain ⟨A4, c4, rfl, hR4⟩ := ho4.form
 rw [hH3.len] at ho4 ⊢
 have hF4 : BefAt w4 w3.heap.size W1.heap.size (.slice A4 3 c4) L K0 xs0 := ⟨ho4, hH3.len, hH4.hs⟩
 have hB3 : B < w3.heap.size := hH3.free.1
 have hWB : w.heap.size <= B := Nat.le_trans hB1.size hH3.free.2.2
 clear hH3 hH ho4 hR4
 go_wp2_with fail
 go_loopg [42] 2 (fun q v42 wr => ∃ (i : Nat) (K : Nat -> Nat -> Nat) (xs : List Hs), i + q = 2 /\ v42 = .int .i64 i /\ PlayS 20 L K /\ Hid (0 < i -> ∀ p, p < 3 -> Full L (K p)) /\ HAt wr W1.heap.size B L K xs /\ BefAt wr w3.heap.size W1.heap.size (.slice A4 3 c4) L K0 xs0 /\ Ext w wr)
 case atStart => exact ⟨0, K0, xs0, by omega, by go_num, hP, Lib.hid (fun h => by omega), hH4, hF4, hE4⟩
 case round =>
  obtain ⟨i, K, xs, hiq, rfl, hPr, HFu, hHr, hFr, hEr⟩ := hrel
  have Hiq := Lib.hid hiq
  by_cases hi : i < 2
  ·have hi2 : (i : Int) < 2 := by omega
   clear hiq
   obtain ⟨wo, rfl⟩ : ∃ wo, wo = wr := ⟨_, rfl⟩
   obtain ⟨g1, rfl⟩ : ∃ g1, g1 = gk := ⟨_, rfl⟩
   go_wp2_with fail
   go_loopg [46] 3 (fun q v46 wr => ∃ (n : Nat) (K : Nat -> Nat -> Nat) (xs : List Hs), n + q = 3 /\ v46 = .int .i64 n /\ PlayS 20 L K /\ Hid (∀ p, p < n -> Full L (K p)) /\ HAt wr W1.heap.size B L K xs /\ BefAt wr w3.heap.size W1.heap.size (.slice A4 3 c4) L K0 xs0 /\ Ext w wr)
   case atStart => exact ⟨0, K, xs, by omega, by go_num, hPr, Lib.hid (fun p h => by omega), hHr, hFr, hEr⟩
   case round =>
    clear hPr HFu hHr hFr hEr
    obtain ⟨n, K, xs, hnq, rfl, hPr, HFu, hHr, hFr, hEr⟩ := hrel
    have Hnq := Lib.hid hnq
    by_cases hn : n < 3
    ·have n3i : (n : Int) < 3 := by omega
     clear hnq
     obtain ⟨wo2, rfl⟩ : ∃ wo2, wo2 = wr := ⟨_, rfl⟩
     obtain ⟨g2, rfl⟩ : ∃ g2, g2 = gk := ⟨_, rfl⟩
     go_wp2_with fail
     go_loopg [51] 3 (fun q v51 wr => ∃ (m : Nat) (K : Nat -> Nat -> Nat) (xs : List Hs), m + q = 3 /\ v51 = .int .i64 m /\ PlayS 20 L K /\ Hid (∀ p, p < n -> Full L (K p)) /\ Hid (∀ o, o < m -> K n o = (L o).length) /\ HAt wr W1.heap.size B L K xs /\ BefAt wr w3.heap.size W1.heap.size (.slice A4 3 c4) L K0 xs0 /\ Ext w wr)
     case atStart => exact ⟨0, K, xs, by omega, by go_num, hPr, HFu, Lib.hid (fun o h => by omega), hHr, hFr, hEr⟩
     case round =>
      clear hPr HFu hHr hFr hEr
      obtain ⟨m, K, xs, hmq, rfl, hPr, HFu, HGo, hHr, hFr, hEr⟩ := hrel
      have Hmq := Lib.hid hmq
      by_cases hm : m < 3
      ·have m3i : (m : Int) < 3 := by omega
       clear hmq
       obtain ⟨An, cn, hRn, x1, x2⟩ := hHr.at_ hn
       obtain ⟨f1, f2, f3⟩ := hHr.free
       obtain ⟨Am, cm, hRm, y1, y2⟩ := hHr.at_ hm
       have G := Lib.hid (fun w ha hb => get_any hPr (by omega) hn hm An cn Am cm w ha hb)
       go_upto_region 15 with fail
       go_cut [8, 9] from 54 to 66 (fun a11 a12 wx => ∃ (g : Nat) (A : Option Addr) (c : Nat) (l : List Chg), a11 = .pointer (some ⟨g, 0, none⟩) /\ a12 = .bool true /\ l = hist L (getK K n m n) /\ wr.heap.size <= g /\ Blk wx g 56 #[.int .i64 4, .slice A l.length c] /\ Owns EChg wx wr.heap.size 63 (.slice A l.length c) l /\ Ext wr wx)
       case first =>
        have near := near_of9 wr
        obtain ⟨ln, hln⟩ : ∃ ln, hist L (K n) = ln := ⟨_, rfl⟩
        obtain ⟨lm, hlm⟩ : ∃ lm, hist L (K m) = lm := ⟨_, rfl⟩
        rw [hln] at hRn x2
        rw [hlm] at hRm y2
        rw [hln, hlm] at G
        obtain ⟨lg, hlg⟩ : ∃ lg, hist L (getK K n m n) = lg := ⟨_, rfl⟩
        rw [hlg] at G
        have Hlg := Lib.hid hlg
        clear hln hlm hlg
        refine wp_region_P (fun _ => false) (fun w' => Ext wr w' /\ ∀ b o, b < wr.heap.size -> w'.cell? ⟨b, o, none⟩ = wr.cell? ⟨b, o, none⟩) (by kernel_rfl) (near _ (Ext.refl wr).drew) (fun _ => ?_)
        refine pT 0 (v := ?_) rfl (fun _ _ _ h => h) (by rfl) ?_ ?_
        rotate_left
        ·intro w'; go_simp; first | done | with_reducible rfl
        try simp only [Act.put, sp1]
        refine pT 1 (v := ?_) rfl (fun _ _ _ h => h) (by rfl) ?_ ?_
        rotate_left
        ·intro w'; go_simp; first | done | with_reducible rfl
        try simp only [Act.put, sp1]
        refine pT 2 (v := ?_) rfl (fun _ _ _ h => h) (by rfl) ?_ ?_
        rotate_left
        ·intro w'; go_simp; first | done | with_reducible rfl
        try simp only [Act.put, sp1]
        refine pK 3 (v := ?_) rfl (fun _ _ _ h => h) (by rfl) ?_ (by assumption) ?_
        rotate_left
        ·intro w' hw'
         (try have hC := hw'.2)
         (try have hC9 := hw'.1)
         go_simp
         first | done | with_reducible rfl
        try simp only [Act.put, sp1]
        refine pT 4 (v := ?_) rfl (fun _ _ _ h => h) (by rfl) ?_ ?_
        rotate_left
        ·intro w'; go_simp; first | done | with_reducible rfl
        try simp only [Act.put, sp1]
        refine pT 5 (v := ?_) rfl (fun _ _ _ h => h) (by rfl) ?_ ?_
        rotate_left
        ·intro w'; go_simp; first | done | with_reducible rfl
        try simp only [Act.put, sp1]
        refine pT 6 (v := ?_) rfl (fun _ _ _ h => h) (by rfl) ?_ ?_
        rotate_left
        ·intro w'; go_simp; first | done | with_reducible rfl
        try simp only [Act.put, sp1]
        refine pK 7 (v := ?_) rfl (fun _ _ _ h => h) (by rfl) ?_ (by assumption) ?_
        rotate_left
        ·intro w' hw'
         (try have hC := hw'.2)
         (try have hC9 := hw'.1)
         go_simp
         first | done | with_reducible rfl
        try simp only [Act.put, sp1]
        simp only [List.getElem_toArray, List.getElem_cons_succ, List.getElem_cons_zero, Act.put, sp1]
        refine wpAnyP_ready (rs := [8, 12]) (by kernel_rfl) (by simp) ?_
        refine AllReadyP.cons rfl (fun K hK => ?_) (AllReadyP.cons rfl (fun K hK => ?_) AllReadyP.nil)
        ·go_simp
         refine Calls.mono (G.out wr.drew (hRn.ext ((Ext.refl wr).drew)) (hRm.ext ((Ext.refl wr).drew))) ?_
         rintro e w7 ⟨u9, rfl, ho7, hb7⟩; obtain ⟨A9, c9, rfl, hR9⟩ := (ho7).form
         have hx7 := ((Ext.refl wr).drew).trans hb7
         refine hK.out _ _ (fun _ _ => near _ hx7) ?_
         clear hK K
         refine pT 9 (v := ?_) rfl (fun _ _ _ h => h) (by rfl) ?_ ?_
         rotate_left
         ·intro w'; go_simp; first | done | with_reducible rfl
         try simp only [Act.put, sp1]
         refine pT 10 (v := ?_) rfl (fun _ _ _ h => h) (by rfl) ?_ ?_
         rotate_left
         ·intro w'; go_simp; first | done | with_reducible rfl
         try simp only [Act.put, sp1]
         refine pT 11 (v := ?_) rfl (fun _ _ _ h => h) (by rfl) ?_ ?_
         rotate_left
         ·intro w'; go_simp; first | done | with_reducible rfl
         try simp only [Act.put, sp1]
         obtain ⟨w8, hV8, hB8, kz8, lz8⟩ := box1 w7 #[.int .i64 0, .slice none 0 0] 56
         have hx8 := hx7.trans hB8
         have hg8 := hx7.size
         have ho8 := ho7.ext hB8
         obtain ⟨w9, hw9, hz9, ho9, hE9⟩ : ∃ w9, w8.setCells w7.heap.size 0 [.int .i64 4, .slice A9 lg.length c9] = w9 /\ Blk w9 w7.heap.size 56 #[.int .i64 4, .slice A9 lg.length c9] /\ Owns EChg w9 wr.heap.size 63 (.slice A9 lg.length c9) lg /\ Ext wr w9 :=
          ⟨_, rfl, kz8.setCells_ [.int .i64 4, .slice A9 lg.length c9] 0, ((ho8.setZ kz8 (by decide) 0 _).setZ (kz8.set_ 0 _) (by decide) 1 _).mono (by first | exact Nat.le_refl _ | omega), ext_setCells hx8 hg8 0 _⟩
         simp only [World.setCells, Nat.zero_add, Nat.reduceAdd] at hw9
         have q1 := kz8.cell
         have q2 := kz8.lt
         have q3 := kz8.frozen
         clear q1 q2 q3
         refine pO 12 rfl (fun K hK => ?_)
         go_simp
         refine hK.out _ _ (fun _ _ => near _ hx8) ?_
         clear hK K hV8
         have q1 := kz8.cell
         have q2 := kz8.lt
         have q3 := kz8.frozen
         refine pO 13 rfl (fun K hK => ?_)
         go_simp
         (try rw [hw9])
         refine hK.out _ _ (fun _ _ => near _ hE9) ?_
         clear hK K
         refine pT 14 (v := ?_) rfl (fun _ _ _ h => h) (by rfl) ?_ ?_
         rotate_left
         ·intro w'; go_simp; first | done | with_reducible rfl
         try simp only [Act.put, sp1]
         (try simp only [List.getElem_toArray, List.getElem_cons_succ, List.getElem_cons_zero, Act.put, sp1])
         refine wpAnyP_done (by kernel_rfl) ?_ _
         go_wp2
         go_meet
         exact ⟨_, A9, c9, lg, rfl, rfl, Hlg.out.symm, hg8, hz9, ho9, hE9⟩
        ·obtain ⟨W7, hV7, hB7, kz7, lz7⟩ := box1 wr.drew #[.int .i64 0, .slice none 0 0] 56
         go_simp
         refine hK.out _ _ (fun _ _ => near _ (((Ext.refl wr).drew).trans hB7)) ?_
         clear hK K hV7
         refine pO 8 rfl (fun K hK => ?_)
         go_simp
         refine Calls.mono (G.out W7 (hRn.ext (((Ext.refl wr).drew).trans hB7)) (hRm.ext (((Ext.refl wr).drew).trans hB7))) ?_
         rintro e w8 ⟨u9, rfl, ho8, hb8⟩; obtain ⟨A9, c9, rfl, hR9⟩ := (ho8).form
         have hx8 := (((Ext.refl wr).drew).trans hB7).trans hb8
         refine hK.out _ _ (fun _ _ => near _ hx8) ?_
         clear hK K
         refine pT 9 (v := ?_) rfl (fun _ _ _ h => h) (by rfl) ?_ ?_
         rotate_left
         ·intro w'; go_simp; first | done | with_reducible rfl
         try simp only [Act.put, sp1]
         refine pT 10 (v := ?_) rfl (fun _ _ _ h => h) (by rfl) ?_ ?_
         rotate_left
         ·intro w'; go_simp; first | done | with_reducible rfl
         try simp only [Act.put, sp1]
         refine pT 11 (v := ?_) rfl (fun _ _ _ h => h) (by rfl) ?_ ?_
         rotate_left
         ·intro w'; go_simp; first | done | with_reducible rfl
         try simp only [Act.put, sp1]
         have kz8 : Blk w8 wr.heap.size 56 #[.int .i64 0, .slice none 0 0] := kz7.ext hb8
         have hs7 : wr.heap.size <= W7.heap.size := hB7.size
         have hg8 := Nat.le_refl wr.heap.size
         obtain ⟨w9, hw9, hz9, ho9, hE9⟩ : ∃ w9, w8.setCells wr.heap.size 0 [.int .i64 4, .slice A9 lg.length c9] = w9 /\ Blk w9 wr.heap.size 56 #[.int .i64 4, .slice A9 lg.length c9] /\ Owns EChg w9 wr.heap.size 63 (.slice A9 lg.length c9) lg /\ Ext wr w9 :=
          ⟨_, rfl, kz8.setCells_ [.int .i64 4, .slice A9 lg.length c9] 0, ((ho8.setZ kz8 (by decide) 0 _).setZ (kz8.set_ 0 _) (by decide) 1 _).mono (by first | exact Nat.le_refl _ | omega), ext_setCells hx8 hg8 0 _⟩
         simp only [World.setCells, Nat.zero_add, Nat.reduceAdd] at hw9
         have q1 := kz8.cell
         have q2 := kz8.lt
         have q3 := kz8.frozen
         refine pO 13 rfl (fun K hK => ?_)
         go_simp
         (try rw [hw9])
         refine hK.out _ _ (fun _ _ => near _ hE9) ?_
         clear hK K
         refine pT 14 (v := ?_) rfl (fun _ _ _ h => h) (by rfl) ?_ ?_
         rotate_left
         ·intro w'; go_simp; first | done | with_reducible rfl
         try simp only [Act.put, sp1]
         (try simp only [List.getElem_toArray, List.getElem_cons_succ, List.getElem_cons_zero, Act.put, sp1])
         refine wpAnyP_done (by kernel_rfl) ?_ _
         go_wp2
         go_meet
         exact ⟨_, A9, c9, lg, rfl, rfl, Hlg.out.symm, hg8, hz9, ho9, hE9⟩
       case rest =>
        obtain ⟨g, A9, c9, l9, rfl, rfl, hl9, hg9, hz9, ho9, hx9⟩ := hcut
        generalize wc = w9 at *
        have hH9 := hHr.ext hx9
        have hE9 := hEr.trans hx9
        have hF9 := hFr.ext hx9
        obtain ⟨An', cn', _, z1, z2⟩ := hH9.at_ hn
        obtain ⟨j1, j2, j3⟩ := hH9.free
        have q1 := hz9.cell
        have q2 := hz9.lt
        have hwr : W1.heap.size <= wr.heap.size := by omega
        have hS := hH9.set hn (ho9.mono hwr) (L' := L) (K' := getK K n m) hl9.symm (fun p hp hpn => by rw [getK_other hpn])
        obtain ⟨W10, hW10, hH10, hE10, hF10⟩ : ∃ W10, w9.setCells B (n * 2) [.int .i64 4, .slice A9 l9.length c9] = W10 /\ HAt W10 W1.heap.size B L (getK K n m) (xs.set n ⟨A9, l9.length, c9⟩) /\ Ext w W10 /\ BefAt W10 w3.heap.size W1.heap.size (.slice A4 3 c4) L K0 xs0 :=
         ⟨_, rfl, hS, ext_setCells hE9 hWB (n * 2) _, hF9.set hH9 hB3 (n * 2) _⟩
        simp only [World.setCells] at hW10
        have Hl9 := Lib.hid hl9
        have HFu' : Hid (∀ p, p < n -> Full L (getK K n m p)) := Lib.hid (fun p hp => by rw [getK_other (by omega)]; exact HFu.out p hp)
        have HGo' : Hid (∀ o, o < m + 1 -> getK K n m n o = (L o).length) := Lib.hid (hPr.got hn hm HGo.out)
        clear hl9 hz9 hS hH9 ho9 x1 x2 f1 f2 y1 y2 hRn hRm G hHr hFr hF9
        go_wp2
        (try rw [hW10])
        go_roundg (3 - (m + 1))
        case measure => have := Hmq.out; omega
        case rel => exact ⟨m + 1, getK K n m, _, by have := Hmq.out; omega, by go_num, hPr.get hn hm, HFu', HGo', hH10, hF10, hE10⟩
      ·obtain rfl : m = 3 := by omega
       have HFu' : Hid (∀ p, p < n + 1 -> Full L (K p)) := Lib.hid (fun p hp => by
        rcases (show p < n ∨ p = n by omega) with h | rfl
        ·exact HFu.out p h
        ·exact HGo.out)
       clear hmq
       go_wp2
       go_roundg (3 - (n + 1))
       case measure => have := Hnq.out; omega
       case rel => exact ⟨n + 1, K, xs, by have := Hnq.out; omega, by go_num, hPr, HFu', hHr, hFr, hEr⟩
    ·obtain rfl : n = 3 := by omega
     clear hnq
     go_wp2
     go_roundg (2 - (i + 1))
     case measure => have := Hiq.out; omega
     case rel => exact ⟨i + 1, K, xs, by have := Hiq.out; omega, by go_num, hPr, Lib.hid (fun _ => HFu.out), hHr, hFr, hEr⟩
  ·obtain rfl : i = 2 := by omega
   have hful := HFu.out (by omega)
   obtain ⟨T, hT⟩ : ∃ T, hist L (K 0) = T := ⟨_, rfl⟩
   have hs : ∀ p, p < 3 -> hist L (K p) = T := fun p hp => by rw [<- hT]; exact full_hist (hful p hp) (hful 0 (by omega))
   have hT4 : T.length <= 20 := by
    rw [<- hT]
    exact hPr.hl (fun o => hPr.le 0 o (by omega))
   have hTc : hChk 4 T = 0 := by
    rw [<- hT]
    exact hist_chk hPr.log _ (by rw [hT]; omega)
   have hTo : ∀ y ∈ T, y.ok 4 = true := by
    rw [<- hT]
    exact hist_ok hPr.log
   have HTm : Hid (∀ p x, x ∈ hist L (K0 p) -> x ∈ T) := Lib.hid (fun p x hx => by rw [<- hT]; exact full_mem (hful 0 (by omega)) hx)
   have HL0 : Hid (∀ p, p < 3 -> (hist L (K0 p)).length <= 20) := Lib.hid (fun p hp => hP.hl (fun o => hP.le p o hp))
   have Hs := Lib.hid hs
   have HTo := Lib.hid hTo
   clear hs hT hful hiq hTo HFu
   obtain ⟨wo, rfl⟩ : ∃ wo, wo = wr := ⟨_, rfl⟩
   have hck := fun A c w h => hCheck_any 4 A c T w h
   rw [hTc] at hck
   have HCK := Lib.hid hck
   clear hck
   go_wp2_with fail
   go_loopg [77] 3 (fun q vi wr => ∃ j : Nat, j + q = 3 /\ vi = .int .i64 j /\ Ext wo wr)
   case atStart => exact ⟨0, by omega, by go_num, Ext.refl _⟩
   case round =>
    obtain ⟨j, hjq, rfl, hE⟩ := hrel
    have Hjq := Lib.hid hjq
    by_cases hj : j < 3
    ·have hj3 : (j : Int) < 3 := by omega
     clear hjq
     have hH := hHr.ext hE
     obtain ⟨Aj, cj, hRj, x1, x2⟩ := hH.all Hs.out hj
     obtain ⟨A0, c0, hR0, y1, y2⟩ := hH.all Hs.out (show 0 < 3 by omega)
     simp only [Nat.zero_mul, Nat.zero_add] at y1 y2
     obtain ⟨f1, f2, f3⟩ := hH.free
     go_upto_region 25 with fail
     go_cut [98] from 80 to 99 (fun v wx => v = .bool false /\ Ext wr wx)
     case first =>
      have near := near_of9 wr
      refine wp_region_P (fun _ => false) (fun w' => Ext wr w' /\ ∀ b o, b < wr.heap.size -> w'.cell? ⟨b, o, none⟩ = wr.cell? ⟨b, o, none⟩) (by kernel_rfl) (near _ (Ext.refl wr).drew) (fun _ => ?_)
      refine pT 0 (v := ?_) rfl (fun _ _ _ h => h) (by kernel_rfl) ?_ ?_
      rotate_left
      ·intro w'; go_simp; first | done | with_reducible rfl
      try simp only [Act.put, List.getElem_toArray, List.getElem_cons_succ, List.getElem_cons_zero, sp1]
      refine pT 1 (v := ?_) rfl (fun _ _ _ h => h) (by kernel_rfl) ?_ ?_
      rotate_left
      ·intro w'; go_simp; first | done | with_reducible rfl
      try simp only [Act.put, List.getElem_toArray, List.getElem_cons_succ, List.getElem_cons_zero, sp1]
      refine pT 2 (v := ?_) rfl (fun _ _ _ h => h) (by kernel_rfl) ?_ ?_
      rotate_left
      ·intro w'; go_simp; first | done | with_reducible rfl
      try simp only [Act.put, List.getElem_toArray, List.getElem_cons_succ, List.getElem_cons_zero, sp1]
      refine pK 3 (v := ?_) rfl (fun _ _ _ h => h) (by kernel_rfl) ?_ (by assumption) ?_
      rotate_left
      ·intro w' hw'
       (try have hC := hw'.2)
       (try have hC9 := hw'.1)
       go_simp
       first | done | with_reducible rfl
      try simp only [Act.put, List.getElem_toArray, List.getElem_cons_succ, List.getElem_cons_zero, sp1]
      refine pO 4 rfl (fun K hK => ?_)
      go_simp
      refine Calls.mono (HCK.out Aj cj wr.drew (hRj.ext (Ext.refl wr).drew)) ?_
      rintro e w7 ⟨rfl, hb7⟩
      have hx7 := (Ext.refl wr).drew.trans hb7
      have hS7 := near _ hx7
      refine hK.out _ _ (fun _ _ => near _ hx7) ?_
      clear hK K
      refine pT 5 (v := ?_) rfl (fun _ _ _ h => h) (by kernel_rfl) ?_ ?_
      rotate_left
      ·intro w'; go_simp; first | done | with_reducible rfl
      try simp only [Act.put, List.getElem_toArray, List.getElem_cons_succ, List.getElem_cons_zero, sp1]
      refine pT 6 (v := ?_) rfl (fun _ _ _ h => h) (by kernel_rfl) ?_ ?_
      rotate_left
      ·intro w'; go_simp; first | done | with_reducible rfl
      try simp only [Act.put, List.getElem_toArray, List.getElem_cons_succ, List.getElem_cons_zero, sp1]
      refine pT 7 (v := ?_) rfl (fun _ _ _ h => h) (by kernel_rfl) ?_ ?_
      rotate_left
      ·intro w'; go_simp; first | done | with_reducible rfl
      try simp only [Act.put, List.getElem_toArray, List.getElem_cons_succ, List.getElem_cons_zero, sp1]
      refine pT 8 (v := ?_) rfl (fun _ _ _ h => h) (by kernel_rfl) ?_ ?_
      rotate_left
      ·intro w'; go_simp; first | done | with_reducible rfl
      try simp only [Act.put, List.getElem_toArray, List.getElem_cons_succ, List.getElem_cons_zero, sp1]
      refine pT 9 (v := ?_) rfl (fun _ _ _ h => h) (by kernel_rfl) ?_ ?_
      rotate_left
      ·intro w'; go_simp; first | done | with_reducible rfl
      try simp only [Act.put, List.getElem_toArray, List.getElem_cons_succ, List.getElem_cons_zero, sp1]
      refine pT 10 (v := ?_) rfl (fun _ _ _ h => h) (by kernel_rfl) ?_ ?_
      rotate_left
      ·intro w'; go_simp; first | done | with_reducible rfl
      try simp only [Act.put, List.getElem_toArray, List.getElem_cons_succ, List.getElem_cons_zero, sp1]
      refine pK 11 (v := ?_) rfl (fun _ _ _ h => h) (by kernel_rfl) ?_ (by assumption) ?_
      rotate_left
      ·intro w' hw'
       (try have hC := hw'.2)
       (try have hC9 := hw'.1)
       go_simp
       first | done | with_reducible rfl
      try simp only [Act.put, List.getElem_toArray, List.getElem_cons_succ, List.getElem_cons_zero, sp1]
      refine pT 12 (v := ?_) rfl (fun _ _ _ h => h) (by kernel_rfl) ?_ ?_
      rotate_left
      ·intro w'; go_simp; first | done | with_reducible rfl
      try simp only [Act.put, List.getElem_toArray, List.getElem_cons_succ, List.getElem_cons_zero, sp1]
      refine pT 13 (v := ?_) rfl (fun _ _ _ h => h) (by kernel_rfl) ?_ ?_
      rotate_left
      ·intro w'; go_simp; first | done | with_reducible rfl
      try simp only [Act.put, List.getElem_toArray, List.getElem_cons_succ, List.getElem_cons_zero, sp1]
      refine pT 14 (v := ?_) rfl (fun _ _ _ h => h) (by kernel_rfl) ?_ ?_
      rotate_left
      ·intro w'; go_simp; first | done | with_reducible rfl
      try simp only [Act.put, List.getElem_toArray, List.getElem_cons_succ, List.getElem_cons_zero, sp1]
      refine pK 15 (v := ?_) rfl (fun _ _ _ h => h) (by kernel_rfl) ?_ (by assumption) ?_
      rotate_left
      ·intro w' hw'
       (try have hC := hw'.2)
       (try have hC9 := hw'.1)
       go_simp
       first | done | with_reducible rfl
      try simp only [Act.put, List.getElem_toArray, List.getElem_cons_succ, List.getElem_cons_zero, sp1]
      refine pO 16 rfl (fun K hK => ?_)
      go_simp
      refine Calls.mono (equalChg_same Aj A0 cj c0 T w7 (hRj.ext hx7) (hR0.ext hx7) (by omega)) ?_
      rintro e w8 ⟨rfl, hb8⟩
      have hx8 := hx7.trans hb8
      refine hK.out _ _ (fun _ _ => near _ hx8) ?_
      clear hK K
      refine pT 17 (v := ?_) rfl (fun _ _ _ h => h) (by kernel_rfl) ?_ ?_
      rotate_left
      ·intro w'; go_simp; first | done | with_reducible rfl
      try simp only [Act.put, List.getElem_toArray, List.getElem_cons_succ, List.getElem_cons_zero, sp1]
      refine pT 18 (v := ?_) rfl (fun _ _ _ h => h) (by kernel_rfl) ?_ ?_
      rotate_left
      ·intro w'; go_simp; first | done | with_reducible rfl
      try simp only [Act.put, List.getElem_toArray, List.getElem_cons_succ, List.getElem_cons_zero, sp1]
      (try simp only [List.getElem_toArray, List.getElem_cons_succ, List.getElem_cons_zero, Act.put, sp1])
      refine wpAnyP_done (by kernel_rfl) ?_ _
      go_wp2
      go_meet
      exact ⟨rfl, hx8⟩
     case rest =>
      obtain ⟨rfl, hx9⟩ := hcut
      generalize wc = w9 at *
      clear x1 x2 y1 y2 f1 f2 f3
      have hE9 := hE.trans hx9
      obtain ⟨b4, o4, Aq, cq, rfl, hb4', u1, u2, hRq⟩ := (hFr.ext hE9).at_ hj
      have HMq := Lib.hid (fun x => HTm.out j x)
      have hlq := HL0.out j hj
      obtain ⟨lq, hlq'⟩ : ∃ lq, hist L (K0 j) = lq := ⟨_, rfl⟩
      rw [hlq'] at HMq hRq u2 hlq
      clear hlq'
      go_wp2_with fail
      obtain ⟨g3, rfl⟩ : ∃ g3, g3 = gk := ⟨_, rfl⟩
      obtain ⟨wo3, rfl⟩ : ∃ wo3, wo3 = wr := ⟨_, rfl⟩
      go_loopg [105] lq.length (fun q vi wr => ∃ k : Nat, k + q = lq.length /\ vi = .int .i64 k /\ Ext w9 wr)
      case atStart => exact ⟨0, by omega, by go_num, Ext.refl _⟩
      case round =>
       obtain ⟨k, hkq, rfl, hE3⟩ := hrel
       have Hkq := Lib.hid hkq
       by_cases hk : k < lq.length
       ·obtain ⟨bb, oo, rfl, hbb, a0, a1, a2, a3, a4, a5, a6, a7, a8, a9, a10⟩ := (hRq.ext hE3).chg hk
        have HMx := Lib.hid (HMq.out _ (List.getElem_mem hk))
        generalize lq[k] = x at *
        have HCt := Lib.hid (fun A c w h => containsChg_any A c T x w h (by omega) HMx.out)
        obtain ⟨xo, xc, xs, xk, ⟨xsrc, xdst, xst, xen, xrate, xrng, xloss⟩⟩ := x
        unfold Chg.arr at HCt
        dsimp only at *
        obtain ⟨W5, hW5, hB5, hk5, hl5⟩ := box1 wr #[.int .i64 xo, .int .i64 xc, .int .i64 xs, .int .i64 xk, .int .i64 xsrc, .int .i64 xdst, .int .i64 xst, .int .i64 xen, .int .i64 xrate, .int .i64 xrng, .int .i64 xloss] 63
        have hH5 := hHr.ext ((hE9.trans hE3).trans hB5)
        obtain ⟨A0', c0', hR0', y1, y2⟩ := hH5.all Hs.out (show 0 < 3 by omega)
        simp only [Nat.zero_mul, Nat.zero_add] at y1 y2
        obtain ⟨f1, f2, f3⟩ := hH5.free
        have q1 := hk5.cell
        have q2 := hk5.lt
        clear hkq
        go_upto_region 30 with fail
        (try rw [hW5])
        clear hW5 a0 a1 a2 a3 a4 a5 a6 a7 a8 a9 a10
        have near := near_of9 W5
        refine wp_region_P (fun _ => false) (fun w' => Ext W5 w' /\ ∀ b o, b < W5.heap.size -> w'.cell? ⟨b, o, none⟩ = W5.cell? ⟨b, o, none⟩) (by kernel_rfl) (near _ (Ext.refl W5).drew) (fun _ => ?_)
        refine pT 0 (v := ?_) rfl (fun _ _ _ h => h) (by kernel_rfl) ?_ ?_
        rotate_left
        ·intro w'; go_simp; first | done | with_reducible rfl
        try simp only [Act.put, List.getElem_toArray, List.getElem_cons_succ, List.getElem_cons_zero, sp1]
        refine pT 1 (v := ?_) rfl (fun _ _ _ h => h) (by kernel_rfl) ?_ ?_
        rotate_left
        ·intro w'; go_simp; first | done | with_reducible rfl
        try simp only [Act.put, List.getElem_toArray, List.getElem_cons_succ, List.getElem_cons_zero, sp1]
        refine pT 2 (v := ?_) rfl (fun _ _ _ h => h) (by kernel_rfl) ?_ ?_
        rotate_left
        ·intro w'; go_simp; first | done | with_reducible rfl
        try simp only [Act.put, List.getElem_toArray, List.getElem_cons_succ, List.getElem_cons_zero, sp1]
        refine pK 3 (v := ?_) rfl (fun _ _ _ h => h) (by kernel_rfl) ?_ (by assumption) ?_
        rotate_left
        ·intro w' hw'
         (try have hC := hw'.2)
         (try have hC9 := hw'.1)
         go_simp
         first | done | with_reducible rfl
        try simp only [Act.put, List.getElem_toArray, List.getElem_cons_succ, List.getElem_cons_zero, sp1]
        refine pK 4 (v := ?_) rfl (fun _ _ _ h => h) (by kernel_rfl) ?_ (by assumption) ?_
        rotate_left
        ·intro w' hw'
         (try have hC := hw'.2)
         (try have hC9 := hw'.1)
         go_simp
         first | done | with_reducible rfl
        try simp only [Act.put, List.getElem_toArray, List.getElem_cons_succ, List.getElem_cons_zero, sp1]
        refine pO 5 rfl (fun K hK => ?_)
        go_simp
        refine Calls.mono (HCt.out A0' c0' W5.drew (hR0'.ext (Ext.refl W5).drew)) ?_
        rintro e w7 ⟨rfl, hb7⟩
        have hx7 := (Ext.refl W5).drew.trans hb7
        refine hK.out _ _ (fun _ _ => near _ hx7) ?_
        clear hK K
        refine pT 6 (v := ?_) rfl (fun _ _ _ h => h) (by kernel_rfl) ?_ ?_
        rotate_left
        ·intro w'; go_simp; first | done | with_reducible rfl
        try simp only [Act.put, List.getElem_toArray, List.getElem_cons_succ, List.getElem_cons_zero, sp1]
        (try simp only [List.getElem_toArray, List.getElem_cons_succ, List.getElem_cons_zero, Act.put, sp1])
        refine wpAnyP_done (by kernel_rfl) ?_ _
        go_wp2
        go_roundg (lq.length - (k + 1))
        case measure => have := Hkq.out; omega
        case rel => exact ⟨k + 1, by have := Hkq.out; omega, by go_num, (hE3.trans hB5).trans hx7⟩
       ·clear hkq
        go_wp2
        go_roundg (3 - (j + 1))
        case measure => have := Hjq.out; omega
        case rel => exact ⟨j + 1, by have := Hjq.out; omega, by go_num, hE9.trans hE3⟩
    ·have hH := hHr.ext hE
     obtain ⟨A0, c0, hR0, y1, y2⟩ := hH.all Hs.out (show 0 < 3 by omega)
     simp only [Nat.zero_mul, Nat.zero_add] at y1 y2
     obtain ⟨f1, f2, f3⟩ := hH.free
     have fc := Contacts_any 4 A0 c0 T wr hR0 hTc
     go_wp2_with fail
     refine Calls.mono fc ?_
     clear fc
     rintro e w9 ⟨hb9, cs, hS, hor9⟩
     have hcl := hS.len
     rcases hor9 with ⟨h64, _⟩ | ⟨_, u, ts, rfl, hp, ho9⟩
     ·omega
     obtain ⟨A9, c9, rfl, hR9⟩ := ho9.form
     have hchk := plan_of hS HTo.out (by omega) hp (quo := [50, 50, 50, 50]) rfl (fun q hq => by simp at hq; omega)
     have htl : ts.length <= 64 := by rw [hp.length_eq]; omega
     obtain ⟨W12, hW12, hB12, hk12, hl12⟩ := box1 w9 #[.int .i64 50, .int .i64 50, .int .i64 50, .int .i64 50] 3
     obtain ⟨W13, hW13, hB13, hk13, hl13⟩ := box1 W12 #[.slice (some ⟨w9.heap.size, 0, none⟩) 4 4, .slice A9 ts.length c9] 68
     have hx13 := hB12.trans hB13
     have hrd : PlnRd W13 (some ⟨w9.heap.size, 0, none⟩) 4 A9 c9 ⟨[50, 50, 50, 50], ts⟩ := ⟨(rd_blk (l := [50, 50, 50, 50]) (e := 3) hk12).ext hB13, hR9.ext hx13, by simp, by show ts.length <= 1000000; omega, by simp, ho9.cap⟩
     have hfo := Foremost_any (some ⟨w9.heap.size, 0, none⟩) 4 A9 c9 ⟨[50, 50, 50, 50], ts⟩ 0 0 8 W13 hrd
     have hpc := fun w h => pcheck_any (some ⟨w9.heap.size, 0, none⟩) 4 A9 c9 ⟨[50, 50, 50, 50], ts⟩ w h
     rw [hchk] at hpc
     rw [plan_for hchk] at hfo
     unfold Pln.val at hpc hfo
     simp only [List.length_cons, List.length_nil, Nat.zero_add, Nat.reduceAdd] at hpc hfo
     have HPC := Lib.hid hpc
     have HFO := Lib.hid hfo
     have hfin := ((hEr.trans hE).trans hb9).trans hx13
     have q1 := hk13.cell
     have q2 := hk13.lt
     clear hpc hfo hchk hS hp y1 y2 f1 f2 f3
     go_wp2_with fail
     clear hW12 hW13
     refine Calls.mono HFO.out ?_
     rintro e w14 ⟨Af, cf, rfl, hRf, hb14, hcf⟩
     have hk14 := hk13.ext hb14
     clear q1 q2
     have q1 := hk14.cell
     have q2 := hk14.lt
     go_wp2_with fail
     refine Calls.mono (HPC.out _ (hrd.ext hb14)) ?_
     rintro e w15 ⟨rfl, hb15⟩
     go_wp2
     go_ret
     exact ⟨rfl, (hfin.trans hb14).trans hb15⟩
end Go.Proofs.YtemkpimngbbpkaaGreat
