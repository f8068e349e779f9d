/- Layer 28 (storage): Check; layer 29: CheckTables. -/
import Derived.BigQuiet
import Derived.Test.YtemkpimngbbpkaaGreatQt31
import Derived.Test.YtemkpimngbbpkaaGreatQt32
namespace Go.Proofs.YtemkpimngbbpkaaGreat
set_option linter.unusedVariables false
set_option linter.unusedSimpArgs false
open Go.RowKit Go.Shelf
attribute [local go_sem] Oper.semAt_some
set_option maxRecDepth 100000 in
set_option maxHeartbeats 8000000 in
theorem sCheck_any (Aq : Option Addr) (cq : Nat) (Ac : Option Addr) (cc : Nat) (p : Pln) (Al : Option Addr) (cl : Nat) (l : List Hd) (w : World) (h : PlnRd w Aq cq Ac cc p) (hl : Rd EHd w Al l) (hlm : l.length <= 1000000) :
 Calls Tryz.prog 160 #[p.val Aq cq Ac cc, .slice Al l.length cl] w fun e w' => e = .returned (.int .i64 (p.stChk l)) /\ Ext w w' := by
 obtain ⟨W, hW, hB, hk, hlt⟩ := box1 w #[.slice Aq p.quo.length cq, .slice Ac p.cons.length cc] 68
 have hc := hk.cell
 have hpc := pcheck_any Aq cq Ac cc p W (h.ext hB)
 have hrd := h.ext hB
 have hl1 := hl.ext hB
 have hqm := h.qm
 unfold Pln.val at hpc ⊢
 by_cases h0 : p.chk = 0
 case' neg =>
  have d0 : (p.chk != 0) = true := by simpa using h0
  have HV := Lib.hid (show p.stChk l = 1 by unfold Pln.stChk; rw [if_neg h0])
  clear h0
  go_enter Tryz.func160, Tryz.ntmps160
  go_wp2_with fail
  clear hW
  refine hpc.mono ?_
  rintro e w1 ⟨rfl, hb1⟩
  go_wp2
  go_ret
  exact ⟨by rw [HV.out]; rfl, hB.trans hb1⟩
 rw [h0] at hpc
 have H0 := Lib.hid h0
 clear h0
 by_cases h5 : 512 < l.length
 case' pos =>
  have d5 : decide ((512 : Int) < l.length) = true := decide_eq_true (by omega)
  have HV := Lib.hid (show p.stChk l = 4 by unfold Pln.stChk; rw [if_pos H0.out, if_pos h5])
  clear h5
  go_enter Tryz.func160, Tryz.ntmps160
  go_wp2_with fail
  clear hW
  refine hpc.mono ?_
  rintro e w1 ⟨rfl, hb1⟩
  go_wp2
  go_ret
  exact ⟨by rw [HV.out]; rfl, hB.trans hb1⟩
 have d5 : decide ((512 : Int) < l.length) = false := decide_eq_false (by omega)
 have HE := Lib.hid (show p.hdErr l l.length ≠ 0 -> p.stChk l = p.hdErr l l.length by intro hn; unfold Pln.stChk; rw [if_pos H0.out, if_neg h5, if_neg hn])
 have HF := Lib.hid (show p.hdErr l l.length = 0 -> (p.stF l p.quo.length -> p.stChk l = 15) /\ (¬ p.stF l p.quo.length -> p.stChk l = 0) by
  intro hn; unfold Pln.stChk; rw [if_pos H0.out, if_neg h5, if_pos hn]; exact ⟨fun h => if_pos h, fun h => if_neg h⟩)
 replace hlm : l.length <= 512 := by omega
 clear h5
 go_enter Tryz.func160, Tryz.ntmps160
 go_wp2_with fail
 clear hW
 refine hpc.mono ?_
 clear hpc
 rintro e w1 ⟨rfl, hb1⟩
 have hrd1 := hrd.ext hb1
 have hl2 := hl1.ext hb1
 have hk1 := hk.ext hb1
 have hE1 := hB.trans hb1
 clear hc hrd hl1 hk
 go_wp2_with fail
 go_loopg [17] l.length (fun n k wr => ∃ j : Nat, j + n = l.length /\ k = .int .i64 j /\ Hid (p.hdErr l j = 0) /\ Ext w1 wr)
 case atStart => exact ⟨0, by omega, rfl, Lib.hid rfl, Ext.refl _⟩
 case round =>
  obtain ⟨j, hjq, rfl, hme, hx⟩ := hrel
  have Hjq := Lib.hid hjq
  have hjN : j <= l.length := by omega
  clear hjq
  by_cases hlt2 : j < l.length
  ·obtain ⟨bl, ol, rfl, hbl, g0, g1, g2, g3, g4⟩ := (hl2.ext hx).hd hlt2
   have hgb := ghd_get hlt2
   cases j with
   | zero =>
     simp only [Nat.zero_mul, Nat.add_zero] at g0 g1 g2 g3 g4
     generalize hbe : l[0] = b at *
     have Hgb := Lib.hid hgb
     clear hgb hbe
     obtain ⟨W2, hW2, hB2, hkb, hltW⟩ := box1 wr #[.int .i64 b.nod, .int .i64 b.fr, .int .i64 b.til, .int .i64 b.siz, .int .i64 b.tic] 350
     have hva := hvalid_any Aq cq Ac cc p b W2 hqm
     unfold Pln.val Hd.val at hva
     have hcb := hkb.cell
     have hcp := ((hk1.ext hx).ext hB2).cell
     have hlp := ((hk1.ext hx).ext hB2).lt
     go_wp2_with fail
     clear hW2
     refine hva.mono ?_
     clear hva
     rintro e w4 ⟨rfl, hb4⟩
     cases hv : p.hdOk b
     ·have HV := Lib.hid (show p.stChk l = 2 by
       have e := hdAt_2 Hgb.out hv
       have e2 := Pln.hdErr_step hme.out hlt2 (by rw [e]; decide)
       rw [HE.out (by rw [e2, e]; decide), e2, e])
      clear hv
      go_wp2
      go_ret
      exact ⟨by rw [HV.out]; rfl, ((hE1.trans hx).trans hB2).trans hb4⟩
     ·have HN := Lib.hid (Pln.hdErr_next hme.out (hdAt_0 Hgb.out hv))
      clear hv hcb hcp
      have hcb4 := (hkb.ext hb4).cell
      have hlb4 := (hkb.ext hb4).lt
      have hN := Near.refl w4
      go_wp2_with fail
      have hq := quiet_near hN
      refine wp_region_quiet_below (by kernel_rfl) (by kernel_rfl) ?_
      repeat (first | go_big_quiet_skip | (go_big_quiet_want; go_big_quiet_op; first | go_big_quiet_on | (apply Exists.intro; refine ⟨fun _ => ?_, ?_⟩; (focus (first | fail)); go_big_quiet_on)))
      refine wpQuiet_nil ?_
      intro w1 hw1
      clear hq
      replace hw1 := quiet_ext hw1
      replace hN := hN.step hw1
      have hC := hN.2
      go_wp2
      go_roundg (l.length - (0 + 1))
      case measure => have := Hjq.out; omega
      case rel => exact ⟨0 + 1, by have := Hjq.out; omega, by go_num, HN, ((hx.trans hB2).trans hb4).trans hw1⟩
   | succ m =>
     obtain ⟨b', o', hA, hbl', f0, f1, f2, f3, f4⟩ := (hl2.ext hx).hd (k := m) (by omega)
     injection hA with hA
     injection hA with hA hA2
     subst hA hA2
     have hwj : IntKind.i64.wrap (m : Int) = (m : Int) := IntWalk.i64_in _ (by omega)
     have hga := ghd_get (l := l) (i := m) (by omega)
     have hmi0 : m < l.length := by omega
     have hmi1 : (m : Int) < (l.length : Int) := by omega
     have hmi2 : (m : Int) <= (l.length : Int) := by omega
     have hmi3 : m <= l.length := by omega
     generalize hbe : l[m + 1] = b at *
     generalize hae : l[m] = a at *
     have Hgb := Lib.hid hgb
     have Hga := Lib.hid hga
     clear hgb hbe hga hae
     obtain ⟨W2, hW2, hB2, hkb, hltW⟩ := box1 wr #[.int .i64 b.nod, .int .i64 b.fr, .int .i64 b.til, .int .i64 b.siz, .int .i64 b.tic] 350
     have hva := hvalid_any Aq cq Ac cc p b W2 hqm
     have hcmp := fun w => hcompare_any a b w
     unfold Pln.val Hd.val at hva
     unfold Hd.val at hcmp
     have hcb := hkb.cell
     have hcp := ((hk1.ext hx).ext hB2).cell
     have hlp := ((hk1.ext hx).ext hB2).lt
     go_wp2_with fail
     clear hW2
     refine hva.mono ?_
     clear hva
     rintro e w4 ⟨rfl, hb4⟩
     cases hv : p.hdOk b
     ·have HV := Lib.hid (show p.stChk l = 2 by
       have e := hdAt_2 Hgb.out hv
       have e2 := Pln.hdErr_step hme.out hlt2 (by rw [e]; decide)
       rw [HE.out (by rw [e2, e]; decide), e2, e])
      clear hv
      go_wp2
      go_ret
      exact ⟨by rw [HV.out]; rfl, ((hE1.trans hx).trans hB2).trans hb4⟩
     ·have HVT := Lib.hid hv
      clear hv
      have hx4 := hB2.trans hb4
      have hcb4 := (hkb.ext hb4).cell
      have hlb4 := (hkb.ext hb4).lt
      replace g0 := hx4.cell_some g0
      replace g1 := hx4.cell_some g1
      replace g2 := hx4.cell_some g2
      replace g3 := hx4.cell_some g3
      replace g4 := hx4.cell_some g4
      replace f0 := hx4.cell_some f0
      replace f1 := hx4.cell_some f1
      replace f2 := hx4.cell_some f2
      replace f3 := hx4.cell_some f3
      replace f4 := hx4.cell_some f4
      have hbl4 : bl < w4.heap.size := Nat.lt_of_lt_of_le hbl hx4.size
      clear hcb hcp
      go_wp2_with fail
      have hN := Near.refl w4
      go_region_held3 (fun w' => Ext w4 w' /\ ∀ b o, b < w4.heap.size -> w'.cell? ⟨b, o, none⟩ = w4.cell? ⟨b, o, none⟩) (first | exact hN.drew | exact Near.step (by assumption) hb9 | assumption)
       (first | (go_at_call 240; refine (hcmp _).mono ?_; rintro e w9 ⟨rfl, hb9⟩))
      all_goals
       obtain ⟨hE, hC⟩ := ‹Ext w4 _ /\ _›
       have hEw := ((hE1.trans hx).trans hx4).trans hE
       by_cases hcm : 0 < hdCmp a b
       ·have HV := Lib.hid (show p.stChk l = 9 by
         have e := hdAt_9 Hgb.out Hga.out HVT.out hcm
         have e2 := Pln.hdErr_step hme.out hlt2 (by rw [e]; decide)
         rw [HE.out (by rw [e2, e]; decide), e2, e])
        go_wp2
        go_ret
        exact ⟨by rw [HV.out]; rfl, hEw⟩
       ·have Hcm := Lib.hid hcm
        have dcm : decide (0 < hdCmp a b) = false := decide_eq_false hcm
        have HN := Lib.hid (Pln.hdErr_next hme.out (hdAt_ok Hgb.out Hga.out HVT.out hcm))
        clear hcm
        go_wp2
        go_roundg (l.length - (m + 1 + 1))
        case measure => have := Hjq.out; omega
        case rel => exact ⟨m + 1 + 1, by have := Hjq.out; omega, by go_num, HN, (hx.trans hx4).trans hE⟩
  ·obtain rfl : j = l.length := by omega
   have hhd := Pln.hdErr_ok hme.out
   have hlv := fun n w' hl' => levels_any Al cl l n w' hl' hlm (fun x hx => by
    obtain ⟨i, hi, rfl⟩ := List.mem_iff_getElem.1 hx
    exact hdOk_b (hhd i hi hi))
   have hF := HF.out hme.out
   have Hf1 := Lib.hid hF.1
   have Hf2 := Lib.hid hF.2
   clear hhd hF hme HE HF
   obtain ⟨wo, rfl⟩ : ∃ wo, wo = wr := ⟨_, rfl⟩
   obtain ⟨gko, rfl⟩ : ∃ g, g = gk := ⟨_, rfl⟩
   have hE2 := hE1.trans hx
   have hrd2 := hrd1.ext hx
   have hl3 := hl2.ext hx
   have c2 := (hk1.ext hx).cell
   have l2 := (hk1.ext hx).lt
   go_wp2_with fail
   go_loopg [42] p.quo.length (fun n k wr => ∃ j : Nat, j + n = p.quo.length /\ k = .int .i64 j /\ Hid (¬ p.stF l j) /\ Ext wo wr)
   case atStart => exact ⟨0, by omega, rfl, Lib.hid (by rintro ⟨n, hn, _⟩; omega), Ext.refl _⟩
   case round =>
    obtain ⟨j, hjq, rfl, hnf, hy⟩ := hrel
    have Hjq2 := Lib.hid hjq
    have hjN2 : j <= p.quo.length := by omega
    clear hjq
    by_cases hlt3 : j < p.quo.length
    ·obtain ⟨b1, o1, rfl, hb1', g1⟩ := (hrd2.q.ext hy).int hlt3
     have HX := Lib.hid (show p.quo.getD j 0 = p.quo[j] by simp [hlt3])
     generalize p.quo[j] = x at *
     have hlv3 := hlv (j : Int) _ (hl3.ext hy)
     go_wp2_with fail
     refine hlv3.mono ?_
     clear hlv3
     rintro e w4 ⟨u, rfl, hu, hb4⟩
     have hlvb : (levL l (j : Int)).length <= 1024 := by
      have h1 := evs_len l (j : Int)
      have h2 := tms_le (evs l (j : Int))
      have h3 := srt_len (tms (evs l (j : Int)))
      have key : ∀ (E : List (Int × Int)) (ts : List Int) (s : Int × List Lev), (ts.foldl (lvStep E) s).2.length <= s.2.length + ts.length := by
       intro E ts
       induction ts with
       | nil => intro s; simp
       | cons t ts ih =>
         intro s
         rw [List.foldl_cons, List.length_cons]
         have := ih (lvStep E s t)
         have h4 : (lvStep E s t).2.length <= s.2.length + 1 := by unfold lvStep; split <;> simp
         omega
      have h5 := key (evs l (j : Int)) (srt (tms (evs l (j : Int)))) (0, [])
      simp only [List.length_nil] at h5
      show ((srt (tms (evs l (j : Int)))).foldl (lvStep (evs l (j : Int))) (0, [])).2.length <= 1024
      omega
     have HM := Lib.hid (show mostL (levL l (j : Int)) = mostL (levL l (j : Int)) from rfl)
     obtain ⟨A, c, rfl, hR⟩ := hu.form
     have hmo := fun w' h' => most_any A c (levL l (j : Int)) w' h' (by omega)
     go_wp2_with fail
     refine (hmo _ hR).mono ?_
     clear hmo
     rintro e w5 ⟨rfl, hb5⟩
     by_cases hgt : x < mostL (levL l (j : Int))
     ·have HV := Lib.hid (Hf1.out ⟨j, hlt3, by rw [HX.out]; exact hgt⟩)
      go_wp2
      go_ret
      exact ⟨by rw [HV.out]; rfl, ((hE2.trans hy).trans hb4).trans hb5⟩
     ·have HN := Lib.hid (show ¬ p.stF l (j + 1) by
       rintro ⟨n, hn, hlt⟩
       by_cases e : n = j
       ·subst e; rw [HX.out] at hlt; exact hgt hlt
       ·exact hnf.out ⟨n, by omega, hlt⟩)
      have hd : decide (x < mostL (levL l (j : Int))) = false := decide_eq_false hgt
      clear hgt
      go_wp2
      go_roundg (gk - 1)
      case measure => have := Hjq2.out; omega
      case rel => exact ⟨j + 1, by have := Hjq2.out; omega, by go_num, HN, (hy.trans hb4).trans hb5⟩
    ·obtain rfl : j = p.quo.length := by omega
     have HV := Lib.hid (Hf2.out hnf.out)
     go_wp2
     go_ret
     exact ⟨by rw [HV.out]; rfl, hE2.trans hy⟩
noncomputable def Pln.tabE (p : Pln) (bk : List Bk) (hd : List Hd) : Int := if p.chk ≠ 0 then p.chk else if p.bkChk bk ≠ 0 then p.bkChk bk else p.stChk hd
set_option maxRecDepth 100000 in
set_option maxHeartbeats 4000000 in
theorem tables_any (Aq : Option Addr) (cq : Nat) (Ac : Option Addr) (cc : Nat) (p : Pln) (Al : Option Addr) (cl : Nat) (bk : List Bk) (Ah : Option Addr) (ch : Nat) (hd : List Hd) (w : World) (h : PlnRd w Aq cq Ac cc p) (hbk : Rd EBk w Al bk) (hbm : bk.length <= 1000000) (hhd : Rd EHd w Ah hd) (hhm : hd.length <= 1000000) :
 Calls Tryz.prog 78 #[.agg #[.slice Aq p.quo.length cq, .slice Ac p.cons.length cc, .slice Al bk.length cl, .slice Ah hd.length ch]] w fun e w' => e = .returned (.int .i64 (p.tabE bk hd)) /\ Ext w w' := by
 obtain ⟨W, hW, hB, hk, hlt⟩ := box1 w #[.slice Aq p.quo.length cq, .slice Ac p.cons.length cc, .slice Al bk.length cl, .slice Ah hd.length ch] 83
 have hc := hk.cell
 have hpc := pcheck_any Aq cq Ac cc p W (h.ext hB)
 have hrd := h.ext hB
 have hbc := fun w h hb => bCheck_any Aq cq Ac cc p Al cl bk w h hb hbm
 have hsc := fun w h hb => sCheck_any Aq cq Ac cc p Ah ch hd w h hb hhm
 unfold Pln.val at hpc hbc hsc
 by_cases h0 : p.chk = 0
 case' neg =>
  have d0 : (p.chk != 0) = true := by simpa using h0
  have HV := Lib.hid (show p.tabE bk hd = p.chk from if_pos h0)
  clear h0
  go_enter Tryz.func78, Tryz.ntmps78
  go_wp2_with fail
  clear hW
  refine hpc.mono ?_
  clear hpc
  rintro e w1 ⟨rfl, hb1⟩
  go_wp2
  go_ret
  exact ⟨by rw [HV.out]; rfl, hB.trans hb1⟩
 have HT := Lib.hid (show p.tabE bk hd = if p.bkChk bk ≠ 0 then p.bkChk bk else p.stChk hd from if_neg (fun h => h h0))
 rw [h0] at hpc
 clear h0
 by_cases h1 : p.bkChk bk = 0
 case' neg =>
  have d1 : (p.bkChk bk != 0) = true := by simpa using h1
  have HV := Lib.hid (HT.out.trans (if_pos h1))
  clear h1
  go_enter Tryz.func78, Tryz.ntmps78
  go_wp2_with fail
  clear hW
  refine hpc.mono ?_
  clear hpc
  rintro e w1 ⟨rfl, hb1⟩
  have c1 := (hk.ext hb1).cell
  have l1 := (hk.ext hb1).lt
  go_wp2_with fail
  refine (hbc _ (hrd.ext hb1) ((hbk.ext hB).ext hb1)).mono ?_
  rintro e w2 ⟨rfl, hb2⟩
  go_wp2
  go_ret
  exact ⟨by rw [HV.out]; rfl, (hB.trans hb1).trans hb2⟩
 have HV := Lib.hid (HT.out.trans (if_neg (fun h => h h1)))
 rw [h1] at hbc
 clear h1 HT
 go_enter Tryz.func78, Tryz.ntmps78
 go_wp2_with fail
 clear hW
 refine hpc.mono ?_
 clear hpc
 rintro e w1 ⟨rfl, hb1⟩
 have c1 := (hk.ext hb1).cell
 have l1 := (hk.ext hb1).lt
 go_wp2_with fail
 refine (hbc _ (hrd.ext hb1) ((hbk.ext hB).ext hb1)).mono ?_
 rintro e w2 ⟨rfl, hb2⟩
 have c2 := ((hk.ext hb1).ext hb2).cell
 have l2 := ((hk.ext hb1).ext hb2).lt
 go_wp2_with fail
 refine (hsc _ ((hrd.ext hb1).ext hb2) (((hhd.ext hB).ext hb1).ext hb2)).mono ?_
 rintro e w3 ⟨rfl, hb3⟩
 go_wp2
 go_ret
 exact ⟨by rw [HV.out]; rfl, ((hB.trans hb1).trans hb2).trans hb3⟩
theorem tabC_any (Aq : Option Addr) (cq : Nat) (Ac : Option Addr) (cc : Nat) (p : Pln) (Al : Option Addr) (cl : Nat) (bk : List Bk) (Ah : Option Addr) (ch : Nat) (hd : List Hd) (w : World) (h : PlnRd w Aq cq Ac cc p) (hbk : Rd EBk w Al bk) (hbm : bk.length <= 1000000) (hhd : Rd EHd w Ah hd) (hhm : hd.length <= 1000000) :
 TabC p bk (.agg #[.slice Aq p.quo.length cq, .slice Ac p.cons.length cc, .slice Al bk.length cl, .slice Ah hd.length ch]) (p.tabE bk hd) w :=
 ⟨fun w' hb => tables_any Aq cq Ac cc p Al cl bk Ah ch hd w' (h.ext hb) (hbk.ext hb) hbm (hhd.ext hb) hhm, fun e => by
  apply Classical.byContradiction
  intro hn
  unfold Pln.tabE at e
  by_cases h0 : p.chk ≠ 0
  ·rw [if_pos h0] at e; exact h0 e
  ·rw [if_neg h0, if_pos hn] at e; exact hn e⟩
end Go.Proofs.YtemkpimngbbpkaaGreat
