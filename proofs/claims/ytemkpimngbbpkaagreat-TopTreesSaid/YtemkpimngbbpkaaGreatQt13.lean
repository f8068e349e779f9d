/- Update: the orders of changes. · Security: bundle.checkBlocks, bundle.Check. · Security: block.Find, filter, Remove. · The example of the chapters' last parts: blocks that are no part of a bundle's cells. · Update: no negative number in a vector. · Layer 24 (journey): the reference's start, arrivals, Foremost. -/
import Derived.Deep.RegionHeld3
import Derived.BigRegion
import Derived.Test.YtemkpimngbbpkaaGreatQt02
import Derived.Test.YtemkpimngbbpkaaGreatQt04
import Derived.Test.YtemkpimngbbpkaaGreatQt08
import Derived.Test.YtemkpimngbbpkaaGreatQt12
namespace Go.Proofs.YtemkpimngbbpkaaGreat
set_option linter.unusedVariables false
set_option linter.unusedSimpArgs false
section
open Go.RowKit Go.Shelf
attribute [local go_sem] Oper.semAt_some
def orgC (x y : Chg) : Int := orL [cmpI x.org y.org, cmpI x.cnt y.cnt]
def newC (x y : Chg) : Int := orL [cmpI y.stp x.stp, cmpI y.org x.org]
set_option maxRecDepth 100000 in
set_option maxHeartbeats 4000000 in
theorem newer_any (x y : Chg) (w : World) :
 Calls Tryz.prog 147 #[.agg x.arr, .agg y.arr] w fun e w' => e = .returned (.int .i64 (newC x y)) /\ Ext w w' := by
 obtain ⟨W, hW, hB, hk, hk2, hlt, hlt2⟩ := box2 w #[.int .i64 x.org, .int .i64 x.cnt, .int .i64 x.stp, .int .i64 x.kind, .int .i64 x.con.src, .int .i64 x.con.dst, .int .i64 x.con.st, .int .i64 x.con.en, .int .i64 x.con.rate, .int .i64 x.con.rng, .int .i64 x.con.loss] #[.int .i64 y.org, .int .i64 y.cnt, .int .i64 y.stp, .int .i64 y.kind, .int .i64 y.con.src, .int .i64 y.con.dst, .int .i64 y.con.st, .int .i64 y.con.en, .int .i64 y.con.rate, .int .i64 y.con.rng, .int .i64 y.con.loss] 63 63
 have hc := hk.cell
 have hc2 := hk2.cell
 unfold Chg.arr
 go_enter Tryz.func147, Tryz.ntmps147
 go_wp2_with fail
 clear hW
 have hN := Near.refl W
 go_region_held3 (fun w' => Ext W w' /\ ∀ b o, b < W.heap.size -> w'.cell? ⟨b, o, none⟩ = W.cell? ⟨b, o, none⟩) (first | exact hN.drew | exact near_alloc (by assumption) _ | assumption)
  (first | (go_at_call 68; refine (cmp_any _ _ _).mono ?_; rintro e w1 ⟨rfl, rfl⟩) | (go_at_call 67; refine (or_any _ 2 [cmpI y.stp x.stp, cmpI y.org x.org] _ (by first | exact rd_blk2 (Blk.new _ _ _) | exact rd_new2 _ _ _ _) (by simp)).mono ?_; rintro e w1 ⟨rfl, rfl⟩))
 all_goals
  clear hN
  go_wp2
  go_ret
  exact ⟨rfl, hB.trans (And.left ‹Ext W _ /\ _›)⟩
end
section
open Go.RowKit Go.Shelf
attribute [local go_sem] Oper.semAt_some
theorem Rd.bl {w : World} {A : Option Addr} {l : List Bl} (h : Rd EBl w A l) {k : Nat} (hk : k < l.length) : ∃ b o, A = some ⟨b, o, none⟩ /\ b < w.heap.size /\
 w.cell? ⟨b, o + k * 3, none⟩ = some (.int .i64 l[k].kind) /\ w.cell? ⟨b, o + k * 3 + 1, none⟩ = some (.int .i64 l[k].flags) /\ w.cell? ⟨b, o + k * 3 + 2, none⟩ = some (strV l[k].data) := by
 obtain ⟨b, o, rfl, hb, hc⟩ := h.at hk
 exact ⟨b, o, rfl, hb, hc 0 _ rfl, hc 1 _ rfl, hc 2 _ rfl⟩
theorem strV_str (l : Bts) : ∃ ba : ByteArray, strV l = .string ba /\ ba.size = l.length := ⟨⟨l.toArray⟩, rfl, by show l.toArray.size = l.length; simp⟩
theorem blkErrs_take {l : List Bl} {k : Nat} (h : k < l.length) (h0 : blkErrs (l.take k) = 0) (h1 : l[k].err = 0) : blkErrs (l.take (k + 1)) = 0 := by
 rw [blkErrs_ok] at h0 ⊢
 intro b hb
 rw [<- List.take_append_getElem h] at hb
 rcases List.mem_append.1 hb with hb | hb
 ·exact h0 b hb
 ·rw [List.mem_singleton.1 hb]; exact h1
theorem blkErrs_bad : ∀ {l : List Bl} {k : Nat} (h : k < l.length), blkErrs (l.take k) = 0 -> l[k].err ≠ 0 -> blkErrs l = l[k].err
 | x :: l, 0, _, _, h1 => by
   unfold blkErrs
   rw [if_pos (by simpa using h1)]
   rfl
 | x :: l, k + 1, h, h0, h1 => by
   rw [List.take_succ_cons] at h0
   have h2 : x.err = 0 := blkErrs_ok.1 h0 x (by simp)
   have h3 : blkErrs (l.take k) = 0 := blkErrs_ok.2 (fun b hb => blkErrs_ok.1 h0 b (by simp [hb]))
   unfold blkErrs
   rw [if_neg (by rw [h2]; simp)]
   exact blkErrs_bad (by simpa using h) h3 (by simpa using h1)
theorem asc_take {l : List Bl} {k : Nat} (h : k + 1 < l.length) (h0 : AscB (l.take (k + 1))) (h1 : l[k].kind < l[k + 1].kind) : AscB (l.take (k + 2)) := by
 have e : l.take (k + 2) = l.take (k + 1) ++ [l[k + 1]] := (List.take_append_getElem h).symm
 unfold AscB at *
 rw [e, List.pairwise_append]
 refine ⟨h0, by simp, fun a ha b hb => ?_⟩
 rw [List.mem_singleton.1 hb]
 obtain ⟨i, hi, rfl⟩ := List.mem_iff_getElem.1 ha
 rw [List.length_take] at hi
 rw [List.getElem_take]
 rcases Nat.lt_or_ge i k with h2 | h2
 ·have := List.pairwise_iff_getElem.1 h0 i k (by rw [List.length_take]; omega) (by rw [List.length_take]; omega) h2
  rw [List.getElem_take, List.getElem_take] at this
  omega
 ·have : i = k := by omega
  subst this
  exact h1
theorem idE_ok {a b c d t : Int} (h : idE a b c d t = 0) : (0 <= d /\ d <= 4096) /\ (0 <= t /\ t <= 4096) /\ (0 <= b /\ b <= 1099511627776) := by
 unfold idE at h
 split at h
 ·omega
 ·split at h
  ·omega
  ·split at h
   ·omega
   ·omega
theorem asc_bad {l : List Bl} {k : Nat} (h : k + 1 < l.length) (h1 : l[k + 1].kind <= l[k].kind) : ¬ AscB l := fun ha => by
 have := List.pairwise_iff_getElem.1 ha k (k + 1) (by omega) h (by omega)
 omega
set_option maxRecDepth 100000 in
set_option maxHeartbeats 8000000 in
theorem chkBlks_any (A : Option Addr) (cc : Nat) (l : List Bl) (w : World) (hR : Rd EBl w A l) :
 Calls Tryz.prog 177 #[.slice A l.length cc] w fun e w' => e = .returned (.int .i64 (blksE l)) /\ Ext w w' := by
 by_cases h8 : 8 < l.length
 ·have HV := Lib.hid (show blksE l = 4 by unfold blksE; rw [if_pos h8])
  go_enter Tryz.func177, Tryz.ntmps177
  go_wp2
  go_ret
  exact ⟨by rw [HV.out]; rfl, Ext.refl _⟩
 ·have H8 : l.length <= 8 := by omega
  go_enter Tryz.func177, Tryz.ntmps177
  go_wp2_with fail
  go_loopg [12] l.length (fun n v wr => ∃ k : Nat, k + n = l.length /\ v = .int .i64 k /\ Hid (blkErrs (l.take k) = 0) /\ Ext w wr)
  case atStart => exact ⟨0, by omega, by go_num, Lib.hid rfl, Ext.refl _⟩
  case round =>
   obtain ⟨k, hkn, rfl, hk0, hE⟩ := hrel
   have Hkn := Lib.hid hkn
   by_cases hlt : k < l.length
   ·obtain ⟨b, o, rfl, hb, c0, c1, c2⟩ := (hR.ext hE).bl hlt
    have hck := fun w => blChk_any l[k] w
    have hbad := fun h1 => blkErrs_bad hlt hk0.out h1
    have hgood := fun h1 => blkErrs_take hlt hk0.out h1
    obtain ⟨y, hy⟩ : ∃ y, l[k] = y := ⟨_, rfl⟩
    rw [hy] at c0 c1 c2 hck hbad hgood
    obtain ⟨ba, hba, _⟩ := strV_str y.data
    rw [hba] at c2 hck
    obtain ⟨kd, hkd⟩ : ∃ kd, y.kind = kd := ⟨_, rfl⟩
    obtain ⟨fl, hfl⟩ : ∃ fl, y.flags = fl := ⟨_, rfl⟩
    obtain ⟨er, her⟩ : ∃ er, y.err = er := ⟨_, rfl⟩
    rw [hkd, hfl, her] at hck
    rw [hkd] at c0
    rw [hfl] at c1
    rw [her] at hbad hgood
    obtain ⟨W1, hW1, hB1, hk1, hl1⟩ := box1 wr #[.int .i64 kd, .int .i64 fl, .string ba] 116
    have d1 := hk1.cell
    clear hy hba hkd hfl her hkn
    by_cases h0 : er = 0
    ·subst h0
     have Hg := Lib.hid (hgood rfl)
     clear hgood hbad
     go_wp2_with fail
     clear hW1 c0 c1 c2
     refine (hck _).mono ?_
     clear hck
     rintro e w2 ⟨rfl, hb2⟩
     go_wp2
     go_roundg (gk - 1)
     case measure => have := Hkn.out; omega
     case rel => exact ⟨k + 1, by have := Hkn.out; omega, by go_num, Lib.hid Hg.out, (hE.trans hB1).trans hb2⟩
    ·have hn0 : (er != 0) = true := by rw [bne_iff_ne]; exact h0
     have HV := Lib.hid (show blksE l = er by unfold blksE; rw [if_neg h8, if_pos (by rw [hbad h0]; exact h0)]; exact hbad h0)
     clear hgood hbad
     go_wp2_with fail
     clear hW1 c0 c1 c2
     refine (hck _).mono ?_
     clear hck
     rintro e w2 ⟨rfl, hb2⟩
     go_wp2
     go_ret
     exact ⟨by rw [HV.out]; rfl, (hE.trans hB1).trans hb2⟩
   ·obtain rfl : k = l.length := by omega
    have Hk0 := Lib.hid (show blkErrs l = 0 by have := hk0.out; rwa [List.take_length] at this)
    clear hk0
    go_wp2_with fail
    clear hkn
    obtain ⟨wo, rfl⟩ : ∃ wo, wo = wr := ⟨_, rfl⟩
    obtain ⟨gko, rfl⟩ : ∃ g, g = gk := ⟨_, rfl⟩
    go_loopg [6] l.length (fun n v wy => ∃ k : Nat, v = .int .i64 ((k : Int) + 1) /\ n = l.length - k /\ (k = 0 ∨ k + 1 <= l.length) /\ Hid (AscB (l.take (k + 1))) /\ Ext w wy)
    case atStart => exact ⟨0, by go_num, by omega, .inl rfl, Lib.hid (by cases l with
     | nil => simp [AscB]
     | cons x l => simp [AscB]), hE⟩
    case round =>
     obtain ⟨k, rfl, rfl, hk1, ha, hE2⟩ := hrel
     by_cases hlt : k + 1 < l.length
     ·have hR1 := hR.ext hE2
      obtain ⟨b, o, rfl, hb, c0, _, _⟩ := hR1.bl (k := k) (by omega)
      obtain ⟨b', o', e', _, e0, _, _⟩ := hR1.bl hlt
      injection e' with e'
      injection e' with e1 e2
      subst e1 e2
      have hgood := fun h1 => asc_take hlt ha.out h1
      have hbad := fun h1 => asc_bad hlt h1
      generalize l[k].kind = x at *
      generalize l[k + 1].kind = y at *
      have hkb : k <= 8 := by omega
      clear hR1
      by_cases hxy : x < y
      ·have d1 : decide (y <= x) = false := decide_eq_false (by omega)
       have Hg := Lib.hid (hgood hxy)
       clear hgood hbad hxy
       go_wp2_with fail
       go_region
       go_wp2
       go_roundg (l.length - (k + 1))
       case measure => omega
       case rel => exact ⟨k + 1, by go_num, rfl, .inr (by omega), Hg, hE2.drew⟩
      ·have d1 : decide (y <= x) = true := decide_eq_true (by omega)
       have HV := Lib.hid (show blksE l = 9 by unfold blksE; rw [if_neg h8, if_neg (by rw [Hk0.out]; simp), if_neg (hbad (by omega))])
       clear hgood hbad hxy
       go_wp2_with fail
       go_region
       go_wp2
       go_ret
       exact ⟨by rw [HV.out]; rfl, hE2.drew⟩
     ·have HA := Lib.hid (show AscB l by have := ha.out; rwa [List.take_of_length_le (by omega)] at this)
      have HV := Lib.hid (show blksE l = 0 by unfold blksE; rw [if_neg h8, if_neg (by rw [Hk0.out]; simp), if_pos HA.out])
      have d1 : decide ((k : Int) + 1 < (l.length : Int)) = false := decide_eq_false (by omega)
      clear ha
      go_wp2
      go_ret
      exact ⟨by rw [HV.out]; rfl, hE2⟩
set_option maxRecDepth 100000 in
set_option maxHeartbeats 16000000 in
theorem buChk_any (b : Bu) (A : Option Addr) (cap : Nat) (w : World) (hR : Rd EBl w A b.blocks) :
 Calls Tryz.prog 94 #[.agg (b.cells A cap)] w fun e w' => e = .returned (.int .i64 (buE b)) /\ Ext w w' := by
 have f1 := fun w => chkId_any b.src b.cr b.seq b.off b.tot w
 have f2 := fun w => ep_any b.dk b.dn w
 have f3 := fun w => buWithin_any b.prio 0 2 w
 have f4 := fun w => chkFlg_any b A cap w
 have f5 := fun w h => chkBlks_any A cap b.blocks w h
 have f6 := fun w h0 h1 => chkPay_any b A cap w h0 h1
 obtain ⟨v, hv⟩ : ∃ v, buE b = v := ⟨_, rfl⟩
 rw [hv]
 unfold buE at hv
 have HV := Lib.hid hv
 clear hv
 unfold Bu.cells at *
 obtain ⟨W, hW, hB, hk, hlt⟩ := box1 w #[.int .i64 b.src, .int .i64 b.cr, .int .i64 b.seq, .int .i64 b.off, .int .i64 b.tot, .int .i64 b.dk, .int .i64 b.dn, .int .i64 b.life, .int .i64 b.prio, .int .i64 b.flags, .slice A b.blocks.length cap, strV b.pay] 29
 have hc0 := hk.cell
 generalize strV b.pay = sv at *
 by_cases x1 : idE b.src b.cr b.seq b.off b.tot = 0
 case neg =>
  have HX := Lib.hid (show v = idE b.src b.cr b.seq b.off b.tot by rw [<- HV.out, if_pos x1])
  obtain ⟨u, hu⟩ : ∃ u, idE b.src b.cr b.seq b.off b.tot = u := ⟨_, rfl⟩
  rw [hu] at f1 HX x1
  have hn0 : (u != 0) = true := by rw [bne_iff_ne]; exact x1
  clear hu x1
  go_enter Tryz.func94, Tryz.ntmps94
  have hx := Ext.refl W
  go_wp2_with fail
  clear hW
  refine (f1 _).mono ?_
  rintro e w1 ⟨rfl, hb1⟩
  replace hx := hx.trans hb1
  clear hc0
  have hc1 := (hk.ext hx).cell
  have hl1 := (hk.ext hx).lt
  go_wp2
  go_ret
  exact ⟨by rw [HX.out]; rfl, hB.trans hx⟩
 rw [x1] at f1
 have z1 : ¬ idE b.src b.cr b.seq b.off b.tot ≠ 0 := fun h => h x1
 have hid := idE_ok x1
 obtain ⟨h0, h1, hcr⟩ := hid
 by_cases x2 : epE b.dk b.dn = 0
 case neg =>
  have HX := Lib.hid (show v = epE b.dk b.dn by rw [<- HV.out, if_neg z1, if_pos x2])
  obtain ⟨u, hu⟩ : ∃ u, epE b.dk b.dn = u := ⟨_, rfl⟩
  rw [hu] at f2 HX x2
  have hn0 : (u != 0) = true := by rw [bne_iff_ne]; exact x2
  clear hu x2
  go_enter Tryz.func94, Tryz.ntmps94
  have hx := Ext.refl W
  go_wp2_with fail
  clear hW
  refine (f1 _).mono ?_
  rintro e w1 ⟨rfl, hb1⟩
  replace hx := hx.trans hb1
  clear hc0
  have hc1 := (hk.ext hx).cell
  have hl1 := (hk.ext hx).lt
  go_wp2_with fail
  refine (f2 _).mono ?_
  rintro e w2 ⟨rfl, hb2⟩
  replace hx := hx.trans hb2
  clear hc1
  have hc2 := (hk.ext hx).cell
  have hl2 := (hk.ext hx).lt
  go_wp2
  go_ret
  exact ⟨by rw [HX.out]; rfl, hB.trans hx⟩
 rw [x2] at f2
 have z2 : ¬ epE b.dk b.dn ≠ 0 := fun h => h x2
 by_cases x3 : b.life < 1
 case pos =>
  have HX := Lib.hid (show v = 2 by rw [<- HV.out, if_neg z1, if_neg z2, if_pos (.inl x3)])
  go_enter Tryz.func94, Tryz.ntmps94
  have hx := Ext.refl W
  go_wp2_with fail
  clear hW
  refine (f1 _).mono ?_
  rintro e w1 ⟨rfl, hb1⟩
  replace hx := hx.trans hb1
  clear hc0
  have hc1 := (hk.ext hx).cell
  have hl1 := (hk.ext hx).lt
  go_wp2_with fail
  refine (f2 _).mono ?_
  rintro e w2 ⟨rfl, hb2⟩
  replace hx := hx.trans hb2
  clear hc1
  have hc2 := (hk.ext hx).cell
  have hl2 := (hk.ext hx).lt
  go_wp2
  go_ret
  exact ⟨by rw [HX.out]; rfl, hB.trans hx⟩
 by_cases y3 : 1099511627776 - b.cr < b.life
 case pos =>
  have HX := Lib.hid (show v = 2 by rw [<- HV.out, if_neg z1, if_neg z2, if_pos (.inr y3)])
  go_enter Tryz.func94, Tryz.ntmps94
  have hx := Ext.refl W
  go_wp2_with fail
  clear hW
  refine (f1 _).mono ?_
  rintro e w1 ⟨rfl, hb1⟩
  replace hx := hx.trans hb1
  clear hc0
  have hc1 := (hk.ext hx).cell
  have hl1 := (hk.ext hx).lt
  go_wp2_with fail
  refine (f2 _).mono ?_
  rintro e w2 ⟨rfl, hb2⟩
  replace hx := hx.trans hb2
  clear hc1
  have hc2 := (hk.ext hx).cell
  have hl2 := (hk.ext hx).lt
  go_wp2
  go_ret
  exact ⟨by rw [HX.out]; rfl, hB.trans hx⟩
 have z3 : ¬ (b.life < 1 ∨ 1099511627776 - b.cr < b.life) := by omega
 by_cases x4 : 0 <= b.prio /\ b.prio <= 2
 case neg =>
  have HX := Lib.hid (show v = 8 by rw [<- HV.out, if_neg z1, if_neg z2, if_neg z3, if_pos x4])
  rw [decide_eq_false x4] at f3
  go_enter Tryz.func94, Tryz.ntmps94
  have hx := Ext.refl W
  go_wp2_with fail
  clear hW
  refine (f1 _).mono ?_
  rintro e w1 ⟨rfl, hb1⟩
  replace hx := hx.trans hb1
  clear hc0
  have hc1 := (hk.ext hx).cell
  have hl1 := (hk.ext hx).lt
  go_wp2_with fail
  refine (f2 _).mono ?_
  rintro e w2 ⟨rfl, hb2⟩
  replace hx := hx.trans hb2
  clear hc1
  have hc2 := (hk.ext hx).cell
  have hl2 := (hk.ext hx).lt
  go_wp2_with fail
  refine (f3 _).mono ?_
  rintro e w4 ⟨rfl, rfl⟩
  go_wp2
  go_ret
  exact ⟨by rw [HX.out]; rfl, hB.trans hx⟩
 rw [decide_eq_true x4] at f3
 have z4 : ¬ ¬ (0 <= b.prio /\ b.prio <= 2) := fun h => h x4
 by_cases x5 : flgE b.flags b.tot = 0
 case neg =>
  have HX := Lib.hid (show v = flgE b.flags b.tot by rw [<- HV.out, if_neg z1, if_neg z2, if_neg z3, if_neg z4, if_pos x5])
  obtain ⟨u, hu⟩ : ∃ u, flgE b.flags b.tot = u := ⟨_, rfl⟩
  rw [hu] at f4 HX x5
  have hn0 : (u != 0) = true := by rw [bne_iff_ne]; exact x5
  clear hu x5
  go_enter Tryz.func94, Tryz.ntmps94
  have hx := Ext.refl W
  go_wp2_with fail
  clear hW
  refine (f1 _).mono ?_
  rintro e w1 ⟨rfl, hb1⟩
  replace hx := hx.trans hb1
  clear hc0
  have hc1 := (hk.ext hx).cell
  have hl1 := (hk.ext hx).lt
  go_wp2_with fail
  refine (f2 _).mono ?_
  rintro e w2 ⟨rfl, hb2⟩
  replace hx := hx.trans hb2
  clear hc1
  have hc2 := (hk.ext hx).cell
  have hl2 := (hk.ext hx).lt
  go_wp2_with fail
  refine (f3 _).mono ?_
  rintro e w4 ⟨rfl, rfl⟩
  go_wp2_with fail
  refine (f4 _).mono ?_
  rintro e w5 ⟨rfl, hb5⟩
  replace hx := hx.trans hb5
  clear hc2
  have hc5 := (hk.ext hx).cell
  have hl5 := (hk.ext hx).lt
  go_wp2
  go_ret
  exact ⟨by rw [HX.out]; rfl, hB.trans hx⟩
 rw [x5] at f4
 have z5 : ¬ flgE b.flags b.tot ≠ 0 := fun h => h x5
 by_cases x6 : blksE b.blocks = 0
 case neg =>
  have HX := Lib.hid (show v = blksE b.blocks by rw [<- HV.out, if_neg z1, if_neg z2, if_neg z3, if_neg z4, if_neg z5, if_pos x6])
  obtain ⟨u, hu⟩ : ∃ u, blksE b.blocks = u := ⟨_, rfl⟩
  rw [hu] at f5 HX x6
  have hn0 : (u != 0) = true := by rw [bne_iff_ne]; exact x6
  clear hu x6
  go_enter Tryz.func94, Tryz.ntmps94
  have hx := Ext.refl W
  go_wp2_with fail
  clear hW
  refine (f1 _).mono ?_
  rintro e w1 ⟨rfl, hb1⟩
  replace hx := hx.trans hb1
  clear hc0
  have hc1 := (hk.ext hx).cell
  have hl1 := (hk.ext hx).lt
  go_wp2_with fail
  refine (f2 _).mono ?_
  rintro e w2 ⟨rfl, hb2⟩
  replace hx := hx.trans hb2
  clear hc1
  have hc2 := (hk.ext hx).cell
  have hl2 := (hk.ext hx).lt
  go_wp2_with fail
  refine (f3 _).mono ?_
  rintro e w4 ⟨rfl, rfl⟩
  go_wp2_with fail
  refine (f4 _).mono ?_
  rintro e w5 ⟨rfl, hb5⟩
  replace hx := hx.trans hb5
  clear hc2
  have hc5 := (hk.ext hx).cell
  have hl5 := (hk.ext hx).lt
  go_wp2_with fail
  refine (f5 _ ((hR.ext hB).ext hx)).mono ?_
  rintro e w6 ⟨rfl, hb6⟩
  replace hx := hx.trans hb6
  clear hc5
  have hc6 := (hk.ext hx).cell
  have hl6 := (hk.ext hx).lt
  go_wp2
  go_ret
  exact ⟨by rw [HX.out]; rfl, hB.trans hx⟩
 rw [x6] at f5
 have z6 : ¬ blksE b.blocks ≠ 0 := fun h => h x6
 have HX := Lib.hid (show v = payE b.off b.tot b.pay.length by rw [<- HV.out, if_neg z1, if_neg z2, if_neg z3, if_neg z4, if_neg z5, if_neg z6])
 obtain ⟨u, hu⟩ : ∃ u, payE b.off b.tot b.pay.length = u := ⟨_, rfl⟩
 rw [hu] at f6 HX
 clear hu x1 x2 x5 x6 z1 z2 z3 z4 z5 z6
 go_enter Tryz.func94, Tryz.ntmps94
 have hx := Ext.refl W
 go_wp2_with fail
 clear hW
 refine (f1 _).mono ?_
 rintro e w1 ⟨rfl, hb1⟩
 replace hx := hx.trans hb1
 clear hc0
 have hc1 := (hk.ext hx).cell
 have hl1 := (hk.ext hx).lt
 go_wp2_with fail
 refine (f2 _).mono ?_
 rintro e w2 ⟨rfl, hb2⟩
 replace hx := hx.trans hb2
 clear hc1
 have hc2 := (hk.ext hx).cell
 have hl2 := (hk.ext hx).lt
 go_wp2_with fail
 refine (f3 _).mono ?_
 rintro e w4 ⟨rfl, rfl⟩
 go_wp2_with fail
 refine (f4 _).mono ?_
 rintro e w5 ⟨rfl, hb5⟩
 replace hx := hx.trans hb5
 clear hc2
 have hc5 := (hk.ext hx).cell
 have hl5 := (hk.ext hx).lt
 go_wp2_with fail
 refine (f5 _ ((hR.ext hB).ext hx)).mono ?_
 rintro e w6 ⟨rfl, hb6⟩
 replace hx := hx.trans hb6
 clear hc5
 have hc6 := (hk.ext hx).cell
 have hl6 := (hk.ext hx).lt
 go_wp2_with fail
 refine (f6 _ h0 h1).mono ?_
 rintro e w7 ⟨rfl, hb7⟩
 replace hx := hx.trans hb7
 clear hc6
 have hc7 := (hk.ext hx).cell
 have hl7 := (hk.ext hx).lt
 go_wp2
 go_ret
 exact ⟨by rw [HX.out]; rfl, hB.trans hx⟩
end
section
open Go.RowKit Go.Shelf
attribute [local go_sem] Oper.semAt_some
structure PredB (w0 : World) (f : FuncId) (cs : Array Value) (p : Bl -> Bool) : Prop where
 enters : ∀ args w, (callFunc f args).run Tryz.prog w = .ok (.enter f args) w
 says : ∀ (x : Bl) (w : World), Ext w0 w -> Calls Tryz.prog f (#[.agg #[.int .i64 x.kind, .int .i64 x.flags, strV x.data]] ++ cs) w fun e w' => e = .returned (.bool (p x)) /\ Ext w w'
set_option maxHeartbeats 2000000 in
theorem indexB_any (A : Option Addr) (c : Nat) (l : List Bl) (f : FuncId) (cs : Array Value) (p : Bl -> Bool) (w : World) (hA : Rd EBl w A l) (hmax : l.length <= 1000000) (hp : PredB w f cs p) :
 Calls Tryz.prog 127 #[.slice A l.length c, .func (.func f) #[] cs] w fun e w' => e = .returned (.int .i64 (findI p l)) /\ Ext w w' := by
 have hen := hp.enters
 go_enter Tryz.func127, Tryz.ntmps127
 go_wp2
 go_loopw [8] (fun i wr => ∃ k : Nat, k <= l.length /\ i = .int .i64 k /\ Hid ((l.take k).any p = false) /\ Ext w wr) (fun i _ => l.length - (intOf i).toNat)
 case atStart => exact ⟨0, Nat.zero_le _, rfl, Lib.hid rfl, Ext.refl _⟩
 case round =>
  obtain ⟨k, hk, rfl, hu, hN⟩ := hrel
  by_cases hlt : k < l.length
  ·obtain ⟨b, o, rfl, hb, c0, c1, c2⟩ := (hA.ext hN).bl hlt
   generalize hxe : l[k] = x at *
   have Hx := Lib.hid hxe
   clear hxe
   have hsay := hp.says x wr hN
   cases hpx : p x
   all_goals
    go_wp2_with fail
    refine hsay.mono ?_
    rintro e w1 ⟨rfl, hb1⟩
    rw [hpx]
   ·go_wp2
    go_roundw
    case rel => exact ⟨k + 1, by omega, by go_num, Lib.hid (any_step hlt Hx.out hu.out hpx), hN.trans hb1⟩
    case measure => simp [intOf]; omega
   ·go_wp2
    go_ret
    refine ⟨ret_i64 ?_, hN.trans hb1⟩
    exact (findI_at hlt hu.out (by rw [Hx.out]; exact hpx)).symm
  ·go_wp2
   go_ret
   refine ⟨ret_i64 ?_, hN⟩
   have e : l.take k = l := List.take_of_length_le (by omega)
   have h := hu.out
   rw [e] at h
   exact (findI_nope h).symm
theorem find_findI {p : Bl -> Bool} : ∀ {l : List Bl}, (l.find? p = none -> findI p l < 0) /\ (∀ b, l.find? p = some b -> ∃ k : Nat, ∃ h : k < l.length, findI p l = (k : Int) /\ l[k] = b) := by
 intro l
 constructor
 ·intro h
  have h1 : l.any p = false := by
   rw [List.any_eq_false]
   intro x hx
   have := List.find?_eq_none.1 h x hx
   simpa using this
  rw [findI_nope h1]
  omega
 ·intro b h
  obtain ⟨hb, l1, l2, e, hno⟩ := List.find?_eq_some_iff_append.1 h
  have hlt : l1.length < l.length := by rw [e, List.length_append, List.length_cons]; omega
  have hg : l[l1.length] = b := by simp [e]
  refine ⟨l1.length, hlt, findI_at hlt ?_ (by rw [hg]; exact hb), hg⟩
  have : l.take l1.length = l1 := by rw [e, List.take_left]
  rw [this, List.any_eq_false]
  intro x hx
  have := hno x hx
  simpa using this
theorem find1_pred (g : Nat) (k : Int) (w : World) (hg : Blk w g 3 #[.int .i64 k]) : PredB w 128 #[.pointer (some ⟨g, 0, none⟩)] (fun x => decide (x.kind = k)) := by
 refine ⟨enters_of Tryz.func128 (by kernel_rfl) rfl, fun x w1 hw => ?_⟩
 obtain ⟨ba, hba, -⟩ := strV_str x.data
 rw [hba]
 obtain ⟨kd, hkd⟩ : ∃ kd, x.kind = kd := ⟨_, rfl⟩
 obtain ⟨fl, hfl⟩ : ∃ fl, x.flags = fl := ⟨_, rfl⟩
 rw [hkd, hfl]
 obtain ⟨W, hW, hB, hk, hlt⟩ := box1 w1 #[.int .i64 kd, .int .i64 fl, .string ba] 116
 have hc := hk.cell
 have hd := ((hg.ext hw).ext hB).cell
 have he := ((hg.ext hw).ext hB).lt
 rw [show decide (kd = k) = (kd == k) from rfl]
 obtain ⟨r, hr⟩ : ∃ r, (kd == k) = r := ⟨_, rfl⟩
 rw [hr]
 clear hkd hfl hba
 go_enter Tryz.func128, Tryz.ntmps128
 go_wp2
 go_ret
 exact ⟨rfl, hB⟩
theorem remove1_pred (g : Nat) (k : Int) (w : World) (hg : Blk w g 3 #[.int .i64 k]) : PredB w 272 #[.pointer (some ⟨g, 0, none⟩)] (fun x => decide (x.kind ≠ k)) := by
 refine ⟨enters_of Tryz.func272 (by kernel_rfl) rfl, fun x w1 hw => ?_⟩
 obtain ⟨ba, hba, -⟩ := strV_str x.data
 rw [hba]
 obtain ⟨kd, hkd⟩ : ∃ kd, x.kind = kd := ⟨_, rfl⟩
 obtain ⟨fl, hfl⟩ : ∃ fl, x.flags = fl := ⟨_, rfl⟩
 rw [hkd, hfl]
 obtain ⟨W, hW, hB, hk, hlt⟩ := box1 w1 #[.int .i64 kd, .int .i64 fl, .string ba] 116
 have hc := hk.cell
 have hd := ((hg.ext hw).ext hB).cell
 have he := ((hg.ext hw).ext hB).lt
 rw [show decide (kd ≠ k) = (kd != k) by by_cases h : kd = k <;> simp [h]]
 obtain ⟨r, hr⟩ : ∃ r, (kd != k) = r := ⟨_, rfl⟩
 rw [hr]
 clear hkd hfl hba
 go_enter Tryz.func272, Tryz.ntmps272
 go_wp2
 go_ret
 exact ⟨rfl, hB⟩
set_option maxRecDepth 100000 in
set_option maxHeartbeats 4000000 in
theorem blFind_any (A : Option Addr) (c : Nat) (l : List Bl) (k : Int) (w : World) (hA : Rd EBl w A l) (hmax : l.length <= 1000000) :
 Calls Tryz.prog 47 #[.slice A l.length c, .int .i64 k] w fun e w' => e = .returned (match findK l k with | some b => .tuple #[.agg #[.int .i64 b.kind, .int .i64 b.flags, strV b.data], .bool true] | none => .tuple #[.agg #[.int .i64 0, .int .i64 0, .string ⟨#[]⟩], .bool false]) /\ Ext w w' := by
 obtain ⟨W1, hW1, hB1, hk1, hl1⟩ := box1 w #[.int .i64 k] 3
 obtain ⟨W2, hW2, hB2, hk2, hl2⟩ := box1 W1 #[.int .i64 0, .int .i64 0, .string ⟨#[]⟩] 116
 have hi := indexB_any A c l 128 #[.pointer (some ⟨w.heap.size, 0, none⟩)] (fun x => decide (x.kind = k)) W2 ((hA.ext hB1).ext hB2) hmax (find1_pred w.heap.size k W2 (hk1.ext hB2))
 obtain ⟨f1, f2⟩ := find_findI (p := fun x : Bl => decide (x.kind = k)) (l := l)
 have hE2 := hB1.trans hB2
 cases hf : findK l k with
 | none =>
   have h1 := f1 hf
   generalize findI (fun x : Bl => decide (x.kind = k)) l = ix at *
   clear f1 f2 hf
   go_enter Tryz.func47, Tryz.ntmps47
   go_wp2_with fail
   clear hW1 hW2
   refine hi.mono ?_
   clear hi
   rintro e w3 ⟨rfl, hb3⟩
   have k3 := hk2.ext hb3
   have c3 := k3.cell
   have l3 := k3.lt
   have z3 := k3.frozen
   go_wp2
   obtain ⟨w7, hw7, hz7, hE7⟩ : ∃ w7, w3.setCells W1.heap.size 0 [.int .i64 0, .int .i64 0, .string ⟨#[]⟩] = w7 /\ Blk w7 W1.heap.size 116 #[.int .i64 0, .int .i64 0, .string ⟨#[]⟩] /\ Ext w w7 :=
    ⟨_, rfl, k3.setCells_ [.int .i64 0, .int .i64 0, .string ⟨#[]⟩] 0, ext_setCells (hE2.trans hb3) (by have := hB1.size; omega) 0 _⟩
   simp only [World.setCells, Nat.zero_add, Nat.reduceAdd] at hw7
   rw [hw7]
   have hc7 := hz7.cell
   refine bodyPost_ret (v := .tuple #[.agg #[.int .i64 0, .int .i64 0, .string ⟨#[]⟩], .bool false]) (by rw [results_cell_tmp rfl]; simp [asAddr, Result.andThen, hc7, go_sem]) rfl ?_
   exact ⟨rfl, hE7⟩
 | some b =>
   obtain ⟨j, hj, hji, hjb⟩ := f2 b hf
   rw [hji] at hi
   have hbk : b.kind = k := by
    have := List.find?_some hf
    simpa using this
   clear f1 f2 hf hji hbk
   obtain ⟨ba, hba, -⟩ := strV_str b.data
   have HBA := Lib.hid hba
   dsimp only
   rw [hba]
   have hd : decide ((j : Int) < 0) = false := decide_eq_false (by omega)
   obtain ⟨kd, hkd⟩ : ∃ kd, b.kind = kd := ⟨_, rfl⟩
   obtain ⟨fl, hfl⟩ : ∃ fl, b.flags = fl := ⟨_, rfl⟩
   rw [hkd, hfl]
   have hA2 := (hA.ext hB1).ext hB2
   go_enter Tryz.func47, Tryz.ntmps47
   go_wp2_with fail
   clear hW1 hW2
   refine hi.mono ?_
   clear hi
   rintro e w3 ⟨rfl, hb3⟩
   have k3 := hk2.ext hb3
   have c3 := k3.cell
   have l3 := k3.lt
   have z3 := k3.frozen
   obtain ⟨gb, go, rfl, hbl, x0, x1, x2⟩ := (hA2.ext hb3).bl hj
   rw [hjb, hkd] at x0
   rw [hjb, hfl] at x1
   rw [hjb, hba] at x2
   clear hjb
   go_wp2
   obtain ⟨w7, hw7, hz7, hE7⟩ : ∃ w7, w3.setCells W1.heap.size 0 [.int .i64 kd, .int .i64 fl, .string ba] = w7 /\ Blk w7 W1.heap.size 116 #[.int .i64 kd, .int .i64 fl, .string ba] /\ Ext w w7 :=
    ⟨_, rfl, k3.setCells_ [.int .i64 kd, .int .i64 fl, .string ba] 0, ext_setCells (hE2.trans hb3) (by have := hB1.size; omega) 0 _⟩
   simp only [World.setCells, Nat.zero_add, Nat.reduceAdd] at hw7
   rw [hw7]
   have hc7 := hz7.cell
   refine bodyPost_ret (v := .tuple #[.agg #[.int .i64 kd, .int .i64 fl, .string ba], .bool true]) (by rw [results_cell_tmp rfl]; simp [asAddr, Result.andThen, hc7, go_sem]) rfl ?_
   exact ⟨rfl, hE7⟩
theorem info_block : (Tryz.prog.info? 116).map (fun i => (i.zero, i.size, i.bytes)) = some (some (.agg #[.int .i64 0, .int .i64 0, .string ⟨#[]⟩]), 3, 32) := by kernel_rfl
set_option maxRecDepth 100000 in
set_option maxHeartbeats 8000000 in
theorem filter_any (A : Option Addr) (c : Nat) (l : List Bl) (f : FuncId) (cs : Array Value) (p : Bl -> Bool) (w : World) (hA : Rd EBl w A l) (hmax : l.length <= 1000000) (hp : PredB w f cs p) :
 Calls Tryz.prog 132 #[.slice A l.length c, .func (.func f) #[] cs] w fun e w' => ∃ u, e = .returned u /\ Owns EBl w' w.heap.size 116 u (l.filter p) /\ Ext w w' := by
 have hen := hp.enters
 obtain ⟨i0, hi0, hz0, hz1, hz2⟩ := info_parts info_block
 go_enter Tryz.func132, Tryz.ntmps132
 go_wp2_with fail
 go_loopg [5, 10] l.length (fun n u v wr => ∃ (k : Nat) (o : List Bl), k + n = l.length /\ v = .int .i64 k /\ Hid (o = (l.take k).filter p) /\ Hid (o.length <= k) /\ Owns EBl wr w.heap.size 116 u o /\ Ext w wr)
 case atStart => exact ⟨0, [], by omega, by go_num, Lib.hid rfl, Lib.hid (Nat.le_refl _), Owns.none_ _ _, Ext.refl _⟩
 case round =>
  obtain ⟨k, out, hkn, rfl, hof, hol, ho, hE⟩ := hrel
  have Hkn := Lib.hid hkn
  clear hkn
  by_cases hlt : k < l.length
  ·obtain ⟨b, o, rfl, hb, c0, c1, c2⟩ := (hA.ext hE).bl hlt
   have hst : (l.take (k + 1)).filter p = (l.take k).filter p ++ (if p l[k] then [l[k]] else []) := by
    rw [<- List.take_append_getElem hlt, List.filter_append]
    congr 1
    by_cases h : p l[k] <;> simp [h]
   generalize hxe : l[k] = x at *
   have hsay := hp.says x
   obtain ⟨ba, hba, -⟩ := strV_str x.data
   rw [hba] at c2 hsay
   have hcl : (EBl.cells x).toArray = #[.int .i64 x.kind, .int .i64 x.flags, .string ba] := by
    show #[Value.int .i64 x.kind, .int .i64 x.flags, strV x.data] = _
    rw [hba]
   have HCL := Lib.hid hcl
   obtain ⟨W1, hW1, hB1, hk1, hl1⟩ := box1 wr #[.int .i64 x.kind, .int .i64 x.flags, .string ba] 116
   have d1 := hk1.cell
   obtain ⟨A1, c1', rfl, hR1⟩ := ho.form
   clear hxe hba hcl
   cases hpx : p x
   ·have HS := Lib.hid (show out = (l.take (k + 1)).filter p by rw [hst, hpx, hof.out]; simp)
    go_wp2_with fail
    clear hW1 c0 c1 c2
    refine (hsay _ (hE.trans hB1)).mono ?_
    rintro e w2 ⟨rfl, hb2⟩
    rw [hpx]
    go_wp2
    go_roundg (gk - 1)
    case measure => have := Hkn.out; omega
    case rel => exact ⟨k + 1, out, by have := Hkn.out; omega, by go_num, HS, Lib.hid (by have := hol.out; omega), (ho.ext hB1).ext hb2, (hE.trans hB1).trans hb2⟩
   ·have HS := Lib.hid (show out ++ [x] = (l.take (k + 1)).filter p by rw [hst, hpx, hof.out]; simp)
    have hE1 := hE.trans hB1
    go_wp2_with fail
    clear hW1 c0 c1 c2
    refine (hsay _ (hE.trans hB1)).mono ?_
    rintro e w2 ⟨rfl, hb2⟩
    rw [hpx]
    have d2 := (hk1.ext hb2).cell
    have e2 := (hk1.ext hb2).lt
    have ho2 := (ho.ext hB1).ext hb2
    clear d1
    obtain ⟨kd, hkd⟩ : ∃ kd, x.kind = kd := ⟨_, rfl⟩
    obtain ⟨fl, hfl⟩ : ∃ fl, x.flags = fl := ⟨_, rfl⟩
    rw [hkd, hfl] at d2
    have HC2 := Lib.hid (show (EBl.cells x).toArray = #[.int .i64 kd, .int .i64 fl, .string ba] by rw [HCL.out, hkd, hfl])
    clear hkd hfl
    have hz := hE1.size
    have hz2b := hb2.size
    go_wp2_with (at_builtin; refine wpList_push (y := x) rfl (.tmp 17) (.tmp 19) _ (by rfl) w.heap.size 116 i0 _ 32 Tryz.underlying27 hi0 hz0 hz1 hz2 (by rfl) (.slice A1 out.length c1') (by rfl) (ho2.ext ((Ext.refl _).alloc _)) w2.heap.size (by rfl) (by rw [HC2.out]; exact Blk.new w2 _ _) (by have := hol.out; simp only [maxLen]; omega) (by have := hol.out; omega) (by simp; omega) ?_; intro v6 w6 hv6 hg6 hat6)
    go_roundg (gk - 1)
    case measure => have := Hkn.out; omega
    case rel => exact ⟨k + 1, out ++ [x], by have := Hkn.out; omega, by go_num, HS, Lib.hid (by rw [List.length_append, List.length_singleton]; have := hol.out; omega), hv6, ext_grown ((hE1.trans hb2).alloc _) (ho2.ext ((Ext.refl _).alloc _)) (Nat.le_refl _) hg6⟩
  ·obtain rfl : k = l.length := by have := Hkn.out; omega
   have HF := Lib.hid (show out = l.filter p by rw [hof.out, List.take_length])
   obtain ⟨A1, c1, rfl, hR1⟩ := ho.form
   go_wp2
   go_ret
   exact ⟨_, rfl, by rw [<- HF.out]; exact ho, hE⟩
end
section
open Go.RowKit Go.Shelf
theorem arrSets12e (u0 u1 u2 u3 u4 u5 u6 u7 u8 u9 u10 u11 v0 v1 v2 v3 v4 v5 v6 v7 v8 v9 v10 v11 : Value) : arrSets #[u0, u1, u2, u3, u4, u5, u6, u7, u8, u9, u10, u11] 0 [v0, v1, v2, v3, v4, v5, v6, v7, v8, v9, v10, v11] = #[v0, v1, v2, v3, v4, v5, v6, v7, v8, v9, v10, v11] := by
 simp [arrSets]
theorem heap_setCells {g b : Nat} (hb : b ≠ g) : ∀ (vs : List Value) (o : Nat) (w : World), (w.setCells g o vs).heap[b]? = w.heap[b]?
 | [], _, _ => rfl
 | v :: vs, o, w => (heap_setCells hb vs (o + 1) _).trans (Below.heap_setCell w ⟨g, o, none⟩ v b hb)
theorem rd_farB {w : World} {A : Option Addr} {l : List Bl} (h : Rd EBl w A l) {g : Nat} {a0 a1 a2 a3 a4 a5 a6 a7 a8 a9 : Int} {s : Value} {ba : ByteArray} {t : TypeId} (hs : ∀ k i, s ≠ .int k i) (hg : Blk w g t #[.int .i64 a0, .int .i64 a1, .int .i64 a2, .int .i64 a3, .int .i64 a4, .int .i64 a5, .int .i64 a6, .int .i64 a7, .int .i64 a8, .int .i64 a9, s, .string ba]) (hs2 : ∀ ba, s ≠ .string ba) (vs : List Value) : Rd EBl (w.setCells g 0 vs) A l := by
 rcases Nat.eq_zero_or_pos l.length with h0 | h0
 ·obtain rfl := List.eq_nil_of_length_eq_zero h0
  exact ⟨h.1, fun hne => absurd hne (by simp)⟩
 ·obtain ⟨b, o, rfl, hb, c0, c1, c2⟩ := h.bl (k := 0) h0
  have hne : b ≠ g := by
   rintro rfl
   simp only [Nat.zero_mul, Nat.add_zero] at c0 c1 c2
   rw [hg.cell] at c0 c1 c2
   rcases Nat.lt_or_ge (o + 2) 12 with h1 | h1
   ·have : o = 0 ∨ o = 1 ∨ o = 2 ∨ o = 3 ∨ o = 4 ∨ o = 5 ∨ o = 6 ∨ o = 7 ∨ o = 8 ∨ o = 9 := by omega
    unfold strV at c2
    rcases this with rfl | rfl | rfl | rfl | rfl | rfl | rfl | rfl | rfl | rfl <;> simp at c0 c1 c2
    ·exact hs2 _ c2
    ·exact hs _ _ c1
   ·rw [Array.getElem?_eq_none (by simpa using h1)] at c2
    cases c2
  obtain ⟨h1, h2⟩ := h
  refine ⟨h1, fun hn => ?_⟩
  obtain ⟨a, ha, hlt, hc⟩ := h2 hn
  injection ha with ha
  subst ha
  refine ⟨_, rfl, ?_, fun j u hu => ?_⟩
  ·have := heap_setCells hne vs 0 w
   exact (Array.getElem?_eq_some_iff.1 (this.trans (Array.getElem?_eq_getElem hlt))).1
  ·have h9 := hc j u hu
   rw [Addr.add_lit] at h9 ⊢
   rw [World.cell?_of_block (w := w) (heap_setCells hne vs 0 w)]
   exact h9
end
section
open Go.RowKit Go.Shelf
attribute [local go_sem] Oper.semAt_some
end
section
open Go.RowKit Go.Shelf
end
end Go.Proofs.YtemkpimngbbpkaaGreat
