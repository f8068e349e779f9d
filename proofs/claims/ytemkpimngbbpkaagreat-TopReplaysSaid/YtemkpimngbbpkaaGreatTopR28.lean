/- Security: bundle.checkBlocks, bundle.Check. -/
import Derived.BigRegion
import Derived.Test.YtemkpimngbbpkaaGreatTopR26
namespace Go.Proofs.YtemkpimngbbpkaaGreat
set_option linter.unusedVariables false
set_option linter.unusedSimpArgs false
set_option linter.unusedVariables false
set_option linter.unusedSimpArgs false
open Go.RowKit Go.Shelf
attribute [local go_sem] Oper.semAt_some

theorem Rd.bl {w : World} {A : Option Addr} {l : List Bl} (h : Rd EBl w A l) {k : Nat} (hk : k < l.length) : ∃ b o, A = some ⟨b, o, none⟩ ∧ b < w.heap.size ∧
    w.cell? ⟨b, o + k * 3, none⟩ = some (.int .i64 l[k].kind) ∧ w.cell? ⟨b, o + k * 3 + 1, none⟩ = some (.int .i64 l[k].flags) ∧ w.cell? ⟨b, o + k * 3 + 2, none⟩ = some (strV l[k].data) := by
  obtain ⟨b, o, rfl, hb, hc⟩ := h.at hk
  exact ⟨b, o, rfl, hb, hc 0 _ rfl, hc 1 _ rfl, hc 2 _ rfl⟩
theorem strV_str (l : Bts) : ∃ ba : ByteArray, strV l = .string ba ∧ ba.size = l.length := ⟨⟨l.toArray⟩, rfl, by show l.toArray.size = l.length; simp⟩
theorem blkErrs_take {l : List Bl} {k : Nat} (h : k < l.length) (h0 : blkErrs (l.take k) = 0) (h1 : l[k].err = 0) : blkErrs (l.take (k + 1)) = 0 := by
  rw [blkErrs_ok] at h0 ⊢
  intro b hb
  rw [← List.take_append_getElem h] at hb
  rcases List.mem_append.1 hb with hb | hb
  · exact h0 b hb
  · rw [List.mem_singleton.1 hb]; exact h1
theorem blkErrs_bad : ∀ {l : List Bl} {k : Nat} (h : k < l.length), blkErrs (l.take k) = 0 → l[k].err ≠ 0 → blkErrs l = l[k].err
  | x :: l, 0, _, _, h1 => by
    unfold blkErrs
    rw [if_pos (by simpa using h1)]
    rfl
  | x :: l, k + 1, h, h0, h1 => by
    rw [List.take_succ_cons] at h0
    have h2 : x.err = 0 := blkErrs_ok.1 h0 x (by simp)
    have h3 : blkErrs (l.take k) = 0 := blkErrs_ok.2 (fun b hb => blkErrs_ok.1 h0 b (by simp [hb]))
    unfold blkErrs
    rw [if_neg (by rw [h2]; simp)]
    exact blkErrs_bad (by simpa using h) h3 (by simpa using h1)
theorem asc_take {l : List Bl} {k : Nat} (h : k + 1 < l.length) (h0 : AscB (l.take (k + 1))) (h1 : l[k].kind < l[k + 1].kind) : AscB (l.take (k + 2)) := by
  have e : l.take (k + 2) = l.take (k + 1) ++ [l[k + 1]] := (List.take_append_getElem h).symm
  unfold AscB at *
  rw [e, List.pairwise_append]
  refine ⟨h0, by simp, fun a ha b hb => ?_⟩
  rw [List.mem_singleton.1 hb]
  obtain ⟨i, hi, rfl⟩ := List.mem_iff_getElem.1 ha
  rw [List.length_take] at hi
  rw [List.getElem_take]
  rcases Nat.lt_or_ge i k with h2 | h2
  · have := List.pairwise_iff_getElem.1 h0 i k (by rw [List.length_take]; omega) (by rw [List.length_take]; omega) h2
    rw [List.getElem_take, List.getElem_take] at this
    omega
  · have : i = k := by omega
    subst this
    exact h1
theorem idE_ok {a b c d t : Int} (h : idE a b c d t = 0) : (0 ≤ d ∧ d ≤ 4096) ∧ (0 ≤ t ∧ t ≤ 4096) ∧ (0 ≤ b ∧ b ≤ 1099511627776) := by
  unfold idE at h
  split at h
  · omega
  · split at h
    · omega
    · split at h
      · omega
      · omega
theorem asc_bad {l : List Bl} {k : Nat} (h : k + 1 < l.length) (h1 : l[k + 1].kind ≤ l[k].kind) : ¬ AscB l := fun ha => by
  have := List.pairwise_iff_getElem.1 ha k (k + 1) (by omega) h (by omega)
  omega

set_option maxRecDepth 100000 in
set_option maxHeartbeats 8000000 in
theorem chkBlks_any (A : Option Addr) (cc : Nat) (l : List Bl) (w : World) (hR : Rd EBl w A l) :
    Calls Tryz.prog 177 #[.slice A l.length cc] w fun e w' => e = .returned (.int .i64 (blksE l)) ∧ Ext w w' := by
  by_cases h8 : 8 < l.length
  · have HV := Lib.hid (show blksE l = 4 by unfold blksE; rw [if_pos h8])
    go_enter Tryz.func177, Tryz.ntmps177
    go_wp2
    go_ret
    exact ⟨by rw [HV.out]; rfl, Ext.refl _⟩
  · have H8 : l.length ≤ 8 := by omega
    go_enter Tryz.func177, Tryz.ntmps177
    go_wp2_with fail
    go_loopg [12] l.length (fun n v wr => ∃ k : Nat, k + n = l.length ∧ v = .int .i64 k ∧ Hid (blkErrs (l.take k) = 0) ∧ Ext w wr)
    case atStart => exact ⟨0, by omega, by go_num, Lib.hid rfl, Ext.refl _⟩
    case round =>
      obtain ⟨k, hkn, rfl, hk0, hE⟩ := hrel
      have Hkn := Lib.hid hkn
      by_cases hlt : k < l.length
      · obtain ⟨b, o, rfl, hb, c0, c1, c2⟩ := (hR.ext hE).bl hlt
        have hck := fun w => blChk_any l[k] w
        have hbad := fun h1 => blkErrs_bad hlt hk0.out h1
        have hgood := fun h1 => blkErrs_take hlt hk0.out h1
        obtain ⟨y, hy⟩ : ∃ y, l[k] = y := ⟨_, rfl⟩
        rw [hy] at c0 c1 c2 hck hbad hgood
        obtain ⟨ba, hba, _⟩ := strV_str y.data
        rw [hba] at c2 hck
        obtain ⟨kd, hkd⟩ : ∃ kd, y.kind = kd := ⟨_, rfl⟩
        obtain ⟨fl, hfl⟩ : ∃ fl, y.flags = fl := ⟨_, rfl⟩
        obtain ⟨er, her⟩ : ∃ er, y.err = er := ⟨_, rfl⟩
        rw [hkd, hfl, her] at hck
        rw [hkd] at c0
        rw [hfl] at c1
        rw [her] at hbad hgood
        obtain ⟨W1, hW1, hB1, hk1, hl1⟩ := box1 wr #[.int .i64 kd, .int .i64 fl, .string ba] 116
        have d1 := hk1.cell
        clear hy hba hkd hfl her hkn
        by_cases h0 : er = 0
        · subst h0
          have Hg := Lib.hid (hgood rfl)
          clear hgood hbad
          go_wp2_with fail
          clear hW1 c0 c1 c2
          refine (hck _).mono ?_
          clear hck
          rintro e w2 ⟨rfl, hb2⟩
          go_wp2
          go_roundg (gk - 1)
          case measure => have := Hkn.out; omega
          case rel => exact ⟨k + 1, by have := Hkn.out; omega, by go_num, Lib.hid Hg.out, (hE.trans hB1).trans hb2⟩
        · have hn0 : (er != 0) = true := by rw [bne_iff_ne]; exact h0
          have HV := Lib.hid (show blksE l = er by unfold blksE; rw [if_neg h8, if_pos (by rw [hbad h0]; exact h0)]; exact hbad h0)
          clear hgood hbad
          go_wp2_with fail
          clear hW1 c0 c1 c2
          refine (hck _).mono ?_
          clear hck
          rintro e w2 ⟨rfl, hb2⟩
          go_wp2
          go_ret
          exact ⟨by rw [HV.out]; rfl, (hE.trans hB1).trans hb2⟩
      · obtain rfl : k = l.length := by omega
        have Hk0 := Lib.hid (show blkErrs l = 0 by have := hk0.out; rwa [List.take_length] at this)
        clear hk0
        go_wp2_with fail
        clear hkn
        obtain ⟨wo, rfl⟩ : ∃ wo, wo = wr := ⟨_, rfl⟩
        obtain ⟨gko, rfl⟩ : ∃ g, g = gk := ⟨_, rfl⟩
        go_loopg [6] l.length (fun n v wy => ∃ k : Nat, v = .int .i64 ((k : Int) + 1) ∧ n = l.length - k ∧ (k = 0 ∨ k + 1 ≤ l.length) ∧ Hid (AscB (l.take (k + 1))) ∧ Ext w wy)
        case atStart => exact ⟨0, by go_num, by omega, .inl rfl, Lib.hid (by cases l with
          | nil => simp [AscB]
          | cons x l => simp [AscB]), hE⟩
        case round =>
          obtain ⟨k, rfl, rfl, hk1, ha, hE2⟩ := hrel
          by_cases hlt : k + 1 < l.length
          · have hR1 := hR.ext hE2
            obtain ⟨b, o, rfl, hb, c0, _, _⟩ := hR1.bl (k := k) (by omega)
            obtain ⟨b', o', e', _, e0, _, _⟩ := hR1.bl hlt
            injection e' with e'
            injection e' with e1 e2
            subst e1 e2
            have hgood := fun h1 => asc_take hlt ha.out h1
            have hbad := fun h1 => asc_bad hlt h1
            generalize l[k].kind = x at *
            generalize l[k + 1].kind = y at *
            have hkb : k ≤ 8 := by omega
            clear hR1
            by_cases hxy : x < y
            · have d1 : decide (y ≤ x) = false := decide_eq_false (by omega)
              have Hg := Lib.hid (hgood hxy)
              clear hgood hbad hxy
              go_wp2_with fail
              go_region
              go_wp2
              go_roundg (l.length - (k + 1))
              case measure => omega
              case rel => exact ⟨k + 1, by go_num, rfl, .inr (by omega), Hg, hE2.drew⟩
            · have d1 : decide (y ≤ x) = true := decide_eq_true (by omega)
              have HV := Lib.hid (show blksE l = 9 by unfold blksE; rw [if_neg h8, if_neg (by rw [Hk0.out]; simp), if_neg (hbad (by omega))])
              clear hgood hbad hxy
              go_wp2_with fail
              go_region
              go_wp2
              go_ret
              exact ⟨by rw [HV.out]; rfl, hE2.drew⟩
          · have HA := Lib.hid (show AscB l by have := ha.out; rwa [List.take_of_length_le (by omega)] at this)
            have HV := Lib.hid (show blksE l = 0 by unfold blksE; rw [if_neg h8, if_neg (by rw [Hk0.out]; simp), if_pos HA.out])
            have d1 : decide ((k : Int) + 1 < (l.length : Int)) = false := decide_eq_false (by omega)
            clear ha
            go_wp2
            go_ret
            exact ⟨by rw [HV.out]; rfl, hE2⟩


set_option maxRecDepth 100000 in
set_option maxHeartbeats 16000000 in
theorem buChk_any (b : Bu) (A : Option Addr) (cap : Nat) (w : World) (hR : Rd EBl w A b.blocks) :
    Calls Tryz.prog 94 #[.agg (b.cells A cap)] w fun e w' => e = .returned (.int .i64 (buE b)) ∧ Ext w w' := by
  have f1 := fun w => chkId_any b.src b.cr b.seq b.off b.tot w
  have f2 := fun w => ep_any b.dk b.dn w
  have f3 := fun w => buWithin_any b.prio 0 2 w
  have f4 := fun w => chkFlg_any b A cap w
  have f5 := fun w h => chkBlks_any A cap b.blocks w h
  have f6 := fun w h0 h1 => chkPay_any b A cap w h0 h1
  obtain ⟨v, hv⟩ : ∃ v, buE b = v := ⟨_, rfl⟩
  rw [hv]
  unfold buE at hv
  have HV := Lib.hid hv
  clear hv
  unfold Bu.cells at *
  obtain ⟨W, hW, hB, hk, hlt⟩ := box1 w #[.int .i64 b.src, .int .i64 b.cr, .int .i64 b.seq, .int .i64 b.off, .int .i64 b.tot, .int .i64 b.dk, .int .i64 b.dn, .int .i64 b.life, .int .i64 b.prio, .int .i64 b.flags, .slice A b.blocks.length cap, strV b.pay] 29
  have hc0 := hk.cell
  generalize strV b.pay = sv at *
  by_cases x1 : idE b.src b.cr b.seq b.off b.tot = 0
  case neg =>
    have HX := Lib.hid (show v = idE b.src b.cr b.seq b.off b.tot by rw [← HV.out, if_pos x1])
    obtain ⟨u, hu⟩ : ∃ u, idE b.src b.cr b.seq b.off b.tot = u := ⟨_, rfl⟩
    rw [hu] at f1 HX x1
    have hn0 : (u != 0) = true := by rw [bne_iff_ne]; exact x1
    clear hu x1
    go_enter Tryz.func94, Tryz.ntmps94
    have hx := Ext.refl W
    go_wp2_with fail
    clear hW
    refine (f1 _).mono ?_
    rintro e w1 ⟨rfl, hb1⟩
    replace hx := hx.trans hb1
    clear hc0
    have hc1 := (hk.ext hx).cell
    have hl1 := (hk.ext hx).lt
    go_wp2
    go_ret
    exact ⟨by rw [HX.out]; rfl, hB.trans hx⟩
  rw [x1] at f1
  have z1 : ¬ idE b.src b.cr b.seq b.off b.tot ≠ 0 := fun h => h x1
  have hid := idE_ok x1
  obtain ⟨h0, h1, hcr⟩ := hid
  by_cases x2 : epE b.dk b.dn = 0
  case neg =>
    have HX := Lib.hid (show v = epE b.dk b.dn by rw [← HV.out, if_neg z1, if_pos x2])
    obtain ⟨u, hu⟩ : ∃ u, epE b.dk b.dn = u := ⟨_, rfl⟩
    rw [hu] at f2 HX x2
    have hn0 : (u != 0) = true := by rw [bne_iff_ne]; exact x2
    clear hu x2
    go_enter Tryz.func94, Tryz.ntmps94
    have hx := Ext.refl W
    go_wp2_with fail
    clear hW
    refine (f1 _).mono ?_
    rintro e w1 ⟨rfl, hb1⟩
    replace hx := hx.trans hb1
    clear hc0
    have hc1 := (hk.ext hx).cell
    have hl1 := (hk.ext hx).lt
    go_wp2_with fail
    refine (f2 _).mono ?_
    rintro e w2 ⟨rfl, hb2⟩
    replace hx := hx.trans hb2
    clear hc1
    have hc2 := (hk.ext hx).cell
    have hl2 := (hk.ext hx).lt
    go_wp2
    go_ret
    exact ⟨by rw [HX.out]; rfl, hB.trans hx⟩
  rw [x2] at f2
  have z2 : ¬ epE b.dk b.dn ≠ 0 := fun h => h x2
  by_cases x3 : b.life < 1
  case pos =>
    have HX := Lib.hid (show v = 2 by rw [← HV.out, if_neg z1, if_neg z2, if_pos (.inl x3)])
    go_enter Tryz.func94, Tryz.ntmps94
    have hx := Ext.refl W
    go_wp2_with fail
    clear hW
    refine (f1 _).mono ?_
    rintro e w1 ⟨rfl, hb1⟩
    replace hx := hx.trans hb1
    clear hc0
    have hc1 := (hk.ext hx).cell
    have hl1 := (hk.ext hx).lt
    go_wp2_with fail
    refine (f2 _).mono ?_
    rintro e w2 ⟨rfl, hb2⟩
    replace hx := hx.trans hb2
    clear hc1
    have hc2 := (hk.ext hx).cell
    have hl2 := (hk.ext hx).lt
    go_wp2
    go_ret
    exact ⟨by rw [HX.out]; rfl, hB.trans hx⟩
  by_cases y3 : 1099511627776 - b.cr < b.life
  case pos =>
    have HX := Lib.hid (show v = 2 by rw [← HV.out, if_neg z1, if_neg z2, if_pos (.inr y3)])
    go_enter Tryz.func94, Tryz.ntmps94
    have hx := Ext.refl W
    go_wp2_with fail
    clear hW
    refine (f1 _).mono ?_
    rintro e w1 ⟨rfl, hb1⟩
    replace hx := hx.trans hb1
    clear hc0
    have hc1 := (hk.ext hx).cell
    have hl1 := (hk.ext hx).lt
    go_wp2_with fail
    refine (f2 _).mono ?_
    rintro e w2 ⟨rfl, hb2⟩
    replace hx := hx.trans hb2
    clear hc1
    have hc2 := (hk.ext hx).cell
    have hl2 := (hk.ext hx).lt
    go_wp2
    go_ret
    exact ⟨by rw [HX.out]; rfl, hB.trans hx⟩
  have z3 : ¬ (b.life < 1 ∨ 1099511627776 - b.cr < b.life) := by omega
  by_cases x4 : 0 ≤ b.prio ∧ b.prio ≤ 2
  case neg =>
    have HX := Lib.hid (show v = 8 by rw [← HV.out, if_neg z1, if_neg z2, if_neg z3, if_pos x4])
    rw [decide_eq_false x4] at f3
    go_enter Tryz.func94, Tryz.ntmps94
    have hx := Ext.refl W
    go_wp2_with fail
    clear hW
    refine (f1 _).mono ?_
    rintro e w1 ⟨rfl, hb1⟩
    replace hx := hx.trans hb1
    clear hc0
    have hc1 := (hk.ext hx).cell
    have hl1 := (hk.ext hx).lt
    go_wp2_with fail
    refine (f2 _).mono ?_
    rintro e w2 ⟨rfl, hb2⟩
    replace hx := hx.trans hb2
    clear hc1
    have hc2 := (hk.ext hx).cell
    have hl2 := (hk.ext hx).lt
    go_wp2_with fail
    refine (f3 _).mono ?_
    rintro e w4 ⟨rfl, rfl⟩
    go_wp2
    go_ret
    exact ⟨by rw [HX.out]; rfl, hB.trans hx⟩
  rw [decide_eq_true x4] at f3
  have z4 : ¬ ¬ (0 ≤ b.prio ∧ b.prio ≤ 2) := fun h => h x4
  by_cases x5 : flgE b.flags b.tot = 0
  case neg =>
    have HX := Lib.hid (show v = flgE b.flags b.tot by rw [← HV.out, if_neg z1, if_neg z2, if_neg z3, if_neg z4, if_pos x5])
    obtain ⟨u, hu⟩ : ∃ u, flgE b.flags b.tot = u := ⟨_, rfl⟩
    rw [hu] at f4 HX x5
    have hn0 : (u != 0) = true := by rw [bne_iff_ne]; exact x5
    clear hu x5
    go_enter Tryz.func94, Tryz.ntmps94
    have hx := Ext.refl W
    go_wp2_with fail
    clear hW
    refine (f1 _).mono ?_
    rintro e w1 ⟨rfl, hb1⟩
    replace hx := hx.trans hb1
    clear hc0
    have hc1 := (hk.ext hx).cell
    have hl1 := (hk.ext hx).lt
    go_wp2_with fail
    refine (f2 _).mono ?_
    rintro e w2 ⟨rfl, hb2⟩
    replace hx := hx.trans hb2
    clear hc1
    have hc2 := (hk.ext hx).cell
    have hl2 := (hk.ext hx).lt
    go_wp2_with fail
    refine (f3 _).mono ?_
    rintro e w4 ⟨rfl, rfl⟩
    go_wp2_with fail
    refine (f4 _).mono ?_
    rintro e w5 ⟨rfl, hb5⟩
    replace hx := hx.trans hb5
    clear hc2
    have hc5 := (hk.ext hx).cell
    have hl5 := (hk.ext hx).lt
    go_wp2
    go_ret
    exact ⟨by rw [HX.out]; rfl, hB.trans hx⟩
  rw [x5] at f4
  have z5 : ¬ flgE b.flags b.tot ≠ 0 := fun h => h x5
  by_cases x6 : blksE b.blocks = 0
  case neg =>
    have HX := Lib.hid (show v = blksE b.blocks by rw [← HV.out, if_neg z1, if_neg z2, if_neg z3, if_neg z4, if_neg z5, if_pos x6])
    obtain ⟨u, hu⟩ : ∃ u, blksE b.blocks = u := ⟨_, rfl⟩
    rw [hu] at f5 HX x6
    have hn0 : (u != 0) = true := by rw [bne_iff_ne]; exact x6
    clear hu x6
    go_enter Tryz.func94, Tryz.ntmps94
    have hx := Ext.refl W
    go_wp2_with fail
    clear hW
    refine (f1 _).mono ?_
    rintro e w1 ⟨rfl, hb1⟩
    replace hx := hx.trans hb1
    clear hc0
    have hc1 := (hk.ext hx).cell
    have hl1 := (hk.ext hx).lt
    go_wp2_with fail
    refine (f2 _).mono ?_
    rintro e w2 ⟨rfl, hb2⟩
    replace hx := hx.trans hb2
    clear hc1
    have hc2 := (hk.ext hx).cell
    have hl2 := (hk.ext hx).lt
    go_wp2_with fail
    refine (f3 _).mono ?_
    rintro e w4 ⟨rfl, rfl⟩
    go_wp2_with fail
    refine (f4 _).mono ?_
    rintro e w5 ⟨rfl, hb5⟩
    replace hx := hx.trans hb5
    clear hc2
    have hc5 := (hk.ext hx).cell
    have hl5 := (hk.ext hx).lt
    go_wp2_with fail
    refine (f5 _ ((hR.ext hB).ext hx)).mono ?_
    rintro e w6 ⟨rfl, hb6⟩
    replace hx := hx.trans hb6
    clear hc5
    have hc6 := (hk.ext hx).cell
    have hl6 := (hk.ext hx).lt
    go_wp2
    go_ret
    exact ⟨by rw [HX.out]; rfl, hB.trans hx⟩
  rw [x6] at f5
  have z6 : ¬ blksE b.blocks ≠ 0 := fun h => h x6
  have HX := Lib.hid (show v = payE b.off b.tot b.pay.length by rw [← HV.out, if_neg z1, if_neg z2, if_neg z3, if_neg z4, if_neg z5, if_neg z6])
  obtain ⟨u, hu⟩ : ∃ u, payE b.off b.tot b.pay.length = u := ⟨_, rfl⟩
  rw [hu] at f6 HX
  clear hu x1 x2 x5 x6 z1 z2 z3 z4 z5 z6
  go_enter Tryz.func94, Tryz.ntmps94
  have hx := Ext.refl W
  go_wp2_with fail
  clear hW
  refine (f1 _).mono ?_
  rintro e w1 ⟨rfl, hb1⟩
  replace hx := hx.trans hb1
  clear hc0
  have hc1 := (hk.ext hx).cell
  have hl1 := (hk.ext hx).lt
  go_wp2_with fail
  refine (f2 _).mono ?_
  rintro e w2 ⟨rfl, hb2⟩
  replace hx := hx.trans hb2
  clear hc1
  have hc2 := (hk.ext hx).cell
  have hl2 := (hk.ext hx).lt
  go_wp2_with fail
  refine (f3 _).mono ?_
  rintro e w4 ⟨rfl, rfl⟩
  go_wp2_with fail
  refine (f4 _).mono ?_
  rintro e w5 ⟨rfl, hb5⟩
  replace hx := hx.trans hb5
  clear hc2
  have hc5 := (hk.ext hx).cell
  have hl5 := (hk.ext hx).lt
  go_wp2_with fail
  refine (f5 _ ((hR.ext hB).ext hx)).mono ?_
  rintro e w6 ⟨rfl, hb6⟩
  replace hx := hx.trans hb6
  clear hc5
  have hc6 := (hk.ext hx).cell
  have hl6 := (hk.ext hx).lt
  go_wp2_with fail
  refine (f6 _ h0 h1).mono ?_
  rintro e w7 ⟨rfl, hb7⟩
  replace hx := hx.trans hb7
  clear hc6
  have hc7 := (hk.ext hx).cell
  have hl7 := (hk.ext hx).lt
  go_wp2
  go_ret
  exact ⟨by rw [HX.out]; rfl, hB.trans hx⟩

end Go.Proofs.YtemkpimngbbpkaaGreat
