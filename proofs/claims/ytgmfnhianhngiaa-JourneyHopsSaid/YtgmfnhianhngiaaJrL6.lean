/- Layer 24 (journey): the walk of JourneyHops. -/
import Derived.Test.YtgmfnhianhngiaaJrH1
namespace Go.Proofs.Ytgmfnhianhngiaa
set_option linter.unusedVariables false
set_option linter.unusedSimpArgs false
open Go.RowKit Go.Shelf Go.Maps

theorem fineQ_of {p : Pln} {q : Req} (h : fineQ p q = true) : p.chk = 0 ∧ q.okB p.quo.length = true := by
  simpa [fineQ] using h

set_option maxRecDepth 100000 in
set_option maxHeartbeats 4000000 in
theorem hops_walk (Aq : Option Addr) (cq : Nat) (Ac : Option Addr) (cc : Nat) (p : Pln) (q : Req) (w : World) (h : PlnIn w Aq cq Ac cc p) :
    Calls Try.prog 6 #[p.val Aq cq Ac cc, q.val] w fun e w' => e = .returned (.bool true) ∧ Ext w w' := by
  obtain ⟨W, hW, hB, hk, hkr, hlt, hltr⟩ := box2 w #[.slice Aq p.quo.length cq, .slice Ac p.cons.length cc] q.cells 25 34
  simp only [Req.cells] at hW hkr
  have hc := hk.cell
  have hcr := hkr.cell
  have hIn : PlnIn W Aq cq Ac cc p := ⟨h.q.ext hB, h.c.ext hB, h.qc, h.ck, h.qm, h.cm⟩
  have hgr := great24_any Aq cq Ac cc p W hIn.le.1 hIn.le.2
  cases hg : p.gr24
  case' true =>
    rw [hg] at hgr
    unfold Pln.val at hgr ⊢
    unfold Req.val
    go_enter Try.func6, Try.ntmps6
    go_wp2_with fail
    clear hW
    refine hgr.mono ?_
    clear hgr
    rintro e w1 ⟨rfl, hb1⟩
    go_wp2_with fail
    refine (awake_any _).mono ?_
    rintro e w2 ⟨rfl, hb2⟩
    go_wp2
    go_ret
    exact ⟨rfl, (hB.trans hb1).trans hb2⟩
  rw [hg] at hgr
  have hrd := hIn.rd hg
  have hcq := fun w h => rCheckRequest_any Aq cq Ac cc p q w h
  cases hf : fineQ p q
  case' false =>
    rw [hf] at hcq
    unfold Pln.val at hgr hcq ⊢
    unfold Req.val at hcq ⊢
    go_enter Try.func6, Try.ntmps6
    go_wp2_with fail
    clear hW
    refine hgr.mono ?_
    clear hgr
    rintro e w1 ⟨rfl, hb1⟩
    have hk1 := hk.ext hb1
    have hkr1 := hkr.ext hb1
    replace hc := hk1.cell
    replace hcr := hkr1.cell
    go_wp2_with fail
    refine (hcq _ (hrd.ext hb1)).mono ?_
    clear hcq
    rintro e w2 ⟨rfl, hb2⟩
    go_wp2_with fail
    refine (awake_any _).mono ?_
    rintro e w3 ⟨rfl, hb3⟩
    go_wp2
    go_ret
    exact ⟨rfl, (hB.trans hb1).trans (hb2.trans hb3)⟩
  rw [hf] at hcq
  obtain ⟨f2, f3⟩ := fineQ_of hf
  have hok := Pln.ok_of f2
  have J := Req.jc hok f3
  have hL := Pln.arrQ_least hok f3
  have hn1 := hok.n1
  have hn16 := hok.n16
  have hm64 := hok.m64
  have f3' := f3
  simp only [Req.okB, decide_eq_true_eq] at f3'
  obtain ⟨a1, a2, a3, a4, a5, a6, a7, a8, a9, a10, a11, a12⟩ := f3'
  have F2 := Lib.hid f2
  have F3 := Lib.hid f3
  have A5 := Lib.hid a5
  clear f2 f3 hf hg a5
  unfold Pln.val at hgr hcq ⊢
  unfold Req.val at hcq ⊢
  go_enter Try.func6, Try.ntmps6
  go_wp2_with fail
  clear hW
  refine hgr.mono ?_
  clear hgr
  rintro e w1 ⟨rfl, hb1⟩
  have hk1 := hk.ext hb1
  have hkr1 := hkr.ext hb1
  replace hc := hk1.cell
  replace hcr := hkr1.cell
  go_wp2_with fail
  refine (hcq _ (hrd.ext hb1)).mono ?_
  clear hcq
  rintro e w2 ⟨rfl, hb2⟩
  have kp2 := hk1.ext hb2
  have kq2 := hkr1.ext hb2
  replace hc := kp2.cell
  replace hcr := kq2.cell
  have hE2 := (hB.trans hb1).trans hb2
  have hrd2 := (hrd.ext hb1).ext hb2
  clear hk1 hkr1 hk hkr hb1 hb2 hIn hrd
  have h4 := JFewest_any Aq cq Ac cc p q w2 hrd2
  unfold Pln.val Req.val at h4
  go_wp2_with fail
  refine h4.mono ?_
  clear h4
  rintro e w4 ⟨l4, k4, ⟨A4, c4, rfl, hR4, hb4, hcap4⟩, hl4, hj4⟩
  have kp4 := kp2.ext hb4
  have kq4 := kq2.ext hb4
  replace hc := kp4.cell
  replace hcr := kq4.cell
  have h5 := JFind_any Aq cq Ac cc p q w4 (hrd2.ext hb4)
  unfold Pln.val Req.val at h5
  go_wp2_with fail
  refine h5.mono ?_
  clear h5
  rintro e w5 ⟨l5, k5, ⟨A5', c5, rfl, hR5, hb5, hcap5⟩, hl5, hj5⟩
  have kp5 := kp4.ext hb5
  have kq5 := kq4.ext hb5
  replace hc := kp5.cell
  replace hcr := kq5.cell
  have hlp5 := kp5.lt
  have hlq5 := kq5.lt
  have hE5 := (hE2.trans hb4).trans hb5
  have hrd5 := (hrd2.ext hb4).ext hb5
  have g4 := hj4.chk F2.out F3.out
  have g5 := hj5.chk F2.out F3.out
  have g6 := hj5.more hj4 F2.out F3.out
  clear hj4 hj5 hcap4 hcap5 hR4 hR5 hrd2 kp2 kq2 kp4 kq4
  cases hi : inT q (p.arrQ q)
  · rw [hi] at g4 g5
    rw [if_neg Bool.false_ne_true] at g4 g5
    obtain ⟨rfl, rfl⟩ := g4
    obtain ⟨rfl, rfl⟩ := g5
    clear hi g6
    go_wp2_with fail
    refine (awake_any _).mono ?_
    rintro e w6 ⟨rfl, hb6⟩
    go_wp2
    go_ret
    exact ⟨rfl, hE5.trans hb6⟩
  · rw [hi] at g4 g5
    rw [if_pos rfl] at g4 g5
    obtain ⟨rfl, _, hg1, hg2, hg3⟩ := g4
    obtain ⟨rfl, _⟩ := g5
    have hg4 := g6.2 rfl
    clear g6 hi
    obtain ⟨M, hM⟩ : ∃ M, l4.length = M + 1 := ⟨l4.length - 1, by omega⟩
    have Hg3 := Lib.hid hg3
    rw [hM] at hg1 hg2 hg4 ⊢
    have HM := Lib.hid hM
    have hd1 : ((M : Int) + 1 == 0) = false := by simp; omega
    have hd2 : decide ((l5.length : Int) < (M : Int) + 1) = false := decide_eq_false (by omega)
    have hd3 : decide ((p.quo.length : Int) ≤ (M : Int) + 1) = false := decide_eq_false (by omega)
    have hM16 : M ≤ 16 := by omega
    clear hM hg3
    have hmm := @run_makeMap Try.prog
    go_wp2_with (first
      | (refine wpList_insert_own _ rfl _ _ _ 46 rfl 3 3 law_int Try.underlying46 _ w5.heap.size 0 _ rfl (World.ownsMap_made (H := Unit) w5 Try.prog 3 (plainElem Try.prog 3)) (by unfold maxLen; omega) _ _ _ rfl rfl (keyOf_int_mk Try.underlying3 (wf64 (by omega))) _ [] (plainElem_int Try.underlying3 (wf64 (by omega))) ?_; intro w6 hown6 hg6))
    have hx6 : Ext w5 w6 := ext_of_grown ((Ext.refl _).alloc _) hg6 (Nat.le_refl _)
    have hS6 : MapS p q w5 0 w5.heap.size 1 w6 := ⟨Nat.le_refl _, by omega, ⟨_, hown6, LD.start a1 a2 a8⟩, hx6⟩
    clear hown6 hg6 hx6 hc hcr
    go_loopg [9, 85] M (fun n u9 u85 wr => ∃ (k B c : Nat), k + n = M ∧ u85 = .int .i64 k ∧ u9 = .map (some B) ∧ MapS p q w5 k B c wr)
    case atStart => exact ⟨0, w5.heap.size, 1, by omega, rfl, rfl, hS6⟩
    case round =>
      obtain ⟨k, B, c, hkM, rfl, rfl, hB, hcb, ⟨D, hown, hLD⟩, hF⟩ := hrel
      clear hS6
      have kpr := kp5.ext hF
      have kqr := kq5.ext hF
      have hcpr := kpr.cell
      have hcqr := kqr.cell
      have hlpr := kpr.lt
      have hlqr := kqr.lt
      have hEr := hE5.trans hF
      have HkM := Lib.hid hkM
      have hkl : k ≤ M := by omega
      have hBl := hown.lt
      clear hkM
      obtain ⟨wo, rfl⟩ : ∃ wo, wo = wr := ⟨_, rfl⟩
      obtain ⟨go, rfl⟩ : ∃ go, go = gk := ⟨_, rfl⟩
      by_cases hlt : k < M
      · go_wp2_with (first
          | (at_range; refine wpList_range_own _ rfl _ 46 rfl 3 3 law_int Try.underlying46 _ B c _ rfl (hown.alloc _) ?_; intro w0 hrg0 hg0 hs0))
        go_frame
        have e1 : (wo.alloc (.map #[] 0)).heap.size = wo.heap.size + 1 := by simp
        rw [e1] at hrg0 hs0 ⊢
        have hx0 : Ext wo w0 := Below.grown ((Ext.refl wo).alloc _) hg0 (by simp) (fun j hj => by cases hj)
        have hC0 : MapC B c wo D (Maps.size D) w0 := ⟨_, .map [], hrg0, Nat.le_refl _, ((World.ownsMap_made (H := Unit) wo Try.prog 3 (plainElem Try.prog 3)).kept hg0 (by simp)).mono (Nat.zero_le _), agree_start D, hx0⟩
        have hsz := own_size hown
        clear hrg0 hg0 hs0 hx0 e1
        go_loopg [] (Maps.size D) (fun n wx => MapC B c wo D n wx)
        case atStart => exact hC0
        case round =>
          obtain ⟨left, Dout, hrg, hcs, hout, hA, hx⟩ := hrel
          clear hC0
          go_wp2_with (first
            | (at_next; refine wpList_next_ranges_ii _ rfl _ rfl 3 3 .i64 .i64 law_int Try.underlying3 Try.underlying3 B (wo.heap.size + 1) c _ _ _ rfl hrg ?_ ?_))
          · intro hc0 hl0
            have e := agree_end hA hl0 (hout.canon law_int) (hown.canon law_int)
            subst e
            subst hc0
            have houtB := hrg.owns
            have hout2 := hout.mono (show Maps.size Dout - 0 ≤ c by omega)
            have kpx := kpr.ext hx
            have kqx := kqr.ext hx
            have hcpx := kpx.cell
            have hcqx := kqx.cell
            have hlpx := kpx.lt
            have hlqx := kqx.lt
            clear hrg hA hout
            obtain ⟨mm, hmmE⟩ : ∃ mm, p.RrQ q k = mm := ⟨_, rfl⟩
            rw [hmmE] at hLD
            have Hmm := Lib.hid hmmE
            have Hml := Lib.hid (show mm.length = p.quo.length by rw [← hmmE]; exact (Rr.least J k).len)
            have hN0 : MapN p q.size mm B c wo Dout 0 wr := ⟨Dout, hout2, hLD, houtB, hx⟩
            clear hmmE hcpr hcqr hmm hN0
            have hN0 : MapN p q.size mm B c wo Dout 0 wr := ⟨Dout, hout2, hLD, houtB, hx⟩
            go_wp2_with fail
            go_loopg [101] p.cons.length (fun n i wx => ∃ j : Nat, j + n = p.cons.length ∧ i = .int .i64 j ∧ MapN p q.size mm B c wo Dout j wx)
            case atStart => exact ⟨0, by omega, rfl, hN0⟩
            case round =>
              obtain ⟨j, hjn, rfl, Dn, hn, hLn, hoB, hy⟩ := hrel
              clear hN0 hcpx hcqx hout2 houtB hx
              have kpy := kpr.ext hy
              have kqy := kqr.ext hy
              have hcpy := kpy.cell
              have hcqy := kqy.cell
              have hlpy := kpy.lt
              have hlqy := kqy.lt
              have Hjn := Lib.hid hjn
              have hjl : j ≤ p.cons.length := by omega
              have hwoy := hy.size
              clear hjn
              obtain ⟨wz, rfl⟩ : ∃ wz, wz = wr := ⟨_, rfl⟩
              by_cases hlt2 : j < p.cons.length
              · obtain ⟨b, o, rfl, hb, c0, c1, c2, c3, c4', c5', c6⟩ := (((hrd5.c.ext hF).ext hy)).con hlt2
                have hst := rfold_snoc (n := q.size) (m := mm) (out := mm) hlt2 rfl
                have hyc := hok.con _ (List.getElem_mem hlt2)
                have hfl := (rfold_len q.size mm (p.cons.take j) mm).trans Hml.out
                generalize p.cons[j] = y at *
                generalize (p.cons.take j).foldl (rstep q.size mm) mm = s at *
                have Hst := Lib.hid hst
                have Hfl := Lib.hid hfl
                clear hst hfl
                have hs0 := hyc.1.src0
                have hs1 := hyc.2.1
                have hd0 := hyc.1.dst0
                have hd1' := hyc.2.2
                have hok2 := hyc.1
                obtain ⟨W7, hW7, hB7, hk7, hl7⟩ := box1 wz y.cells 36
                simp only [Con.cells] at hW7 hk7
                have hck := hk7.cell
                have hlk := hk7.lt
                have kp7 := kpy.ext hB7
                have kq7 := kqy.ext hB7
                have hcp7 := kp7.cell
                have hcq7 := kq7.cell
                have hlp7 := kp7.lt
                have hlq7 := kq7.lt
                have hoB7 := own_ext hoB hB7
                have hn7 := own_ext hn hB7
                go_wp2_with (first
                  | (at_lookup; refine wpList_lookup_own_ok_int _ rfl _ _ 46 rfl 3 3 .i64 law_int Try.underlying46 Try.underlying3 (zero_int _) B c Dout rfl hoB7 _ _ rfl (keyOf_int_mk Try.underlying3 (wf64 (z := y.src) (by omega))) ?_; intro c1 hat1 hwc1))
                clear hW7
                obtain ⟨hh1, hcv⟩ := LD.look hLD hs0 hs1 hat1
                clear hat1
                by_cases h0 : gi mm y.src < 0
                · have hhas : Maps.has Dout (.int .i64 y.src) = false := by rw [hh1]; exact decide_eq_false (by omega)
                  have e1 := Lib.hid (show rstep q.size mm s y = s by unfold rstep; rw [if_neg (by omega)])
                  clear hh1 hcv h0
                  refine (Begin_any y c1 q.size W7).mono ?_
                  rintro e w8 ⟨rfl, hb8⟩
                  go_wp2_with fail
                  go_roundg (gk - 1)
                  case measure => have := Hjn.out; omega
                  case rel => exact ⟨j + 1, by have := Hjn.out; omega, by go_num, Dn, (own_ext hn7 hb8).mono (by omega), by rw [Hst.out, e1.out]; exact hLn, own_ext hoB7 hb8, (hy.trans hB7).trans hb8⟩
                have h0' : 0 ≤ gi mm y.src := by omega
                have hhas : Maps.has Dout (.int .i64 y.src) = true := by rw [hh1]; exact decide_eq_true h0'
                rw [if_pos h0'] at hcv
                subst hcv
                clear hh1 h0
                have hbg := fun w => Begin_any y (gi mm y.src) q.size w
                unfold Con.val at hbg
                by_cases he : earr y (gi mm y.src) q.size = -1
                · have hbn := begin_no hok2 ⟨a6, a7⟩ he
                  simp only [hbn.1, hbn.2] at hbg
                  have e1 := Lib.hid (show rstep q.size mm s y = s by unfold rstep; rw [if_pos h0']; unfold relax; rw [if_neg (fun h => h.1 he)])
                  clear he hbn
                  refine (hbg W7).mono ?_
                  clear hbg
                  rintro e w8 ⟨rfl, hb8⟩
                  go_wp2_with fail
                  go_roundg (gk - 1)
                  case measure => have := Hjn.out; omega
                  case rel => exact ⟨j + 1, by have := Hjn.out; omega, by go_num, Dn, (own_ext hn7 hb8).mono (by omega), by rw [Hst.out, e1.out]; exact hLn, own_ext hoB7 hb8, (hy.trans hB7).trans hb8⟩
                have hbn := begin_ok hok2 ⟨a6, a7⟩ he
                simp only [hbn.1, hbn.2.1] at hbg
                have har := fun w => Arrival_any y (y.beg (gi mm y.src)) q.size w
                simp only [hbn.2.2.1, hbn.2.2.2] at har
                unfold Con.val at har
                have hcs := (earr_cases (t := gi mm y.src) hok2 ⟨a6, a7⟩).resolve_left (fun h => he h.1)
                have e1 := Lib.hid (show rstep q.size mm s y = if gi s y.dst < 0 ∨ earr y (gi mm y.src) q.size < gi s y.dst then s.set y.dst.toNat (earr y (gi mm y.src) q.size) else s by
                  unfold rstep; rw [if_pos h0']; unfold relax
                  by_cases hx : gi s y.dst < 0 ∨ earr y (gi mm y.src) q.size < gi s y.dst
                  · rw [if_pos ⟨he, hx⟩, if_pos hx]
                  · rw [if_neg (fun h => hx h.2), if_neg hx])
                obtain ⟨_, _, _, _, g5, g6⟩ := hcs
                obtain ⟨av, hav⟩ : ∃ av, earr y (gi mm y.src) q.size = av := ⟨_, rfl⟩
                rw [hav] at har e1 g5 g6
                clear he hbn hav
                refine (hbg W7).mono ?_
                clear hbg
                rintro e w8 ⟨rfl, hb8⟩
                have kc8 := hk7.ext hb8
                have kq8 := kq7.ext hb8
                have hck8 := kc8.cell
                have hcq8 := kq8.cell
                clear hck hcq7 hcp7
                go_wp2_with fail
                refine (har _).mono ?_
                clear har
                rintro e w9 ⟨rfl, hb9⟩
                have kc9 := kc8.ext hb9
                have kq9 := kq8.ext hb9
                have hck9 := kc9.cell
                have hcq9 := kq9.cell
                have hn9 := own_ext (own_ext hn7 hb8) hb9
                have hoB9 := own_ext (own_ext hoB7 hb8) hb9
                have hy9 := (hy.trans hB7).trans (hb8.trans hb9)
                clear hck8 hcq8
                have hc1700 : c ≤ 1700 := by omega
                by_cases h2 : gi s y.dst < 0
                · have hhas2 : Maps.has Dn (.int .i64 y.dst) = false := by rw [(hLn y.dst hd0 hd1').1]; exact decide_eq_false (by omega)
                  have e2 := Lib.hid (e1.out.trans (if_pos (.inl h2)))
                  go_wp2_with (first
                    | (at_lookup; refine wpList_lookup_own_ok_int _ rfl _ _ 46 rfl 3 3 .i64 law_int Try.underlying46 Try.underlying3 (zero_int _) wo.heap.size (c + j) Dn rfl hn9 _ _ rfl (keyOf_int_mk Try.underlying3 (wf64 (z := y.dst) (by omega))) ?_; intro c2' hat2 hwc2; have hcv2 := (LD.look hLn hd0 hd1' hat2).2; rw [if_neg (by omega)] at hcv2; subst hcv2; clear hat2 hwc2)
                    | (at_mapUpdate; refine wpList_mapUpdate_own _ rfl _ _ _ 46 rfl 3 3 law_int Try.underlying46 _ wo.heap.size (c + j) _ rfl hn9 (by unfold maxLen; omega) _ _ _ rfl rfl (keyOf_int_mk Try.underlying3 (wf64 (z := y.dst) (by omega))) _ [] (plainElem_int Try.underlying3 (wf64 (z := av) (by omega))) ?_; intro w11 hn11 hg11))
                  have hx11 : Ext wo w11 := Below.grown hy9 hg11 hy9.size (fun j hj => by cases hj; exact Nat.le_refl _)
                  go_wp2_with fail
                  go_roundg (gk - 1)
                  case measure => have := Hjn.out; omega
                  case rel => exact ⟨j + 1, by have := Hjn.out; omega, by go_num, _, hn11.mono (by omega), by rw [Hst.out, e2.out]; exact LD.put hLn hn9.isMap Hfl.out hd0 hd1' (by omega), hoB9.kept hg11 (fun e => by have := Option.some.inj e; omega), hx11⟩
                · have hge : 0 ≤ gi s y.dst := by omega
                  have hhas2 : Maps.has Dn (.int .i64 y.dst) = true := by rw [(hLn y.dst hd0 hd1').1]; exact decide_eq_true hge
                  by_cases h3 : av < gi s y.dst
                  · have hd3 : decide (av < gi s y.dst) = true := decide_eq_true h3
                    have e2 := Lib.hid (e1.out.trans (if_pos (.inr h3)))
                    go_wp2_with (first
                      | (at_lookup; refine wpList_lookup_own_ok_int _ rfl _ _ 46 rfl 3 3 .i64 law_int Try.underlying46 Try.underlying3 (zero_int _) wo.heap.size (c + j) Dn rfl hn9 _ _ rfl (keyOf_int_mk Try.underlying3 (wf64 (z := y.dst) (by omega))) ?_; intro c2' hat2 hwc2; have hcv2 := (LD.look hLn hd0 hd1' hat2).2; rw [if_pos hge] at hcv2; subst hcv2; clear hat2 hwc2)
                      | (at_mapUpdate; refine wpList_mapUpdate_own _ rfl _ _ _ 46 rfl 3 3 law_int Try.underlying46 _ wo.heap.size (c + j) _ rfl hn9 (by unfold maxLen; omega) _ _ _ rfl rfl (keyOf_int_mk Try.underlying3 (wf64 (z := y.dst) (by omega))) _ [] (plainElem_int Try.underlying3 (wf64 (z := av) (by omega))) ?_; intro w11 hn11 hg11))
                    have hx11 : Ext wo w11 := Below.grown hy9 hg11 hy9.size (fun j hj => by cases hj; exact Nat.le_refl _)
                    go_wp2_with fail
                    go_roundg (gk - 1)
                    case measure => have := Hjn.out; omega
                    case rel => exact ⟨j + 1, by have := Hjn.out; omega, by go_num, _, hn11.mono (by omega), by rw [Hst.out, e2.out]; exact LD.put hLn hn9.isMap Hfl.out hd0 hd1' (by omega), hoB9.kept hg11 (fun e => by have := Option.some.inj e; omega), hx11⟩
                  · have hd3 : decide (av < gi s y.dst) = false := decide_eq_false h3
                    have e2 := Lib.hid (e1.out.trans (if_neg (by omega)))
                    go_wp2_with (first
                      | (at_lookup; refine wpList_lookup_own_ok_int _ rfl _ _ 46 rfl 3 3 .i64 law_int Try.underlying46 Try.underlying3 (zero_int _) wo.heap.size (c + j) Dn rfl hn9 _ _ rfl (keyOf_int_mk Try.underlying3 (wf64 (z := y.dst) (by omega))) ?_; intro c2' hat2 hwc2; have hcv2 := (LD.look hLn hd0 hd1' hat2).2; rw [if_pos hge] at hcv2; subst hcv2; clear hat2 hwc2))
                    go_roundg (gk - 1)
                    case measure => have := Hjn.out; omega
                    case rel => exact ⟨j + 1, by have := Hjn.out; omega, by go_num, Dn, hn9.mono (by omega), by rw [Hst.out, e2.out]; exact hLn, hoB9, hy9⟩
              · have hj : p.cons.length ≤ j := by omega
                have hrk : p.RrQ q (k + 1) = p.cons.foldl (rstep q.size mm) mm := by rw [← Hmm.out]; rfl
                rw [List.take_of_length_le hj, ← hrk] at hLn
                have hxz := hF.trans hy
                have hsz2 := hF.size
                clear hrk
                go_wp2_with fail
                go_roundg (go - 1)
                case measure => have := HkM.out; omega
                case rel => exact ⟨k + 1, wo.heap.size, c + j, by have := HkM.out; omega, by go_num, rfl, hsz2, by omega, ⟨Dn, hn, hLn⟩, hxz⟩
          · intro x cc1 w1 cnt1 hwx hwc hlx hat hrg1 hlt1 hg1 hs1 hen
            have hout1 := hout.kept hg1 (by simp)
            have hmx : c ≤ 1700 := by omega
            go_wp2_with (first
              | (at_mapUpdate; refine wpList_mapUpdate_own _ rfl _ _ _ 46 rfl 3 3 law_int Try.underlying46 _ wo.heap.size _ _ rfl hout1 (by unfold maxLen; omega) _ _ _ rfl rfl (keyOf_int_mk Try.underlying3 hwx) _ [] (plainElem_int Try.underlying3 hwc) ?_; intro w2' hout2 hg2; go_frame))
            have hrg2 := hrg1.kept hg2 (fun e => by have := Option.some.inj e; omega) (fun e => by have := Option.some.inj e; omega)
            go_roundg cnt1
            case measure => exact hlt1
            case rel =>
              exact ⟨_, _, hrg2, by omega, hout2.mono (by omega), agree_step hA hout.isMap trivial hat,
                Below.grown (Below.grown hx hg1 hx.size (fun j hj => by cases hj; exact Nat.le_succ _)) hg2 (by have := hx.size; omega) (fun j hj => by cases hj; exact Nat.le_refl _)⟩
      · have hkM2 : k = M := by omega
        have hnl : decide ((k : Int) < (M : Int)) = false := decide_eq_false (by omega)
        have hnin := Hg3.out M (by have := HM.out; omega)
        rw [← hkM2] at hnin
        simp only [inT, decide_eq_false_iff_not] at hnin
        clear hmm hkM2
        by_cases h0 : 0 ≤ gi (p.RrQ q k) q.dst
        · have hhas : Maps.has D (.int .i64 q.dst) = true := by rw [(hLD q.dst a3 a4).1]; exact decide_eq_true h0
          have hd9 : decide (q.dead < gi (p.RrQ q k) q.dst) = true := decide_eq_true (by omega)
          go_wp2_with (first
            | (at_lookup; refine wpList_lookup_own_ok_int _ rfl _ _ 46 rfl 3 3 .i64 law_int Try.underlying46 Try.underlying3 (zero_int _) B c D rfl hown _ _ rfl (keyOf_int_mk Try.underlying3 (wf64 (z := q.dst) (by omega))) ?_; intro c2' hat2 hwc2; have hcv2 := (LD.look hLD a3 a4 hat2).2; rw [if_pos h0] at hcv2; subst hcv2; clear hat2 hwc2))
          refine (awake_any _).mono ?_
          rintro e w9 ⟨rfl, hb9⟩
          go_wp2
          go_ret
          exact ⟨rfl, hEr.trans hb9⟩
        · have hhas : Maps.has D (.int .i64 q.dst) = false := by rw [(hLD q.dst a3 a4).1]; exact decide_eq_false h0
          go_wp2_with (first
            | (at_lookup; refine wpList_lookup_own_ok_int _ rfl _ _ 46 rfl 3 3 .i64 law_int Try.underlying46 Try.underlying3 (zero_int _) B c D rfl hown _ _ rfl (keyOf_int_mk Try.underlying3 (wf64 (z := q.dst) (by omega))) ?_; intro c2' hat2 hwc2; clear hat2 hwc2))
          refine (awake_any _).mono ?_
          rintro e w9 ⟨rfl, hb9⟩
          go_wp2
          go_ret
          exact ⟨rfl, hEr.trans hb9⟩

end Go.Proofs.Ytgmfnhianhngiaa
