/- Layer 24 (journey): the walk of JourneyLabels. -/
import Derived.Test.YtgmfnhianhngiaaJrL1
import Derived.Test.YtgmfnhianhngiaaJrLab
import Derived.BigRegion
namespace Go.Proofs.Ytgmfnhianhngiaa
set_option linter.unusedVariables false
set_option linter.unusedSimpArgs false
open Go.RowKit Go.Shelf

theorem fineQ_of {p : Pln} {q : Req} (h : fineQ p q = true) : p.chk = 0 ∧ q.okB p.quo.length = true := by
  simpa [fineQ] using h

set_option maxRecDepth 100000 in
set_option maxHeartbeats 4000000 in
theorem labels_walk (Aq : Option Addr) (cq : Nat) (Ac : Option Addr) (cc : Nat) (p : Pln) (q : Req) (w : World) (h : PlnIn w Aq cq Ac cc p) :
    Calls Try.prog 5 #[p.val Aq cq Ac cc, q.val] w fun e w' => e = .returned (.bool true) ∧ Ext w w' := by
  obtain ⟨ib, hib, hbz, hb1, hb2⟩ := info_parts info_bool
  obtain ⟨W, hW, hB, hk, hkr, hlt, hltr⟩ := box2 w #[.slice Aq p.quo.length cq, .slice Ac p.cons.length cc] q.cells 25 34
  simp only [Req.cells] at hW hkr
  have hc := hk.cell
  have hcr := hkr.cell
  have hIn : PlnIn W Aq cq Ac cc p := ⟨h.q.ext hB, h.c.ext hB, h.qc, h.ck, h.qm, h.cm⟩
  have hgr := great24_any Aq cq Ac cc p W hIn.le.1 hIn.le.2
  cases hg : p.gr24
  case' true =>
    rw [hg] at hgr
    unfold Pln.val at hgr ⊢
    unfold Req.val
    go_enter Try.func5, Try.ntmps5
    go_wp2_with fail
    clear hW
    refine hgr.mono ?_
    clear hgr
    rintro e w1 ⟨rfl, hb1⟩
    go_wp2_with fail
    refine (awake_any _).mono ?_
    rintro e w2 ⟨rfl, hb2⟩
    go_wp2
    go_ret
    exact ⟨rfl, (hB.trans hb1).trans hb2⟩
  rw [hg] at hgr
  have hrd := hIn.rd hg
  have hcq := fun w h => rCheckRequest_any Aq cq Ac cc p q w h
  cases hf : fineQ p q
  case' false =>
    rw [hf] at hcq
    unfold Pln.val at hgr hcq ⊢
    unfold Req.val at hcq ⊢
    go_enter Try.func5, Try.ntmps5
    go_wp2_with fail
    clear hW
    refine hgr.mono ?_
    clear hgr
    rintro e w1 ⟨rfl, hb1⟩
    have hk1 := hk.ext hb1
    have hkr1 := hkr.ext hb1
    replace hc := hk1.cell
    replace hcr := hkr1.cell
    go_wp2_with fail
    refine (hcq _ (hrd.ext hb1)).mono ?_
    clear hcq
    rintro e w2 ⟨rfl, hb2⟩
    go_wp2_with fail
    refine (awake_any _).mono ?_
    rintro e w3 ⟨rfl, hb3⟩
    go_wp2
    go_ret
    exact ⟨rfl, (hB.trans hb1).trans (hb2.trans hb3)⟩
  rw [hf] at hcq
  obtain ⟨f2, f3⟩ := fineQ_of hf
  have hok := Pln.ok_of f2
  have J := Req.jc hok f3
  have hL := Pln.arrQ_least hok f3
  have hn1 := hok.n1
  have hn16 := hok.n16
  have hm64 := hok.m64
  have f3' := f3
  simp only [Req.okB, decide_eq_true_eq] at f3'
  obtain ⟨a1, a2, a3, a4, a5, a6, a7, a8, a9, a10, a11, a12⟩ := f3'
  have F2 := Lib.hid f2
  have F3 := Lib.hid f3
  have A5 := Lib.hid a5
  clear f2 f3 hf hg a5
  unfold Pln.val at hgr hcq ⊢
  unfold Req.val at hcq ⊢
  go_enter Try.func5, Try.ntmps5
  go_wp2_with fail
  clear hW
  refine hgr.mono ?_
  clear hgr
  rintro e w1 ⟨rfl, hb1⟩
  have hk1 := hk.ext hb1
  have hkr1 := hkr.ext hb1
  replace hc := hk1.cell
  replace hcr := hkr1.cell
  go_wp2_with fail
  refine (hcq _ (hrd.ext hb1)).mono ?_
  clear hcq
  rintro e w2 ⟨rfl, hb2⟩
  have kp2 := hk1.ext hb2
  have kq2 := hkr1.ext hb2
  replace hc := kp2.cell
  replace hcr := kq2.cell
  have hE2 := (hB.trans hb1).trans hb2
  have hrd2 := (hrd.ext hb1).ext hb2
  clear hk1 hkr1 hk hkr hb1 hb2 hIn hrd
  have h3 := Foremost_any Aq cq Ac cc p q.src q.ready q.size w2 hrd2
  have fe1 : p.forE q.src q.ready q.size = 0 := by unfold Pln.forE; rw [if_pos F2.out, Req.argF F3.out]; rfl
  have ft1 : p.forT q.src q.ready q.size = p.arrQ q := by unfold Pln.forT; rw [if_pos fe1]; rfl
  rw [ft1, fe1] at h3
  obtain ⟨T, hT⟩ : ∃ T, p.arrQ q = T := ⟨_, rfl⟩
  rw [hT] at h3 hL
  have HT := Lib.hid hT
  have Hl := Lib.hid hL.len
  have HL := Lib.hid hL
  have HJ := Lib.hid J
  unfold Pln.val at h3
  clear hT ft1 fe1 hL J
  go_wp2_with fail
  refine h3.mono ?_
  clear h3
  rintro e w3 ⟨A3, c3, rfl, hR3, hb3, hcap3⟩
  rw [Hl.out]
  have kp3 := kp2.ext hb3
  have kq3 := kq2.ext hb3
  replace hc := kp3.cell
  replace hcr := kq3.cell
  have hlp3 := kp3.lt
  have hlq3 := kq3.lt
  have hE3 := hE2.trans hb3
  have hrd3 := hrd2.ext hb3
  clear hcap3 hrd2 kp2 kq2
  have hmk := fun w => run_make1 (n := p.quo.length) Try.underlying40 hib hbz hb1 (by omega) rfl (by omega) w
  have hsrc := HL.out.srcT HJ.out
  obtain ⟨b3, o3, rfl, hb3l, _⟩ := hR3.int (k := 0) (by have := Hl.out; omega)
  obtain ⟨hTs, _⟩ := hR3.gi (i := q.src) (by have := Hl.out; omega)
  rw [hsrc] at hTs
  have hN := Near.refl w3
  go_wp2_with fail
  have hq := quiet_near hN
  refine wp_region_quiet_below (by kernel_rfl) (by kernel_rfl) ?_
  repeat (first | go_big_quiet_skip | (go_big_quiet_want; go_big_quiet_op; first | go_big_quiet_on | (apply Exists.intro; refine ⟨fun _ => ?_, ?_⟩; (focus (first | fail)); go_big_quiet_on)))
  refine wpQuiet_nil ?_
  intro w1 hw1
  clear hq
  replace hw1 := quiet_ext hw1
  replace hN := hN.step hw1
  have hC := hN.2
  obtain ⟨w4, rfl⟩ : ∃ x, x = w1 := ⟨_, rfl⟩
  have hR4 := hR3.ext hN.1
  have kp4 := kp3.ext hN.1
  have kq4 := kq3.ext hN.1
  have hE4 := hE3.trans hN.1
  have hrd4 := hrd3.ext hN.1
  clear hC hc hcr hN hTs
  obtain ⟨W5, hW5, hB5, hk5, hl5⟩ := box1 w4 (Array.replicate p.quo.length (.bool false)) 4
  have ho5 := own_bool hk5 (Nat.le_refl _) hn16
  have kp5 := kp4.ext hB5
  have kq5 := kq4.ext hB5
  have hcp4 := kp4.cell
  have hcq4 := kq4.cell
  have hcp5 := kp5.cell
  have hlp4 := kp4.lt
  have hlq4 := kq4.lt
  have hlp5 := kp5.lt
  have hlq5 := kq5.lt
  have hcq5 := kq5.cell
  have hcg5 := ho5.gb (i := q.src) (by simp; omega)
  have hfg5 := ho5.freeb.2
  go_wp2_with fail
  clear hW5 hmk
  obtain ⟨w6, hw6, ho6, hx6⟩ : ∃ w6, W5.setCell ⟨w4.heap.size, q.src.toNat, none⟩ (.bool true) = w6 ∧ Owns EBool w6 w4.heap.size 4 (.slice (some ⟨w4.heap.size, 0, none⟩) p.quo.length p.quo.length) (labB p.quo.length q.src) ∧ Ext w4 w6 :=
    ⟨_, rfl, ho5.setb (k := q.src.toNat) (by simp; omega) true, hB5.setCell (Nat.le_refl _) _⟩
  rw [hw6]
  clear hw6 ho5 hcg5 hfg5 hcp5 hcq5 hcp4 hcq4 hk5 hB5 hl5
  go_loopg [66] p.cons.length (fun n i wr => ∃ j : Nat, j + n = p.cons.length ∧ i = .int .i64 j ∧ Owns EBool wr w4.heap.size 4 (.slice (some ⟨w4.heap.size, 0, none⟩) p.quo.length p.quo.length) ((p.cons.take j).foldl (labS T q.size) (labB p.quo.length q.src)) ∧ Ext w4 wr)
  case atStart => exact ⟨0, by omega, rfl, ho6, hx6⟩
  case round =>
    obtain ⟨j, hjn, rfl, hu, hF⟩ := hrel
    clear ho6 hx6
    have kpr := kp4.ext hF
    have kqr := kq4.ext hF
    have hcpr := kpr.cell
    have hcqr := kqr.cell
    have hlpr := kpr.lt
    have hlqr := kqr.lt
    have hEr := hE4.trans hF
    have Hjn := Lib.hid hjn
    have hjl : j ≤ p.cons.length := by omega
    clear hjn
    by_cases hlt : j < p.cons.length
    · obtain ⟨b, o, rfl, hb, c0, c1, c2, c3, c4, c5, c6⟩ := (hrd4.c.ext hF).con hlt
      have hst := labF_snoc (m := T) (n := q.size) (rb := labB p.quo.length q.src) hlt rfl
      have hyc := hok.con _ (List.getElem_mem hlt)
      have hmem := List.getElem_mem hlt
      have hfl := (labF_len T q.size (p.cons.take j) (labB p.quo.length q.src)).trans (labB_len _ _)
      generalize hye : p.cons[j] = c at *
      generalize hs : (p.cons.take j).foldl (labS T q.size) (labB p.quo.length q.src) = s at *
      have Hst := Lib.hid hst
      have Hfl := Lib.hid hfl
      have Hmem := Lib.hid hmem
      clear hst hye hs hfl hmem
      have hs0 := hyc.1.src0
      have hs1 := hyc.2.1
      have hd0 := hyc.1.dst0
      have hd1 := hyc.2.2
      have hok2 := hyc.1
      obtain ⟨W7, hW7, hB7, hk7, hl7⟩ := box1 wr c.cells 36
      simp only [Con.cells] at hW7 hk7
      have hck := hk7.cell
      have hlk := hk7.lt
      have hcp7 := (kpr.ext hB7).cell
      have hcq7 := (kqr.ext hB7).cell
      have hlp7 := (kpr.ext hB7).lt
      have hlq7 := (kqr.ext hB7).lt
      have hu7 := hu.ext hB7
      obtain ⟨hts, hb3w⟩ := ((hR4.ext hF).ext hB7).gi (i := c.src) (by have := Hl.out; omega)
      obtain ⟨htd, _⟩ := ((hR4.ext hF).ext hB7).gi (i := c.dst) (by have := Hl.out; omega)
      by_cases h0 : gi T c.src < 0
      · have hd : decide (gi T c.src < 0) = true := decide_eq_true h0
        have e1 := Lib.hid (show labS T q.size s c = s by unfold labS; rw [if_neg (by omega)])
        go_wp2
        go_roundg (gk - 1)
        case measure => have := Hjn.out; omega
        case rel => exact ⟨j + 1, by have := Hjn.out; omega, by go_num, by rw [Hst.out, e1.out]; exact hu7, hF.trans hB7⟩
      · have hd : decide (gi T c.src < 0) = false := decide_eq_false h0
        have h0' : 0 ≤ gi T c.src := by omega
        have hbg := fun w => Begin_any c (gi T c.src) q.size w
        unfold Con.val at hbg
        by_cases he : earr c (gi T c.src) q.size = -1
        · have hbn := begin_no hok2 ⟨a6, a7⟩ he
          simp only [hbn.1, hbn.2] at hbg
          have e1 := Lib.hid (show labS T q.size s c = s by unfold labS; rw [if_neg (fun h => h.2 he)])
          clear he hbn
          have hN := Near.refl W7
          go_wp2_with fail
          clear hW7 c0 c1 c2 c3 c4 c5 c6
          have hq := quiet_near hN
          refine wp_region_quiet_below (by kernel_rfl) (by kernel_rfl) ?_
          repeat (first | go_big_quiet_skip | (go_big_quiet_want; go_big_quiet_op; first | go_big_quiet_on | (apply Exists.intro; refine ⟨fun _ => ?_, ?_⟩; (focus (first | (go_at_call 17; exact Calls.regrown_of (hbg _)))); go_big_quiet_on)))
          refine wpQuiet_nil ?_
          intro w1 hw1
          clear hq
          replace hw1 := quiet_ext hw1
          replace hN := hN.step hw1
          have hC := hN.2
          go_wp2
          go_roundg (gk - 1)
          case measure => have := Hjn.out; omega
          case rel => exact ⟨j + 1, by have := Hjn.out; omega, by go_num, by rw [Hst.out, e1.out]; exact hu7.ext hN.1, (hF.trans hB7).trans hN.1⟩
        · have hbn := begin_ok hok2 ⟨a6, a7⟩ he
          simp only [hbn.1, hbn.2.1] at hbg
          have har := fun w => Arrival_any c (c.beg (gi T c.src)) q.size w
          simp only [hbn.2.2.1, hbn.2.2.2] at har
          unfold Con.val at har
          have hedge := HL.out.edge HJ.out Hmem.out h0' he
          have hcs := (earr_cases (t := gi T c.src) hok2 ⟨a6, a7⟩).resolve_left (fun h => he h.1)
          have e1 := Lib.hid (show labS T q.size s c = s.set c.dst.toNat (gb s c.dst || (decide (gi T c.dst = earr c (gi T c.src) q.size) && decide (gi T c.src < earr c (gi T c.src) q.size))) by unfold labS; rw [if_pos ⟨h0', he⟩])
          clear he hbn
          obtain ⟨hed0, hed1⟩ := hedge
          have hsl : gi T c.src < earr c (gi T c.src) q.size := by omega
          clear hcs
          obtain ⟨av, hav⟩ : ∃ av, earr c (gi T c.src) q.size = av := ⟨_, rfl⟩
          rw [hav] at har hed1 hsl e1
          clear hav
          have hN := Near.refl W7
          go_wp2_with fail
          clear hW7 c0 c1 c2 c3 c4 c5 c6
          have hq := quiet_near hN
          refine wp_region_quiet_below (by kernel_rfl) (by kernel_rfl) ?_
          repeat (first | go_big_quiet_skip | (go_big_quiet_want; go_big_quiet_op; first | go_big_quiet_on | (apply Exists.intro; refine ⟨fun _ => ?_, ?_⟩; (focus (first | (go_at_call 17; exact Calls.regrown_of (hbg _)))); go_big_quiet_on)))
          refine wpQuiet_nil ?_
          intro w1 hw1
          clear hq
          replace hw1 := quiet_ext hw1
          replace hN := hN.step hw1
          have hC := hN.2
          clear hbg
          have kc8 := hk7.ext hN.1
          have kp8 := (kpr.ext hB7).ext hN.1
          have kq8 := (kqr.ext hB7).ext hN.1
          have hR8 := ((hR4.ext hF).ext hB7).ext hN.1
          have hu8 := hu7.ext hN.1
          have hF8 := (hF.trans hB7).trans hN.1
          have hck8 := kc8.cell
          have hcp8 := kp8.cell
          have hcq8 := kq8.cell
          have hlk8 := kc8.lt
          have hlp8 := kp8.lt
          have hlq8 := kq8.lt
          clear hC hck hcp7 hcq7 hts htd
          go_wp2_with fail
          refine (har _).mono ?_
          clear har
          rintro e w9 ⟨rfl, hb9⟩
          have kc9 := kc8.ext hb9
          have kp9 := kp8.ext hb9
          have kq9 := kq8.ext hb9
          have hck9 := kc9.cell
          have hcp9 := kp9.cell
          have hcq9 := kq9.cell
          have hlk9 := kc9.lt
          have hlp9 := kp9.lt
          have hlq9 := kq9.lt
          have hR9 := hR8.ext hb9
          have hu9 := hu8.ext hb9
          have hF9 := hF8.trans hb9
          obtain ⟨hts, hb3w9⟩ := hR9.gi (i := c.src) (by have := Hl.out; omega)
          obtain ⟨htd, _⟩ := hR9.gi (i := c.dst) (by have := Hl.out; omega)
          have hgb := hu9.gb (i := c.dst) (by have := Hfl.out; omega)
          obtain ⟨hgl9, hgf9⟩ := hu9.freeb
          have hd0 : decide (gi T c.dst < 0) = false := decide_eq_false (by omega)
          have hd1' : decide (av < gi T c.dst) = false := decide_eq_false (by omega)
          have hdsl : decide (gi T c.src < av) = true := decide_eq_true hsl
          clear hck8 hcp8 hcq8
          cases hvb : gb s c.dst
          all_goals
            rw [hvb] at hgb e1
            clear hvb
            by_cases hq8 : gi T c.dst = av
            all_goals
              first
                | (have hde : (gi T c.dst == av) = true := by simpa using hq8)
                | (have hde : (gi T c.dst == av) = false := by simpa using hq8)
              first
                | (have hdx : decide (gi T c.dst = av) = true := decide_eq_true hq8)
                | (have hdx : decide (gi T c.dst = av) = false := decide_eq_false hq8)
              rw [hdx, hdsl] at e1
              clear hq8 hdx
              go_wp2_with fail
              go_region
              go_wp2
              go_roundg (gk - 1)
              case measure => have := Hjn.out; omega
              case rel =>
                refine ⟨j + 1, by have := Hjn.out; omega, by go_num, by rw [Hst.out, e1.out]; exact (hu9.setb (k := c.dst.toNat) (by have := Hfl.out; omega) _).ext ((Ext.refl _).drew), (hF9.setCell (Nat.le_refl _) _).drew⟩
    · have hlj : p.cons.length ≤ j := by omega
      rw [List.take_of_length_le hlj] at hu
      have hlab := fun i h0 h1 => lab_law HJ.out HL.out (i := i) h0 h1
      obtain ⟨s, hs⟩ : ∃ s, p.cons.foldl (labS T q.size) (labB p.quo.length q.src) = s := ⟨_, rfl⟩
      rw [hs] at hu hlab
      have Hlab := Lib.hid hlab
      have Hsl := Lib.hid (show s.length = p.quo.length by rw [← hs, labF_len, labB_len])
      have hRr := hR4.ext hF
      clear hs hlab
      obtain ⟨wo, rfl⟩ : ∃ wo, wo = wr := ⟨_, rfl⟩
      go_wp2_with fail
      go_loopg [147] p.quo.length (fun n i wr => ∃ j : Nat, j + n = p.quo.length ∧ i = .int .i64 j ∧ Ext wo wr)
      case atStart => exact ⟨0, by omega, rfl, Ext.refl _⟩
      case round =>
        obtain ⟨k, hkn, rfl, hF2⟩ := hrel
        by_cases hlt2 : k < p.quo.length
        · have Hkn := Lib.hid hkn
          clear hkn
          obtain ⟨htk, hb3w⟩ := (hRr.ext hF2).gi (i := (k : Int)) (by have := Hl.out; omega)
          have hgk := (hu.ext hF2).gb (i := (k : Int)) (by have := Hsl.out; omega)
          have hlk := Hlab.out (k : Int) (by omega) (by omega)
          rw [hlk] at hgk
          rw [Int.toNat_natCast] at htk hgk
          clear hlk
          by_cases h0 : 0 ≤ gi T (k : Int)
          all_goals
            first
              | (have hd : decide (0 ≤ gi T (k : Int)) = true := decide_eq_true h0)
              | (have hd : decide (0 ≤ gi T (k : Int)) = false := decide_eq_false h0)
            rw [hd] at hgk
            clear h0
            go_wp2
            go_roundg (gk - 1)
            case measure => have := Hkn.out; omega
            case rel => exact ⟨k + 1, by have := Hkn.out; omega, by go_num, hF2⟩
        · go_wp2_with fail
          refine (awake_any _).mono ?_
          rintro e w5 ⟨rfl, hb5⟩
          go_wp2
          go_ret
          exact ⟨rfl, hEr.trans (hF2.trans hb5)⟩

end Go.Proofs.Ytgmfnhianhngiaa
