/- Layer 24 (journey): the walk of JourneyLeast. -/
import Derived.Test.YtgmfnhianhngiaaJrL1
import Derived.Test.YtgmfnhianhngiaaJrC1
import Derived.Test.YtgmfnhianhngiaaJrLab
namespace Go.Proofs.Ytgmfnhianhngiaa
set_option linter.unusedVariables false
set_option linter.unusedSimpArgs false
open Go.RowKit Go.Shelf

theorem fineQ_of {p : Pln} {q : Req} (h : fineQ p q = true) : p.chk = 0 ∧ q.okB p.quo.length = true := by
  simpa [fineQ] using h
def EU8 : Elt Int := ⟨fun x => [.int .u8 x], 1, fun _ => rfl, by omega, fun x u hu => by simp at hu; subst hu; rfl⟩
theorem Rd.u8 {w : World} {A : Option Addr} {l : List Int} (h : Rd EU8 w A l) {k : Nat} (hk : k < l.length) : ∃ b o, A = some ⟨b, o, none⟩ ∧ b < w.heap.size ∧ w.cell? ⟨b, o + k, none⟩ = some (.int .u8 l[k]) := by
  obtain ⟨b, o, rfl, hb, hc⟩ := h.at hk
  refine ⟨b, o, rfl, hb, ?_⟩
  have := hc 0 (.int .u8 l[k]) rfl
  simpa [EU8] using this
theorem jchk_last {p : Pln} {q : Req} {l : List Hp} {x : Hp} (h : p.jchk q (l ++ [x]) = 0) : (gc p.cons x.con).dst = q.dst ∧ x.arr ≤ q.dead := by
  unfold Pln.jchk at h
  split at h
  · split at h
    · omega
    · exact chkL_last h
  · omega

set_option maxRecDepth 100000 in
set_option maxHeartbeats 4000000 in
theorem least_walk (Aq : Option Addr) (cq : Nat) (Ac : Option Addr) (cc : Nat) (p : Pln) (q : Req) (Ap : Option Addr) (cp : Nat) (picks : List Int) (w : World) (h : PlnIn w Aq cq Ac cc p) (hp : Rd EU8 w Ap picks) (hpm : ∀ x ∈ picks, 0 ≤ x ∧ x ≤ 255) (hpl : picks.length ≤ maxLen) :
    Calls Try.prog 9 #[p.val Aq cq Ac cc, q.val, .slice Ap picks.length cp] w fun e w' => e = .returned (.bool true) ∧ Ext w w' := by
  obtain ⟨i0, hi0, hz0, hz1, hz2⟩ := info_parts info_hop
  unfold maxLen at hpl
  obtain ⟨W, hW, hB, hk, hkr, hlt, hltr⟩ := box2 w #[.slice Aq p.quo.length cq, .slice Ac p.cons.length cc] q.cells 25 34
  simp only [Req.cells] at hW hkr
  have hc := hk.cell
  have hcr := hkr.cell
  have hIn : PlnIn W Aq cq Ac cc p := ⟨h.q.ext hB, h.c.ext hB, h.qc, h.ck, h.qm, h.cm⟩
  have hgr := great24_any Aq cq Ac cc p W hIn.le.1 hIn.le.2
  cases hg : p.gr24
  case' true =>
    rw [hg] at hgr
    unfold Pln.val at hgr ⊢
    unfold Req.val
    go_enter Try.func9, Try.ntmps9
    go_wp2_with fail
    clear hW
    refine hgr.mono ?_
    clear hgr
    rintro e w1 ⟨rfl, hb1⟩
    go_wp2_with fail
    refine (awake_any _).mono ?_
    rintro e w2 ⟨rfl, hb2⟩
    go_wp2
    go_ret
    exact ⟨rfl, (hB.trans hb1).trans hb2⟩
  rw [hg] at hgr
  have hrd := hIn.rd hg
  have hcq := fun w h => rCheckRequest_any Aq cq Ac cc p q w h
  cases hf : fineQ p q
  case' false =>
    rw [hf] at hcq
    unfold Pln.val at hgr hcq ⊢
    unfold Req.val at hcq ⊢
    go_enter Try.func9, Try.ntmps9
    go_wp2_with fail
    clear hW
    refine hgr.mono ?_
    clear hgr
    rintro e w1 ⟨rfl, hb1⟩
    have hk1 := hk.ext hb1
    have hkr1 := hkr.ext hb1
    replace hc := hk1.cell
    replace hcr := hkr1.cell
    go_wp2_with fail
    refine (hcq _ (hrd.ext hb1)).mono ?_
    clear hcq
    rintro e w2 ⟨rfl, hb2⟩
    go_wp2_with fail
    refine (awake_any _).mono ?_
    rintro e w3 ⟨rfl, hb3⟩
    go_wp2
    go_ret
    exact ⟨rfl, (hB.trans hb1).trans (hb2.trans hb3)⟩
  rw [hf] at hcq
  obtain ⟨f2, f3⟩ := fineQ_of hf
  have hok := Pln.ok_of f2
  have J := Req.jc hok f3
  have hL := Pln.arrQ_least hok f3
  have hn1 := hok.n1
  have hn16 := hok.n16
  have hm64 := hok.m64
  have f3' := f3
  simp only [Req.okB, decide_eq_true_eq] at f3'
  obtain ⟨a1, a2, a3, a4, a5, a6, a7, a8, a9, a10, a11, a12⟩ := f3'
  have F2 := Lib.hid f2
  have F3 := Lib.hid f3
  have A5 := Lib.hid a5
  clear f2 f3 hf hg a5
  unfold Pln.val at hgr hcq ⊢
  unfold Req.val at hcq ⊢
  go_enter Try.func9, Try.ntmps9
  go_wp2_with fail
  clear hW
  refine hgr.mono ?_
  clear hgr
  rintro e w1 ⟨rfl, hb1⟩
  have hk1 := hk.ext hb1
  have hkr1 := hkr.ext hb1
  replace hc := hk1.cell
  replace hcr := hkr1.cell
  go_wp2_with fail
  refine (hcq _ (hrd.ext hb1)).mono ?_
  clear hcq
  rintro e w2 ⟨rfl, hb2⟩
  have kp2 := hk1.ext hb2
  have kq2 := hkr1.ext hb2
  replace hc := kp2.cell
  replace hcr := kq2.cell
  have hE2 := (hB.trans hb1).trans hb2
  have hrd2 := (hrd.ext hb1).ext hb2
  clear hk1 hkr1 hk hkr hb1 hb2 hIn hrd
  by_cases hlong : 40 < picks.length
  · have hd : decide ((40 : Int) < (picks.length : Int)) = true := decide_eq_true (by omega)
    go_wp2_with fail
    refine (awake_any _).mono ?_
    rintro e w3 ⟨rfl, hb3⟩
    go_wp2
    go_ret
    exact ⟨rfl, hE2.trans hb3⟩
  have hd : decide ((40 : Int) < (picks.length : Int)) = false := decide_eq_false (by omega)
  replace hlong : picks.length ≤ 40 := by omega
  clear hpl
  have h3 := Foremost_any Aq cq Ac cc p q.src q.ready q.size w2 hrd2
  have fe1 : p.forE q.src q.ready q.size = 0 := by unfold Pln.forE; rw [if_pos F2.out, Req.argF F3.out]; rfl
  have ft1 : p.forT q.src q.ready q.size = p.arrQ q := by unfold Pln.forT; rw [if_pos fe1]; rfl
  rw [ft1, fe1] at h3
  obtain ⟨T, hT⟩ : ∃ T, p.arrQ q = T := ⟨_, rfl⟩
  rw [hT] at h3 hL
  have HT := Lib.hid hT
  have Hl := Lib.hid hL.len
  have HL := Lib.hid hL
  have HJ := Lib.hid J
  unfold Pln.val at h3
  clear hT ft1 fe1 hL J
  go_wp2_with fail
  refine h3.mono ?_
  clear h3
  rintro e w3 ⟨A3, c3, rfl, hR3, hb3, hcap3⟩
  rw [Hl.out]
  have kp3 := kp2.ext hb3
  have kq3 := kq2.ext hb3
  replace hc := kp3.cell
  replace hcr := kq3.cell
  have hlp3 := kp3.lt
  have hlq3 := kq3.lt
  have hE3 := hE2.trans hb3
  have hrd3 := hrd2.ext hb3
  clear hcap3 hrd2 kp2 kq2
  have hsrc := HL.out.srcT HJ.out
  obtain ⟨b3, o3, rfl, hb3l, _⟩ := hR3.int (k := 0) (by have := Hl.out; omega)
  have hN := Near.refl w3
  go_wp2_with fail
  have hq := quiet_near hN
  refine wp_region_quiet_below (by kernel_rfl) (by kernel_rfl) ?_
  repeat (first | go_big_quiet_skip | (go_big_quiet_want; go_big_quiet_op; first | go_big_quiet_on | (apply Exists.intro; refine ⟨fun _ => ?_, ?_⟩; (focus (first | fail)); go_big_quiet_on)))
  refine wpQuiet_nil ?_
  intro w1 hw1
  clear hq
  replace hw1 := quiet_ext hw1
  replace hN := hN.step hw1
  have hC := hN.2
  obtain ⟨w4, rfl⟩ : ∃ x, x = w1 := ⟨_, rfl⟩
  have hR4 := hR3.ext hN.1
  have kp4 := kp3.ext hN.1
  have kq4 := kq3.ext hN.1
  have hE4 := hE3.trans hN.1
  have hrd4 := hrd3.ext hN.1
  have Hsrc := Lib.hid hsrc
  clear hC hc hcr hN hsrc
  go_wp2_with fail
  go_loopg [9, 10, 11, 62] picks.length (fun n u9 u10 u11 i wr => ∃ (j : Nat) (a now : Int) (L : List Hp), j + n = picks.length ∧ i = .int .i64 j ∧ u10 = .int .i64 a ∧ u11 = .int .i64 now ∧ L.length ≤ j ∧ 0 ≤ a ∧ a < p.quo.length ∧ 0 ≤ gi T a ∧ gi T a ≤ now ∧ now ≤ 1099511627776 ∧ Owns EHp wr w4.heap.size 53 u9 L ∧ Ext w4 wr)
  case atStart => exact ⟨0, q.src, q.ready, [], by omega, rfl, rfl, rfl, Nat.le_refl _, a1, a2, by rw [Hsrc.out]; exact a8, by rw [Hsrc.out]; exact Int.le_refl _, by omega, Owns.none_ _ _, Ext.refl _⟩
  case round =>
    obtain ⟨j, a, now, L, hjn, rfl, rfl, rfl, hLl, ha0, ha1, hta0, hta1, hnow, hu, hF⟩ := hrel
    have kpr := kp4.ext hF
    have kqr := kq4.ext hF
    have hcpr := kpr.cell
    have hcqr := kqr.cell
    have hlpr := kpr.lt
    have hlqr := kqr.lt
    have hEr := hE4.trans hF
    have Hjn := Lib.hid hjn
    have hjl : j ≤ picks.length := by omega
    clear hjn
    by_cases hlt : j < picks.length
    · obtain ⟨bp, op, rfl, hbp, hpc⟩ := (hp.ext hEr).u8 hlt
      obtain ⟨hn0, hn1'⟩ := hpm _ (List.getElem_mem hlt)
      generalize picks[j] = n at *
      by_cases hm0 : p.cons.length = 0
      · have hd1 : ((p.cons.length : Int) == 0) = true := by simpa using hm0
        clear hm0
        go_wp2_with fail
        refine (awake_any _).mono ?_
        rintro e w5 ⟨rfl, hb5⟩
        go_wp2
        go_ret
        exact ⟨rfl, hEr.trans hb5⟩
      have hd1 : ((p.cons.length : Int) == 0) = false := by simpa using hm0
      have hm1 : 1 ≤ p.cons.length := by omega
      clear hm0
      obtain ⟨k, hk⟩ : ∃ k : Nat, n % (p.cons.length : Int) = k := ⟨(n % (p.cons.length : Int)).toNat, by have := Int.emod_nonneg n (show (p.cons.length : Int) ≠ 0 by omega); omega⟩
      have hkl : k < p.cons.length := by have := Int.emod_lt_of_pos n (show (0 : Int) < p.cons.length by omega); omega
      obtain ⟨b, o, rfl, hb, c0, c1, c2, c3, c4, c5, c6⟩ := (hrd4.c.ext hF).con hkl
      have hyc := hok.con _ (List.getElem_mem hkl)
      have hmem := List.getElem_mem hkl
      have hgc := gc_get (cons := p.cons) (i := (k : Int)) hkl
      simp only [Int.toNat_natCast] at hgc
      generalize p.cons[k] = c at *
      have Hmem := Lib.hid hmem
      have Hgc := Lib.hid hgc
      clear hmem hgc
      have hs0 := hyc.1.src0
      have hs1 := hyc.2.1
      have hd0 := hyc.1.dst0
      have hd1' := hyc.2.2
      have hok2 := hyc.1
      obtain ⟨W7, hW7, hB7, hk7, hl7⟩ := box1 wr c.cells 36
      simp only [Con.cells] at hW7 hk7
      have hck := hk7.cell
      have hlk := hk7.lt
      have kp7 := kpr.ext hB7
      have kq7 := kqr.ext hB7
      have hcp7 := kp7.cell
      have hcq7 := kq7.cell
      have hlp7 := kp7.lt
      have hlq7 := kq7.lt
      obtain ⟨s, hs⟩ : ∃ s, now + (j : Int) % 3 = s := ⟨_, rfl⟩
      have hnow0 : 0 ≤ now := by omega
      have hsb0 : now ≤ s := by omega
      have hsb1 : s ≤ now + 2 := by omega
      have hbg := fun w => Begin_any c (now + (j : Int) % 3) q.size w
      unfold Con.val at hbg
      by_cases hsa : c.src = a
      case neg =>
        have hd2 : (c.src != a) = true := by simpa using hsa
        clear hsa hs
        go_wp2_with fail
        refine (hbg _).mono ?_
        clear hbg
        rintro e w8 ⟨rfl, hb8⟩
        have kc8 := hk7.ext hb8
        have hck8 := kc8.cell
        go_wp2
        go_roundg (gk - 1)
        case measure => have := Hjn.out; omega
        case rel => exact ⟨j + 1, a, now, L, by have := Hjn.out; omega, by go_num, rfl, rfl, by omega, ha0, ha1, hta0, hta1, hnow, (hu.ext hB7).ext hb8, (hF.trans hB7).trans hb8⟩
      subst hsa
      by_cases he : earr c s q.size = -1
      · have hd2 : (c.src != c.src) = false := by simp
        have hbn := begin_no hok2 ⟨a6, a7⟩ he
        rw [← hs] at hbn
        simp only [hbn.1, hbn.2] at hbg
        clear hs he hbn
        go_wp2_with fail
        refine (hbg _).mono ?_
        clear hbg
        rintro e w8 ⟨rfl, hb8⟩
        have kc8 := hk7.ext hb8
        have hck8 := kc8.cell
        go_wp2
        go_roundg (gk - 1)
        case measure => have := Hjn.out; omega
        case rel => exact ⟨j + 1, c.src, now, L, by have := Hjn.out; omega, by go_num, rfl, rfl, by omega, ha0, ha1, hta0, hta1, hnow, (hu.ext hB7).ext hb8, (hF.trans hB7).trans hb8⟩
      have hbn := begin_ok hok2 ⟨a6, a7⟩ he
      have hbn2 := hbn
      rw [← hs] at hbn2
      simp only [hbn2.1, hbn2.2.1] at hbg
      have har := fun w => Arrival_any c (c.beg (now + (j : Int) % 3)) q.size w
      simp only [hbn2.2.2.1, hbn2.2.2.2] at har
      unfold Con.val at har
      have hedge := least_step HJ.out HL.out Hmem.out hta0 hta1 hsb0 he
      have hcs := (earr_cases (t := s) hok2 ⟨a6, a7⟩).resolve_left (fun h => he h.1)
      obtain ⟨hed0, hed1⟩ := hedge
      obtain ⟨g1, g2, g3, g4, g5, g6⟩ := hcs
      have dbd := Con.dur_bd hok2 a6 a7
      have hbge := beg_ge c s
      obtain ⟨av, hav⟩ : ∃ av, earr c s q.size = av := ⟨_, rfl⟩
      rw [hs, hav] at har
      rw [hs] at hbg
      rw [hav] at hed1 g3 g4 g5 g6
      obtain ⟨bv, hbv⟩ : ∃ bv, c.beg s = bv := ⟨_, rfl⟩
      rw [hbv] at hbg har g3 hbge
      have hrg0 := hok2.rng0
      have hrg1 := hok2.rng1
      have hav1 : 0 ≤ av - c.rng := by omega
      have hav2 : av - c.rng ≤ 1099511627776 := by omega
      have hav0 : 0 ≤ av := by omega
      rw [← hs] at hbg
      clear hs he hbn hbn2 g1 g2 g3 g4 g5 hav hbv dbd
      go_wp2_with fail
      refine (hbg _).mono ?_
      clear hbg
      rintro e w8 ⟨rfl, hb8⟩
      have kc8 := hk7.ext hb8
      have kq8 := kq7.ext hb8
      have kp8 := kp7.ext hb8
      have hck8 := kc8.cell
      have hcq8 := kq8.cell
      have hcp8 := kp8.cell
      clear hck hcq7 hcp7
      go_wp2_with fail
      refine (har _).mono ?_
      clear har
      rintro e w9 ⟨rfl, hb9⟩
      have kc9 := kc8.ext hb9
      have kq9 := kq8.ext hb9
      have kp9 := kp8.ext hb9
      have hck9 := kc9.cell
      have hcq9 := kq9.cell
      have hcp9 := kp9.cell
      clear hck8 hcq8 hcp8
      have hx9 := (hB7.trans hb8).trans hb9
      have hu9 := hu.ext hx9
      have hF9 := hF.trans hx9
      have hs9 := hF9.size
      have hsr := hF.size
      go_wp2_with (at_builtin; refine wpList_push rfl (.tmp 111) (.tmp 120) _ (by rfl) w4.heap.size 53 i0 _ 32 Try.underlying43 hi0 hz0 hz1 hz2 (by rfl) u9 (by rfl) (hu9.ext ((Ext.refl _).alloc _)) w9.heap.size ⟨k, bv, av - c.rng, av⟩ (by rfl) (Blk.new w9 _ _) (by simp only [maxLen]; omega) (by omega) (by simp; omega) ?_; intro v11 w11 hv11 hg11 hat11; have hx11 := ext_grown (hF9.alloc _) (hu9.ext ((Ext.refl _).alloc _)) (Nat.le_refl _) hg11; have kc11 := Blk.kept (kc9.ext ((Ext.refl _).alloc _)) hg11 (fun e' => by have := (hu.block e'.symm).2; omega); have hck11 := kc11.cell; have hlc11 := kc11.lt; have kp11 := kp4.ext hx11; have kq11 := kq4.ext hx11; have hcp11 := kp11.cell; have hcq11 := kq11.cell; obtain ⟨htd, hb3w⟩ := (hR4.ext hx11).gi (i := c.dst) (by have := Hl.out; omega); obtain ⟨A11, d11, rfl, hR11⟩ := hv11.form)
      have hjc := jCheck_any Aq cq (some ⟨b, o, none⟩) cc p q A11 d11 (L ++ [⟨k, bv, av - c.rng, av⟩]) w11 (hrd4.ext hx11) hR11 (by simp; omega)
      rw [List.length_append, List.length_singleton] at hjc
      unfold Pln.val Req.val at hjc
      have hlast := fun h => jchk_last (p := p) (q := q) (l := L) (x := ⟨k, bv, av - c.rng, av⟩) h
      simp only [Hgc.out] at hlast
      obtain ⟨X, hX⟩ : ∃ X, p.jchk q (L ++ [⟨k, bv, av - c.rng, av⟩]) = X := ⟨_, rfl⟩
      rw [hX] at hjc hlast
      clear hX hck9 hcq9 hcp9
      by_cases hx0 : X = 0
      case' pos =>
        obtain ⟨hl1, hl2⟩ := hlast hx0
        subst hx0
        have hdq : (c.dst != q.dst) = false := by simpa using hl1
        have hdl : decide (q.dead < av) = false := decide_eq_false (by omega)
        have Hl1 := Lib.hid hl1
        clear hl1 hlast
      case' neg =>
        have hdx : (X == 0) = false := by simpa using hx0
        clear hx0 hlast
      all_goals
        refine hjc.mono ?_
        clear hjc
        rintro e w12 ⟨rfl, hb12⟩
        have kp12 := kp11.ext hb12
        have kq12 := kq11.ext hb12
        have hcp12 := kp12.cell
        have hcq12 := kq12.cell
        go_wp2
        go_roundg (gk - 1)
        case measure => have := Hjn.out; omega
        case rel => exact ⟨j + 1, c.dst, av, L ++ [⟨k, bv, av - c.rng, av⟩], by have := Hjn.out; omega, by go_num, rfl, rfl, by rw [List.length_append, List.length_singleton]; omega, hd0, hd1', hed0, hed1, g6, by rw [List.length_append, List.length_singleton] at *; exact hv11.ext hb12, hx11.trans hb12⟩
    · go_wp2_with fail
      refine (awake_any _).mono ?_
      rintro e w5 ⟨rfl, hb5⟩
      go_wp2
      go_ret
      exact ⟨rfl, hEr.trans hb5⟩

end Go.Proofs.Ytgmfnhianhngiaa
