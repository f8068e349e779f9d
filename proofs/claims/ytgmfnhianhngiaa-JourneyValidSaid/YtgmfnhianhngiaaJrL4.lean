/- Layer 24 (journey): the walk of JourneyValid. -/
import Derived.Test.YtgmfnhianhngiaaJrL1
import Derived.Test.YtgmfnhianhngiaaJrC1
namespace Go.Proofs.Ytgmfnhianhngiaa
set_option linter.unusedVariables false
set_option linter.unusedSimpArgs false
open Go.RowKit Go.Shelf

theorem fineQ_of {p : Pln} {q : Req} (h : fineQ p q = true) : p.chk = 0 ∧ q.okB p.quo.length = true := by
  simpa [fineQ] using h

set_option maxRecDepth 100000 in
set_option maxHeartbeats 4000000 in
theorem valid_walk (Aq : Option Addr) (cq : Nat) (Ac : Option Addr) (cc : Nat) (p : Pln) (q : Req) (w : World) (h : PlnIn w Aq cq Ac cc p) :
    Calls Try.prog 8 #[p.val Aq cq Ac cc, q.val] w fun e w' => e = .returned (.bool true) ∧ Ext w w' := by
  obtain ⟨W, hW, hB, hk, hkr, hlt, hltr⟩ := box2 w #[.slice Aq p.quo.length cq, .slice Ac p.cons.length cc] q.cells 25 34
  simp only [Req.cells] at hW hkr
  have hc := hk.cell
  have hcr := hkr.cell
  have hIn : PlnIn W Aq cq Ac cc p := ⟨h.q.ext hB, h.c.ext hB, h.qc, h.ck, h.qm, h.cm⟩
  have hgr := great24_any Aq cq Ac cc p W hIn.le.1 hIn.le.2
  cases hg : p.gr24
  case' true =>
    rw [hg] at hgr
    unfold Pln.val at hgr ⊢
    unfold Req.val
    go_enter Try.func8, Try.ntmps8
    go_wp2_with fail
    clear hW
    refine hgr.mono ?_
    clear hgr
    rintro e w1 ⟨rfl, hb1⟩
    go_wp2_with fail
    refine (awake_any _).mono ?_
    rintro e w2 ⟨rfl, hb2⟩
    go_wp2
    go_ret
    exact ⟨rfl, (hB.trans hb1).trans hb2⟩
  rw [hg] at hgr
  have hrd := hIn.rd hg
  have hcq := fun w h => rCheckRequest_any Aq cq Ac cc p q w h
  cases hf : fineQ p q
  case' false =>
    rw [hf] at hcq
    unfold Pln.val at hgr hcq ⊢
    unfold Req.val at hcq ⊢
    go_enter Try.func8, Try.ntmps8
    go_wp2_with fail
    clear hW
    refine hgr.mono ?_
    clear hgr
    rintro e w1 ⟨rfl, hb1⟩
    have hk1 := hk.ext hb1
    have hkr1 := hkr.ext hb1
    replace hc := hk1.cell
    replace hcr := hkr1.cell
    go_wp2_with fail
    refine (hcq _ (hrd.ext hb1)).mono ?_
    clear hcq
    rintro e w2 ⟨rfl, hb2⟩
    go_wp2_with fail
    refine (awake_any _).mono ?_
    rintro e w3 ⟨rfl, hb3⟩
    go_wp2
    go_ret
    exact ⟨rfl, (hB.trans hb1).trans (hb2.trans hb3)⟩
  rw [hf] at hcq
  obtain ⟨f2, f3⟩ := fineQ_of hf
  have hok := Pln.ok_of f2
  have J := Req.jc hok f3
  have hL := Pln.arrQ_least hok f3
  have hn1 := hok.n1
  have hn16 := hok.n16
  have hm64 := hok.m64
  have f3' := f3
  simp only [Req.okB, decide_eq_true_eq] at f3'
  obtain ⟨a1, a2, a3, a4, a5, a6, a7, a8, a9, a10, a11, a12⟩ := f3'
  have F2 := Lib.hid f2
  have F3 := Lib.hid f3
  have A5 := Lib.hid a5
  clear f2 f3 hf hg a5
  unfold Pln.val at hgr hcq ⊢
  unfold Req.val at hcq ⊢
  go_enter Try.func8, Try.ntmps8
  go_wp2_with fail
  clear hW
  refine hgr.mono ?_
  clear hgr
  rintro e w1 ⟨rfl, hb1⟩
  have hk1 := hk.ext hb1
  have hkr1 := hkr.ext hb1
  replace hc := hk1.cell
  replace hcr := hkr1.cell
  go_wp2_with fail
  refine (hcq _ (hrd.ext hb1)).mono ?_
  clear hcq
  rintro e w2 ⟨rfl, hb2⟩
  have kp2 := hk1.ext hb2
  have kq2 := hkr1.ext hb2
  replace hc := kp2.cell
  replace hcr := kq2.cell
  have hE2 := (hB.trans hb1).trans hb2
  have hrd2 := (hrd.ext hb1).ext hb2
  clear hk1 hkr1 hk hkr hb1 hb2 hIn hrd
  have h3 := Foremost_any Aq cq Ac cc p q.src q.ready q.size w2 hrd2
  have fe1 : p.forE q.src q.ready q.size = 0 := by unfold Pln.forE; rw [if_pos F2.out, Req.argF F3.out]; rfl
  have ft1 : p.forT q.src q.ready q.size = p.arrQ q := by unfold Pln.forT; rw [if_pos fe1]; rfl
  rw [ft1, fe1] at h3
  obtain ⟨T, hT⟩ : ∃ T, p.arrQ q = T := ⟨_, rfl⟩
  rw [hT] at h3 hL
  have HT := Lib.hid hT
  have Hl := Lib.hid hL.len
  have HL := Lib.hid hL
  have HJ := Lib.hid J
  unfold Pln.val at h3
  clear hT ft1 fe1 hL J
  go_wp2_with fail
  refine h3.mono ?_
  clear h3
  rintro e w3 ⟨A3, c3, rfl, hR3, hb3, hcap3⟩
  rw [Hl.out]
  have kp3 := kp2.ext hb3
  have kq3 := kq2.ext hb3
  replace hc := kp3.cell
  replace hcr := kq3.cell
  have hlp3 := kp3.lt
  have hlq3 := kq3.lt
  have hE3 := hE2.trans hb3
  have hrd3 := hrd2.ext hb3
  clear hcap3 hrd2 kp2 kq2
  obtain ⟨b3, o3, rfl, hb3l, _⟩ := hR3.int (k := 0) (by have := Hl.out; omega)
  have h4 := JFind_any Aq cq Ac cc p q w3 hrd3
  unfold Pln.val Req.val at h4
  go_wp2_with fail
  refine h4.mono ?_
  clear h4
  rintro e w4 ⟨l4, k4, ⟨A4, c4, rfl, hR4, hb4, hcap4⟩, hl4, hj4⟩
  have kp4 := kp3.ext hb4
  have kq4 := kq3.ext hb4
  replace hc := kp4.cell
  replace hcr := kq4.cell
  have h5 := JFewest_any Aq cq Ac cc p q w4 (hrd3.ext hb4)
  unfold Pln.val Req.val at h5
  go_wp2_with fail
  refine h5.mono ?_
  clear h5
  rintro e w5 ⟨l5, k5, ⟨A5', c5, rfl, hR5, hb5, hcap5⟩, hl5, hj5⟩
  have kp5 := kp4.ext hb5
  have kq5 := kq4.ext hb5
  replace hc := kp5.cell
  replace hcr := kq5.cell
  have hlp5 := kp5.lt
  have hlq5 := kq5.lt
  have hE5 := (hE3.trans hb4).trans hb5
  have hrd5 := (hrd3.ext hb4).ext hb5
  have g4 := hj4.chk F2.out F3.out
  have g5 := hj5.chk F2.out F3.out
  rw [HT.out] at g4 g5
  obtain ⟨htd, hb3w⟩ := ((hR3.ext hb4).ext hb5).gi (i := q.dst) (by have := Hl.out; omega)
  replace hR4 := hR4.ext hb5
  clear hj4 hj5 hlp3 hlq3 hb3l
  cases hi : inT q T
  · rw [hi] at g4 g5
    rw [if_neg Bool.false_ne_true] at g4 g5
    obtain ⟨rfl, rfl⟩ := g4
    obtain ⟨rfl, rfl⟩ := g5
    simp only [inT, decide_eq_false_iff_not] at hi
    by_cases hd0 : gi T q.dst < 0
    all_goals
      first
        | (have hdd : decide (gi T q.dst < 0) = true := decide_eq_true hd0)
        | (have hdd : decide (gi T q.dst < 0) = false := decide_eq_false hd0)
      try (have hd2 : decide (q.dead < gi T q.dst) = true := decide_eq_true (by omega))
      have hN := Near.refl w5
      clear hi hd0
      go_wp2_with fail
      have hq := quiet_near hN
      refine wp_region_quiet_below (by kernel_rfl) (by kernel_rfl) ?_
      repeat (first | go_big_quiet_skip | (go_big_quiet_want; go_big_quiet_op; first | go_big_quiet_on | (apply Exists.intro; refine ⟨fun _ => ?_, ?_⟩; (focus (first | fail)); go_big_quiet_on)))
      refine wpQuiet_nil ?_
      intro w1 hw1
      clear hq
      replace hw1 := quiet_ext hw1
      replace hN := hN.step hw1
      have hC := hN.2
      go_wp2_with fail
      refine (awake_any _).mono ?_
      rintro e w6 ⟨rfl, hb6⟩
      go_wp2
      go_ret
      exact ⟨rfl, hE5.trans (hN.1.trans hb6)⟩
  · rw [hi] at g4 g5
    rw [if_pos rfl] at g4 g5
    obtain ⟨rfl, g41, pre, x, rfl, g42⟩ := g4
    obtain ⟨rfl, g51, _, _, _⟩ := g5
    simp only [inT, decide_eq_true_eq] at hi
    have hdd : decide (gi T q.dst < 0) = false := decide_eq_false (by omega)
    have hd2 : decide (q.dead < gi T q.dst) = false := decide_eq_false (by omega)
    have hck1 : ∀ w', Ext w5 w' → Calls Try.prog 25 #[p.val Aq cq Ac cc, q.val, .slice A4 (pre.length + 1) c4] w' fun e w'' => e = .returned (.int .i64 0) ∧ Ext w' w'' := fun w' hw' => by
      have := jCheck_any Aq cq Ac cc p q A4 c4 (pre ++ [x]) w' (hrd5.ext hw') (hR4.ext hw') hl4
      rw [g41, List.length_append] at this
      exact this
    have hck2 : ∀ w', Ext w5 w' → Calls Try.prog 25 #[p.val Aq cq Ac cc, q.val, .slice A5' l5.length c5] w' fun e w'' => e = .returned (.int .i64 0) ∧ Ext w' w'' := fun w' hw' => by
      have := jCheck_any Aq cq Ac cc p q A5' c5 l5 w' (hrd5.ext hw') (hR5.ext hw') (by omega)
      rw [g51] at this
      exact this
    obtain ⟨b4, o4, hA4, hb4l, x0, x1, x2, x3⟩ := hR4.hp (k := pre.length) (by simp)
    subst hA4
    simp only [List.getElem_append_right (Nat.le_refl _), Nat.sub_self, List.getElem_cons_zero] at x0 x1 x2 x3
    rw [g42] at x3
    have hpl : pre.length ≤ 1099511627776 := by rw [List.length_append] at hl4; omega
    have hwj : IntKind.i64.wrap (pre.length : Int) = (pre.length : Int) := IntWalk.i64_in _ (by omega)
    rw [List.length_append, List.length_singleton]
    obtain ⟨K, hK⟩ : ∃ K, pre.length = K := ⟨_, rfl⟩
    rw [hK] at hck1 x0 x1 x2 x3 hpl hwj ⊢
    unfold Pln.val Req.val at hck1 hck2
    clear hi g41 g51 g42 hK hl4 hR4 hR5 hcap4 hcap5 x0 x1 x2
    have hN := Near.refl w5
    go_wp2_with fail
    have hq := quiet_near hN
    refine wp_region_quiet_below (by kernel_rfl) (by kernel_rfl) ?_
    repeat (first | go_big_quiet_skip | (go_big_quiet_want; go_big_quiet_op; first | go_big_quiet_on | (apply Exists.intro; refine ⟨fun _ => ?_, ?_⟩; (focus (first | fail)); go_big_quiet_on)))
    refine wpQuiet_nil ?_
    intro w1 hw1
    clear hq
    replace hw1 := quiet_ext hw1
    replace hN := hN.step hw1
    have hC := hN.2
    go_wp2_with fail
    have hckA := fun d os => hck1 (Sort.grow (redrawn w1 d) os) (hN.1.trans (below_regrown w1 d os))
    have hckB := fun d os => hck2 (Sort.grow (redrawn w1 d) os) (hN.1.trans (below_regrown w1 d os))
    have hq := quiet_near hN
    refine wp_region_quiet_below (by kernel_rfl) (by kernel_rfl) ?_
    repeat (first | go_big_quiet_skip | (go_big_quiet_want; go_big_quiet_op; first | go_big_quiet_on | (apply Exists.intro; refine ⟨fun _ => ?_, ?_⟩; (focus (first | (go_at_call 25; with_reducible exact Calls.regrown_of (hckA _ _)) | (go_at_call 25; with_reducible exact Calls.regrown_of (hckB _ _)) | (go_at_call 11; exact Calls.regrown_of (awake_any _)))); go_big_quiet_on)))
    refine wpQuiet_nil ?_
    intro w1 hw1
    clear hq
    replace hw1 := quiet_ext hw1
    replace hN := hN.step hw1
    have hC := hN.2
    go_wp2
    go_ret
    exact ⟨rfl, hE5.trans hN.1⟩

end Go.Proofs.Ytgmfnhianhngiaa
