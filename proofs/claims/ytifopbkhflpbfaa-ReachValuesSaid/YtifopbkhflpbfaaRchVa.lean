
/- Layer 26 (reach): the walk of ReachValues. -/
import Derived.Test.YtifopbkhflpbfaaRchHb
namespace Go.Proofs.Ytifopbkhflpbfaa
set_option linter.unusedVariables false
set_option linter.unusedSimpArgs false
open Go.RowKit Go.Shelf
attribute [local go_sem] Oper.semAt_some

def LevUp (f : List Lev) : Prop := ∀ (j : Nat) (h : j < f.length), (f[j].val = 0 ∧ j + 1 = f.length) ∨ (0 < f[j].val ∧ ∀ (hj : 0 < j), (f[j - 1]'(by omega)).val < f[j].val)
theorem Chn.levUp {p : Pln} {src dst n : Int} (h : PA p src dst n) {l : List Stp} {t : Int} (hc : Chn p src dst n l t) : LevUp (lvl l t) := by
  intro j hj
  by_cases hn : l = []
  · subst hn
    simp [lvl] at hj
  have hlen := lvl_len (t := t) hn
  by_cases e : j < l.length
  · right
    have hv := hc.vals h l[j] (List.getElem_mem e)
    obtain ⟨a1, a2, a3, a4, a5, _⟩ := hv
    refine ⟨by rw [lvl_at hn e hj]; dsimp only; omega, fun h0 => ?_⟩
    have hr := hc.rise h (List.getElem?_eq_getElem (show j - 1 < l.length by omega)) (List.getElem?_eq_getElem e) (by omega)
    rw [lvl_at hn e hj, lvl_at hn (show j - 1 < l.length by omega) (by omega)]
    exact hr.2
  · left
    have e2 : j = l.length := by omega
    subst e2
    rw [lvl_last hn hj]
    exact ⟨rfl, by omega⟩

set_option maxRecDepth 100000 in
set_option maxHeartbeats 4000000 in
theorem values_walk (Aq : Option Addr) (cq : Nat) (Ac : Option Addr) (cc : Nat) (p : Pln) (src dst n t : Int) (w : World) (h : PlnIn w Aq cq Ac cc p) :
    Calls Try.prog 4 #[p.val Aq cq Ac cc, .int .i64 src, .int .i64 dst, .int .i64 n, .int .i64 t] w fun e w' => e = .returned (.bool true) ∧ Ext w w' := by
  obtain ⟨W0, hW0, hB0, hk0, hlt0⟩ := box1 w #[.slice Aq p.quo.length cq, .slice Ac p.cons.length cc] 25
  obtain ⟨W, hW, hB1, hk1, hlt1⟩ := box1 W0 #[.int .i64 src, .int .i64 dst] 3
  have hB := hB0.trans hB1
  have hk := hk0.ext hB1
  have hc := hk0.cell
  have hlt := hk.lt
  have hfi : Calls Try.prog 17 #[p.val Aq cq Ac cc, .int .i64 n, .slice (some ⟨W0.heap.size, 0, none⟩) 2 2] W fun e w' => e = .returned (.bool (p.fine26 n [src, dst])) ∧ Ext W w' :=
    lfine_any Aq cq Ac cc p n (some ⟨W0.heap.size, 0, none⟩) 2 [src, dst] W (h.ext hB) (rd_blk hk1) (by simp)
  cases hf : p.fine26 n [src, dst]
  case' false =>
    rw [hf] at hfi
    clear hf
    unfold Pln.val at hfi ⊢
    go_enter Try.func4, Try.ntmps4
    go_wp2_with fail
    clear hW hW0
    refine hfi.mono ?_
    rintro e w1 ⟨rfl, hb1⟩
    go_wp2_with fail
    refine (awake_any _).mono ?_
    rintro e w2 ⟨rfl, hb2⟩
    go_wp2
    go_ret
    exact ⟨rfl, (hB.trans hb1).trans hb2⟩
  rw [hf] at hfi
  obtain ⟨f1, f2, f3, f4⟩ := Pln.fine26_ok hf
  have hrd := (h.rd26 f1).ext hB
  have hqm := hrd.qm
  clear hf f1
  by_cases hw : src ≠ dst ∧ 0 ≤ t ∧ t ≤ 1099511627776
  case' neg =>
    have hw2 : src = dst ∨ (src ≠ dst ∧ t < 0) ∨ (src ≠ dst ∧ 0 ≤ t ∧ 1099511627776 < t) := by omega
    clear f2 f3 f4 hw
    unfold Pln.val at hfi ⊢
    rcases hw2 with hw | ⟨hw, hw2⟩ | ⟨hw, hw2, hw3⟩
    all_goals
      first
        | (have d1 : (src == dst) = true := by simpa using hw)
        | (have d1 : (src == dst) = false := by simpa using hw)
      clear hw
      go_enter Try.func4, Try.ntmps4
      go_wp2_with fail
      clear hW hW0
      refine hfi.mono ?_
      rintro e w1 ⟨rfl, hb1⟩
      go_wp2_with fail
      refine (awake_any _).mono ?_
      rintro e w2 ⟨rfl, hb2⟩
      go_wp2
      go_ret
      exact ⟨rfl, (hB.trans hb1).trans hb2⟩
  obtain ⟨hne, t0, t1⟩ := hw
  have d1 : (src == dst) = false := by simpa using hne
  have s0 := f4 src (by simp)
  have s1 := f4 dst (by simp)
  have hrv : p.rv n [src, dst] = 0 := by
    unfold Pln.rv
    have e1 : p.argR n [src, dst] = true := by simp only [Pln.argR, decide_eq_true_eq]; exact ⟨f3.1, f3.2, f4⟩
    simp only [f2, e1, if_true]
  have hPA := Pln.rv_pa hrv hne
  have hF := hPA.argF t0 t1
  have hfE : p.forE src t n = 0 := by unfold Pln.forE; rw [if_pos f2, hF]; rfl
  have hfT : p.forT src t n = p.arrs src t n := by unfold Pln.forT; rw [if_pos hfE]
  have hTl := (hPA.least t0 t1).len
  have hear : p.ear src dst n t = gi (p.arrs src t n) dst := rfl
  have h1 := fun w h => Profile_any Aq cq Ac cc p src dst n w h
  have h3 := fun w h => Foremost_any Aq cq Ac cc p src t n w h
  rw [hfE, hfT] at h3
  obtain ⟨T, hT⟩ : ∃ T, p.arrs src t n = T := ⟨_, rfl⟩
  rw [hT] at hTl hear h3
  have Hne := Lib.hid hne
  have Hrv := Lib.hid hrv
  have HPA := Lib.hid hPA
  have Hear := Lib.hid hear
  have HT1 := Lib.hid hTl
  clear hT hfT hfE hF f2 f3 f4 hne hrv hPA hear hTl
  unfold Pln.val at hfi h1 h3 ⊢
  go_enter Try.func4, Try.ntmps4
  go_wp2_with fail
  clear hW hW0
  refine hfi.mono ?_
  clear hfi
  rintro e w1 ⟨rfl, hb1⟩
  have hkp1 := hk.ext hb1
  replace hc := hkp1.cell
  go_wp2_with fail
  refine (h1 _ (hrd.ext hb1)).mono ?_
  clear h1
  rintro e w2 ⟨A2, c2, out, b, er, rfl, ho, hb2, hp⟩
  have hkp2 := hkp1.ext hb2
  replace hc := hkp2.cell
  unfold LevP at hp
  rw [if_pos Hrv.out, if_neg Hne.out] at hp
  rcases hp with ⟨rfl, rfl, -⟩ | ⟨rfl, l, t', hch, hst, hl, rfl, -⟩
  · go_wp2_with fail
    refine (awake_any _).mono ?_
    rintro e w3 ⟨rfl, hb3⟩
    go_wp2
    go_ret
    exact ⟨rfl, ((hB.trans hb1).trans hb2).trans hb3⟩
  have hok := hch.levOk HPA.out hl
  have hup := Lib.hid (hch.levUp HPA.out)
  have hval := Lib.hid (fun i hi => (hch.value HPA.out hst hl t0 t1 (i := i) hi).trans (by rw [Hear.out] : max (p.ear src dst n t) 0 = max (gi T dst) 0))
  have hfl := hok.len
  obtain ⟨f, hfe⟩ : ∃ f, lvl l t' = f := ⟨_, rfl⟩
  rw [hfe] at hok hup hval ho hfl ⊢
  clear hfe hch hst hl
  have hFC := fun w1 (hx : Ext w2 w1) => fcheck_any A2 c2 f w1 (ho.rd.ext hx) hok
  have hAt : ∀ w1, Ext w2 w1 → Calls Try.prog 21 #[.slice A2 f.length c2, .int .i64 t] w1 fun e w' => e = .returned (.int .i64 (max (gi T dst) 0)) ∧ Ext w1 w' := fun w1 hx => by
    refine (fat_any A2 c2 f t w1 (ho.rd.ext hx) hok ⟨t0, t1⟩).mono ?_
    rintro e w' ⟨i, hi, rfl, hx2⟩
    rw [hval.out i hi]
    exact ⟨rfl, hx2⟩
  go_wp2_with fail
  refine (h3 _ ((hrd.ext hb1).ext hb2)).mono ?_
  clear h3
  rintro e w3 ⟨A3, c3, rfl, hR3, hb3, _⟩
  rw [HT1.out]
  obtain ⟨bm, om, rfl, hbm, hcm⟩ := hR3.int (k := dst.toNat) (by rw [HT1.out]; omega)
  rw [← gi_of s1.1 (by rw [HT1.out]; omega)] at hcm
  generalize gi T dst = y at *
  have ey : max y 0 = if y < 0 then 0 else y := by split <;> omega
  have dz : ((if y < 0 then 0 else y) != (if y < 0 then 0 else y)) = false := by simp
  rw [ey] at hAt
  clear ey hval
  have hE3 := (hB.trans hb1).trans (hb2.trans hb3)
  have hkp3 := hkp2.ext hb3
  replace hc := hkp3.cell
  have d2 : decide ((p.quo.length : Int) ≤ dst) = false := decide_eq_false (by omega)
  have hN := Near.refl w3
  go_wp2_with fail
  have hFA := fun d os => hFC (Sort.grow (redrawn w3 d) os) (hb3.trans (below_regrown w3 d os))
  have hFB := fun d os => hAt (Sort.grow (redrawn w3 d) os) (hb3.trans (below_regrown w3 d os))
  have hq := quiet_near hN
  refine wp_region_quiet_below (by kernel_rfl) (by kernel_rfl) ?_
  repeat (first | go_big_quiet_skip | (go_big_quiet_want; go_big_quiet_op; first | go_big_quiet_on | (apply Exists.intro; refine ⟨fun _ => ?_, ?_⟩; (focus (first | (go_at_call 20; with_reducible exact Calls.regrown_of (hFA _ _)) | (go_at_call 21; with_reducible exact Calls.regrown_of (hFB _ _)))); go_big_quiet_on)))
  refine wpQuiet_nil ?_
  intro w1 hw1
  clear hq
  replace hw1 := quiet_ext hw1
  replace hN := hN.step hw1
  have hC := hN.2
  have hcb := hN.1
  have hbf := hb3.trans hcb
  have hE4 := hE3.trans hcb
  clear hC hN hFA hFB hAt hFC hc hcm hbm d1 d2
  go_wp2_with fail
  all_goals
    go_loopg [87] f.length (fun q k wr => ∃ (j : Nat), j + q = f.length ∧ k = .int .i64 j ∧ Ext w1 wr)
    case atStart => exact ⟨0, by omega, rfl, Ext.refl _⟩
    case round =>
      obtain ⟨j, hjq, rfl, hx⟩ := hrel
      have Hjq := Lib.hid hjq
      have hjN : j ≤ f.length := by omega
      clear hjq
      by_cases hlt2 : j < f.length
      · have hu := hup.out j hlt2
        obtain ⟨b, o, rfl, hbl, c0, c1⟩ := (ho.rd.ext (hbf.trans hx)).lev hlt2
        have hprev := fun (m : Nat) (hm : m < f.length) => (ho.rd.ext (hbf.trans hx)).lev hm
        rcases hu with ⟨e0, e1⟩ | ⟨e0, e1⟩
        · generalize f[j] = x at *
          obtain ⟨xt, xv⟩ := x
          dsimp only at e0 c0 c1
          obtain ⟨W5, hW5, hB5, hk5, hl5⟩ := box1 wr #[.int .i64 xt, .int .i64 xv] 44
          have d3 : (xv == 0) = true := by simpa using e0
          have d4 : decide (0 < xv) = false := decide_eq_false (by omega)
          have hc5 := hk5.cell
          have d1 : ((j : Int) != (f.length : Int) - 1) = false := by
            have : (j : Int) = (f.length : Int) - 1 := by omega
            rw [this]; simp
          have hN := Near.refl W5
          clear hprev e1 e0
          go_wp2_with fail
          clear hW5
          have hq := quiet_near hN
          refine wp_region_quiet_below (by kernel_rfl) (by kernel_rfl) ?_
          repeat (first | go_big_quiet_skip | (go_big_quiet_want; go_big_quiet_op; first | go_big_quiet_on | (apply Exists.intro; refine ⟨fun _ => ?_, ?_⟩; (focus (first | fail)); go_big_quiet_on)))
          refine wpQuiet_nil ?_
          intro w1 hw1
          clear hq
          replace hw1 := quiet_ext hw1
          replace hN := hN.step hw1
          have hC := hN.2
          go_wp2_with fail
          go_roundg (gk - 1)
          case measure => have := Hjq.out; omega
          case rel => exact ⟨j + 1, by have := Hjq.out; omega, by go_num, (hx.trans hB5).trans hN.1⟩
        · cases j with
          | zero =>
            clear e1 hprev
            generalize f[0] = x at *
            obtain ⟨xt, xv⟩ := x
            dsimp only at e0 c0 c1
            simp only [Nat.zero_mul, Nat.add_zero] at c0 c1
            obtain ⟨W5, hW5, hB5, hk5, hl5⟩ := box1 wr #[.int .i64 xt, .int .i64 xv] 44
            have hc5 := hk5.cell
            have d1 : (xv == 0) = false := by simp; omega
            have d2 : decide (0 < xv) = true := decide_eq_true e0
            have hN := Near.refl W5
            clear e0
            go_wp2_with fail
            clear hW5
            have hq := quiet_near hN
            refine wp_region_quiet_below (by kernel_rfl) (by kernel_rfl) ?_
            repeat (first | go_big_quiet_skip | (go_big_quiet_want; go_big_quiet_op; first | go_big_quiet_on | (apply Exists.intro; refine ⟨fun _ => ?_, ?_⟩; (focus (first | fail)); go_big_quiet_on)))
            refine wpQuiet_nil ?_
            intro w1 hw1
            clear hq
            replace hw1 := quiet_ext hw1
            replace hN := hN.step hw1
            have hC := hN.2
            go_wp2_with fail
            go_roundg (gk - 1)
            case measure => have := Hjq.out; omega
            case rel => exact ⟨0 + 1, by have := Hjq.out; omega, by go_num, (hx.trans hB5).trans hN.1⟩
          | succ m =>
            have e2 := e1 (by omega)
            have hm1 : m < f.length := by omega
            obtain ⟨b', o', hA, hbl', c2, c3⟩ := hprev m hm1
            injection hA with hA
            injection hA with hA hA2
            subst hA hA2
            simp only [Nat.add_sub_cancel] at e2
            clear e1 hprev c2
            generalize f[m + 1] = x at *
            generalize f[m] = y at *
            obtain ⟨xt, xv⟩ := x
            obtain ⟨yt, yv⟩ := y
            dsimp only at e0 c0 c1 c3 e2
            obtain ⟨W5, hW5, hB5, hk5, hl5⟩ := box1 wr #[.int .i64 xt, .int .i64 xv] 44
            have hc5 := hk5.cell
            have hb5 : b < W5.heap.size := Nat.lt_of_lt_of_le hbl hB5.size
            have c5 : W5.cell? ⟨b, o + m * 2 + 1, none⟩ = some (.int .i64 yv) := hB5.cell_some c3
            have d1 : (xv == 0) = false := by simp; omega
            have d2 : decide (0 < xv) = true := decide_eq_true e0
            have d3 : decide (xv ≤ yv) = false := decide_eq_false (by omega)
            have d4 : decide ((0 : Int) < (m : Int) + 1) = true := decide_eq_true (by omega)
            have hwj : IntKind.i64.wrap (m : Int) = (m : Int) := IntWalk.i64_in _ (by omega)
            have hN := Near.refl W5
            clear e0 e2
            go_wp2_with fail
            clear hW5
            have hq := quiet_near hN
            refine wp_region_quiet_below (by kernel_rfl) (by kernel_rfl) ?_
            repeat (first | go_big_quiet_skip | (go_big_quiet_want; go_big_quiet_op; first | go_big_quiet_on | (apply Exists.intro; refine ⟨fun _ => ?_, ?_⟩; (focus (first | fail)); go_big_quiet_on)))
            refine wpQuiet_nil ?_
            intro w1 hw1
            clear hq
            replace hw1 := quiet_ext hw1
            replace hN := hN.step hw1
            have hC := hN.2
            go_wp2_with fail
            go_roundg (gk - 1)
            case measure => have := Hjq.out; omega
            case rel => exact ⟨m + 1 + 1, by have := Hjq.out; omega, by go_num, (hx.trans hB5).trans hN.1⟩
      · have he : j = f.length := by omega
        subst he
        go_wp2_with fail
        refine (awake_any _).mono ?_
        rintro e w6 ⟨rfl, hb6⟩
        go_wp2
        go_ret
        exact ⟨rfl, (hE4.trans hx).trans hb6⟩

end Go.Proofs.Ytifopbkhflpbfaa
