/- TopMirror: the walk of the law. -/
import Derived.Test.YtmaengcmhopmbaaGreatTcP
import Derived.Test.YtmaengcmhopmbaaGreatTaW
import Derived.Test.YtmaengcmhopmbaaGreatJrW9
import Derived.Test.YtmaengcmhopmbaaGreatLatW7
namespace Go.Proofs.YtmaengcmhopmbaaGreat
set_option linter.unusedVariables false
set_option linter.unusedSimpArgs false
open Go.RowKit Go.Shelf
attribute [local go_sem] Oper.semAt_some

/-- What is known of a plan that came in. -/
structure PlnIn (w : World) (Aq : Option Addr) (cq : Nat) (Ac : Option Addr) (cc : Nat) (p : Pln) : Prop where
  q : Rd EInt w Aq p.quo
  c : Rd ECon w Ac p.cons
  qc : p.quo.length ≤ cq
  ck : p.cons.length ≤ cc
  qm : cq ≤ maxLen
  cm : cc ≤ maxLen
theorem PlnIn.rd {w : World} {Aq : Option Addr} {cq : Nat} {Ac : Option Addr} {cc : Nat} {p : Pln} (h : PlnIn w Aq cq Ac cc p) (hg : p.great = false) : PlnRd w Aq cq Ac cc p := by
  simp only [Pln.great, Bool.or_eq_false_iff, Bool.and_eq_false_iff, decide_eq_false_iff_not] at hg
  exact ⟨h.q, h.c, by omega, by omega, h.qc, h.ck⟩
theorem PlnIn.le {w : World} {Aq : Option Addr} {cq : Nat} {Ac : Option Addr} {cc : Nat} {p : Pln} (h : PlnIn w Aq cq Ac cc p) : p.quo.length ≤ 9223372036854775807 ∧ p.cons.length ≤ 9223372036854775807 := by
  have h1 := h.qc
  have h2 := h.ck
  have h3 := h.qm
  have h4 := h.cm
  unfold maxLen at h3 h4
  omega

/-- The value of a cut, in a world with all that was. -/
def BoolAt (W : World) (b : Bool) (x : Value) (w' : World) : Prop := x = .bool b ∧ Ext W w'

set_option maxRecDepth 100000 in
set_option maxHeartbeats 16000000 in
theorem topmirror_walk (Aq : Option Addr) (cq : Nat) (Ac : Option Addr) (cc : Nat) (p : Pln) (q : Req) (w : World) (h0 : PlnIn w Aq cq Ac cc p) :
    Calls Tryz.prog 3 #[p.val Aq cq Ac cc, q.val] w fun e w' => e = .returned (.bool true) ∧ Ext w w' := by
  obtain ⟨W, hW, hB, hk, hkr, hlt, hltr⟩ := box2 w #[.slice Aq p.quo.length cq, .slice Ac p.cons.length cc] q.cells 25 27
  have hkq := hkr
  simp only [Req.cells] at hW hkr
  have hc := hk.cell
  have hcr := hkr.cell
  have hIn : PlnIn W Aq cq Ac cc p := ⟨h0.q.ext hB, h0.c.ext hB, h0.qc, h0.ck, h0.qm, h0.cm⟩
  have hgr := great22_any Aq cq Ac cc p W hIn.le.1 hIn.le.2
  cases hg : p.great
  case' true =>
    rw [hg] at hgr
    unfold Pln.val at hgr ⊢
    unfold Req.val
    go_enter Tryz.func3, Tryz.ntmps3
    go_wp2_with fail
    clear hW
    refine hgr.mono ?_
    clear hgr
    rintro e w1 ⟨rfl, hb1⟩
    go_wp2_with fail
    refine (awakeM_any _).mono ?_
    rintro e w2 ⟨rfl, hb2⟩
    go_wp2
    go_ret
    exact ⟨rfl, (hB.trans hb1).trans hb2⟩
  rw [hg] at hgr
  have hrd := hIn.rd hg
  have hcq := fun w h => tCheckRequest_any Aq cq Ac cc p q w h
  unfold Pln.val at hgr hcq ⊢
  unfold Req.val at hcq ⊢
  go_enter Tryz.func3, Tryz.ntmps3
  go_wp2_with fail
  clear hW
  refine hgr.mono ?_
  clear hgr
  rintro e w1 ⟨rfl, hb1⟩
  have hk1 := hk.ext hb1
  have hkr1 := hkr.ext hb1
  replace hc := hk1.cell
  replace hcr := hkr1.cell
  have lc := hk1.lt
  have lcr := hkr1.lt
  go_wp2_with fail
  refine (hcq _ (hrd.ext hb1)).mono ?_
  clear hcq
  rintro e w2 ⟨k, rfl, hk0, hb2⟩
  by_cases hz : k = 0
  case neg =>
    have dz : (k != 0) = true := by simpa using hz
    clear hk0 hz
    go_wp2_with fail
    refine (awakeM_any _).mono ?_
    rintro e w3 ⟨rfl, hb3⟩
    go_wp2
    go_ret
    exact ⟨rfl, (hB.trans hb1).trans (hb2.trans hb3)⟩
  have hf := hk0.1 hz
  subst hz
  clear hk0
  obtain ⟨f2, f3⟩ := fineR_of hf
  have hok := Pln.ok_of f2
  obtain ⟨ma, _, mJ, mL, ms, md, mne, mn, mr0, mr1, mr2⟩ := mir_args f2 f3
  have mcan := mir_can f2 f3
  have hn16 := hok.n16
  have F2 := Lib.hid f2
  have F3 := Lib.hid f3
  have FR := Lib.hid hf
  have kp2 := hk1.ext hb2
  have kq2 := hkr1.ext hb2
  replace hc := kp2.cell
  replace hcr := kq2.cell
  have hE2 := (hB.trans hb1).trans hb2
  have hrd2 := (hrd.ext hb1).ext hb2
  have h3 := Foremost_any Aq cq Ac cc p q.src q.ready q.size w2 hrd2
  have fe1 : p.forE q.src q.ready q.size = 0 := by unfold Pln.forE; rw [if_pos F2.out, Req.argF F3.out]; rfl
  have ft1 : p.forT q.src q.ready q.size = p.arrQ q := by unfold Pln.forT; rw [if_pos fe1]; rfl
  have fe2 : p.latE q.dst q.dead q.size = 0 := by unfold Pln.latE; rw [if_pos F2.out, ma]; rfl
  have ft2 : p.latT q.dst q.dead q.size = p.fixT q := by unfold Pln.latT; rw [if_pos fe2]; rfl
  have h4 := fun w h => Latest_any Aq cq Ac cc p q.dst q.dead q.size w h
  rw [ft1, fe1] at h3
  rw [ft2, fe2] at h4
  have hTl : (p.arrQ q).length = p.quo.length := mL.len
  have hUl : (p.fixT q).length = p.quo.length := (Pln.times_inv hok ma).1.len
  have hall := fun (i : Int) hi hg hle => mir_all (i := i) f2 f3 hi hg hle
  obtain ⟨cb, hcb⟩ : ∃ cb, inT q (p.arrQ q) = cb := ⟨_, rfl⟩
  rw [hcb] at mcan
  have hin : decide (0 ≤ gi (p.arrQ q) q.dst ∧ gi (p.arrQ q) q.dst ≤ q.dead) = cb := hcb
  have HCB := Lib.hid hcb
  rw [hcb] at hall
  obtain ⟨T, hT⟩ : ∃ T, p.arrQ q = T := ⟨_, rfl⟩
  obtain ⟨U, hU⟩ : ∃ U, p.fixT q = U := ⟨_, rfl⟩
  rw [hT] at h3 hTl hall hin
  rw [hU] at h4 hUl hall mcan
  have HT := Lib.hid hT
  have HU := Lib.hid hU
  have Hall := Lib.hid hall
  have Hin := Lib.hid hin
  have Hcan := Lib.hid mcan
  have HTl := Lib.hid hTl
  have HUl := Lib.hid hUl
  have hT1 : q.dst.toNat < T.length := by omega
  have hU1 : q.src.toNat < U.length := by omega
  have ht1 := gi_of (m := T) (i := q.dst) md.1 hT1
  have hu1 := gi_of (m := U) (i := q.src) ms.1 hU1
  have Ht1 := Lib.hid ht1
  have Hu1 := Lib.hid hu1
  unfold Pln.val at h3 h4
  clear hf f2 f3 fe1 ft1 fe2 ft2 hT hU hall hin mcan hcb hTl hUl mL mJ ht1 hu1 hg mne
  go_wp2_with fail
  refine h3.mono ?_
  clear h3
  rintro e w3 ⟨A3, c3, rfl, hR3, hb3, hcap3⟩
  have kp3 := kp2.ext hb3
  have kq3 := kq2.ext hb3
  replace hc := kp3.cell
  replace hcr := kq3.cell
  have lp3 := kp3.lt
  have lq3 := kq3.lt
  go_wp2_with fail
  refine (h4 _ (hrd2.ext hb3)).mono ?_
  clear h4
  rintro e w4 ⟨A4, c4, rfl, hR4, hb4, hcap4⟩
  have hE4 := (hE2.trans hb3).trans hb4
  have hrd4 := (hrd2.ext hb3).ext hb4
  have kp4 := kp3.ext hb4
  have kq4 := kq3.ext hb4
  replace hc := kp4.cell
  replace hcr := kq4.cell
  have lp4 := kp4.lt
  have lq4 := kq4.lt
  have hR34 := hR3.ext hb4
  have dle : decide ((p.quo.length : Int) ≤ q.dst) = false := decide_eq_false (by omega)
  have hq20 : p.quo.length ≤ 16 := hn16
  clear hb1 hb2 hk1 hkr1 kp2 kq2 kp3 kq3 lc lcr lp3 lq3 hcap3 hcap4 hR3
  rw [HTl.out, HUl.out]
  go_wp2_with fail
  go_cut [9] from 68 to 83 (fun x wx => BoolAt w4 cb x wx)
  case first =>
    obtain ⟨bT, oT, rfl, hbT, cT⟩ := hR34.int hT1
    rw [← Ht1.out] at cT
    have hin := Hin.out
    generalize gi T q.dst = y at *
    have hN := Near.refl w4
    have hC := hN.2
    have m0 := md.1
    have m1 : q.dst < (p.quo.length : Int) := md.2
    by_cases y0 : 0 ≤ y
    · have d0 : decide (0 ≤ y) = true := decide_eq_true y0
      have e : decide (y ≤ q.dead) = cb := by rw [← hin]; simp [y0]
      clear y0 hin
      have hq := quiet_near hN
      refine wp_region_quiet_below (by kernel_rfl) (by kernel_rfl) ?_
      repeat (first | go_big_quiet_skip | (go_big_quiet_want; go_big_quiet_op; first | go_big_quiet_on | (apply Exists.intro; refine ⟨fun _ => ?_, ?_⟩; (focus (first | fail)); go_big_quiet_on)))
      refine wpQuiet_nil ?_
      intro w1 hw1
      clear hq
      replace hw1 := quiet_ext hw1
      replace hN := hN.step hw1
      have hC := hN.2
      go_wp2_with fail
      go_meet
      exact ⟨rfl, hN.1⟩
    · have d0 : decide (0 ≤ y) = false := decide_eq_false y0
      have e : cb = false := by rw [← hin]; simp [y0]
      have E := Lib.hid e
      clear y0 hin e
      have hq := quiet_near hN
      refine wp_region_quiet_below (by kernel_rfl) (by kernel_rfl) ?_
      repeat (first | go_big_quiet_skip | (go_big_quiet_want; go_big_quiet_op; first | go_big_quiet_on | (apply Exists.intro; refine ⟨fun _ => ?_, ?_⟩; (focus (first | fail)); go_big_quiet_on)))
      refine wpQuiet_nil ?_
      intro w1 hw1
      clear hq
      replace hw1 := quiet_ext hw1
      replace hN := hN.step hw1
      have hC := hN.2
      go_wp2_with fail
      go_meet
      exact ⟨by rw [E.out], hN.1⟩
  case rest =>
    obtain ⟨rfl, hx5⟩ := hcut
    have kp5 := kp4.ext hx5
    have kq5 := kq4.ext hx5
    clear hc hcr lp4 lq4
    have hc := kp5.cell
    have hcr := kq5.cell
    have lp5 := kp5.lt
    have lq5 := kq5.lt
    obtain ⟨bU, oU, hAU, hbU, cU⟩ := (hR4.ext hx5).int hU1
    rw [← Hu1.out] at cU
    subst hAU
    have mcan := Hcan.out.symm
    have m2 := ms.1
    have m3 : q.src < (p.quo.length : Int) := ms.2
    have hU4 := hR4.ext hx5
    have hT4 := hR34.ext hx5
    obtain ⟨z, hz⟩ : ∃ z, gi U q.src = z := ⟨_, rfl⟩
    rw [hz] at cU mcan
    have Hz := Lib.hid hz
    clear hz
    have hN := Near.refl wc
    have hC := hN.2
    go_wp2_with fail
    have hq := quiet_near hN
    refine wp_region_quiet_below (by kernel_rfl) (by kernel_rfl) ?_
    repeat (first | go_big_quiet_skip | (go_big_quiet_want; go_big_quiet_op; first | go_big_quiet_on | (apply Exists.intro; refine ⟨fun _ => ?_, ?_⟩; (focus (first | fail)); go_big_quiet_on)))
    refine wpQuiet_nil ?_
    intro w1 hw1
    clear hq
    replace hw1 := quiet_ext hw1
    replace hN := hN.step hw1
    have hC := hN.2
    have hx6 := hN.1
    have hbU6 := Nat.lt_of_lt_of_le hbU hx6.size
    have cU6 := hx6.cell_some cU
    have hU6 := hU4.ext hx6
    have hT6 := hT4.ext hx6
    have kp6 := kp5.ext hx6
    have kq6 := kq5.ext hx6
    clear hc hcr lp5 lq5 cU hC hN kp5 kq5 mcan
    go_wp2_with fail
    go_loopg [96] p.quo.length (fun n v wr => ∃ k : Nat, k + n = p.quo.length ∧ v = .int .i64 k ∧ Ext w1 wr)
    case atStart => exact ⟨0, by omega, by go_num, Ext.refl _⟩
    case round =>
      obtain ⟨k, hkn, rfl, hxr⟩ := hrel
      have Hkn := Lib.hid hkn
      have hkl : k ≤ p.quo.length := by omega
      clear hkn
      by_cases hlt : k < p.quo.length
      · have hTk : k < T.length := by have := HTl.out; omega
        have hUk : k < U.length := by have := HUl.out; omega
        go_wp2_with fail
        go_cut [118] from 99 to 118 (fun x wx => BoolAt wr false x wx)
        case first =>
          obtain ⟨bT, oT, rfl, hbT, cT⟩ := (hT6.ext hxr).int hTk
          obtain ⟨bU', oU', eU, hbU', cU⟩ := (hU6.ext hxr).int hUk
          obtain ⟨rfl, rfl⟩ : bU = bU' ∧ oU = oU' := by injection eU with e; injection e with e1 e2; exact ⟨e1, e2⟩
          have hal := Hall.out k ⟨by omega, by omega⟩
          rw [gi_get hTk, gi_get hUk] at hal
          generalize T[k] = y at *
          generalize U[k] = u at *
          have hN := Near.refl wr
          have hC := hN.2
          have hkq : (k : Int) < (p.quo.length : Int) := by omega
          clear eU
          by_cases y0 : 0 ≤ y
          · have d0 : decide (0 ≤ y) = true := decide_eq_true y0
            by_cases y1 : y ≤ u
            · have d1 : decide (y ≤ u) = true := decide_eq_true y1
              obtain rfl := hal y0 y1
              clear y0 y1 hal
              have hq := quiet_near hN
              refine wp_region_quiet_below (by kernel_rfl) (by kernel_rfl) ?_
              repeat (first | go_big_quiet_skip | (go_big_quiet_want; go_big_quiet_op; first | go_big_quiet_on | (apply Exists.intro; refine ⟨fun _ => ?_, ?_⟩; (focus (first | fail)); go_big_quiet_on)))
              refine wpQuiet_nil ?_
              intro w1 hw1
              clear hq
              replace hw1 := quiet_ext hw1
              replace hN := hN.step hw1
              have hC := hN.2
              go_wp2_with fail
              go_meet
              exact ⟨rfl, hN.1⟩
            · have d1 : decide (y ≤ u) = false := decide_eq_false y1
              clear y0 y1 hal
              have hq := quiet_near hN
              refine wp_region_quiet_below (by kernel_rfl) (by kernel_rfl) ?_
              repeat (first | go_big_quiet_skip | (go_big_quiet_want; go_big_quiet_op; first | go_big_quiet_on | (apply Exists.intro; refine ⟨fun _ => ?_, ?_⟩; (focus (first | fail)); go_big_quiet_on)))
              refine wpQuiet_nil ?_
              intro w1 hw1
              clear hq
              replace hw1 := quiet_ext hw1
              replace hN := hN.step hw1
              have hC := hN.2
              go_wp2_with fail
              go_meet
              exact ⟨rfl, hN.1⟩
          · have d0 : decide (0 ≤ y) = false := decide_eq_false y0
            clear y0 hal
            have hq := quiet_near hN
            refine wp_region_quiet_below (by kernel_rfl) (by kernel_rfl) ?_
            repeat (first | go_big_quiet_skip | (go_big_quiet_want; go_big_quiet_op; first | go_big_quiet_on | (apply Exists.intro; refine ⟨fun _ => ?_, ?_⟩; (focus (first | fail)); go_big_quiet_on)))
            refine wpQuiet_nil ?_
            intro w1 hw1
            clear hq
            replace hw1 := quiet_ext hw1
            replace hN := hN.step hw1
            have hC := hN.2
            go_wp2_with fail
            go_meet
            exact ⟨rfl, hN.1⟩
        case rest =>
          obtain ⟨rfl, hx⟩ := hcut
          go_wp2_with fail
          go_roundg (gk - 1)
          case measure => have := Hkn.out; omega
          case rel => exact ⟨k + 1, by have := Hkn.out; omega, by go_num, hxr.trans hx⟩
      · obtain rfl : k = p.quo.length := by omega
        have hrd6 := (hrd4.ext (hx5.trans hx6)).ext hxr
        have kp7 := kp6.ext hxr
        have kq7 := kq6.ext hxr
        have hU7 := hU6.ext hxr
        have hT7 := hT6.ext hxr
        have hE7 := (hE4.trans (hx5.trans hx6)).trans hxr
        have hj := fun w h => JFind_any Aq cq Ac cc p q w h
        have hl := fun w h => Find_any Aq cq Ac cc p q w h
        unfold Pln.val Req.val at hj hl
        have hc := kp7.cell
        have hcr := kq7.cell
        have lp := kp7.lt
        have lq := kq7.lt
        go_wp2_with fail
        refine (hj _ hrd6).mono ?_
        clear hj
        rintro e w7 ⟨l1, k1, ⟨A7, c7, rfl, hR7, hb7, hcap7⟩, hlen7, hJ7⟩
        have e7 : (k1 == 0) = cb ∧ (cb = true → MirL p q l1) := by
          have hm := mir_find F2.out F3.out hJ7
          rw [HCB.out] at hm
          cases cb
          · rw [if_neg (by simp)] at hm; rw [hm.1]; exact ⟨rfl, fun h => by cases h⟩
          · rw [if_pos rfl] at hm; rw [hm.1]; exact ⟨rfl, fun _ => hm.2⟩
        obtain ⟨e7, M7⟩ := e7
        have M7 := Lib.hid M7
        clear hJ7 hc hcr lp lq
        have hc := (kp7.ext hb7).cell
        have hcr := (kq7.ext hb7).cell
        have lp := (kp7.ext hb7).lt
        have lq := (kq7.ext hb7).lt
        go_wp2_with fail
        refine (hl _ (hrd6.ext hb7)).mono ?_
        clear hl
        rintro e w8 ⟨l2, ⟨A8, c8, rfl, hR8, hb8, hcap8⟩, hlen8, hL8⟩
        have e8 : (p.ofE q == 0) = cb ∧ (cb = true → MirL p q l2) := by
          have ho : p.ofE q = if gi U q.src < q.ready then 18 else 0 := by unfold Pln.ofE; rw [if_pos F2.out, F3.out, if_pos rfl, HU.out]
          have hca := Hcan.out
          cases cb
          · have h9 : gi U q.src < q.ready := by have := of_decide_eq_false hca.symm; omega
            rw [if_pos h9] at ho
            rw [ho]; exact ⟨rfl, fun h => by cases h⟩
          · have h9 : q.ready ≤ gi U q.src := of_decide_eq_true hca.symm
            rw [if_neg (by omega)] at ho
            rw [if_pos ho] at hL8
            rw [ho]; exact ⟨rfl, fun _ => mir_lat F2.out F3.out hL8 (by rw [HU.out]; exact h9)⟩
        obtain ⟨e8, M8⟩ := e8
        have M8 := Lib.hid M8
        generalize p.ofE q = k2 at *
        clear hL8 hc hcr lp lq
        obtain ⟨W9, hW9, hB9, hk9, hl9⟩ := box1 w8 #[.slice A7 l1.length c7, .slice A8 l2.length c8] 34
        go_wp2_with fail
        clear hW9
        have hx79 := hb7.trans (hb8.trans hB9)
        have hE9 := hE7.trans hx79
        have hrd9 := hrd6.ext hx79
        have kp9 := kp7.ext hx79
        have kq9 := kq7.ext hx79
        have hU9 := hU7.ext hx79
        have hT9 := hT7.ext hx79
        have hR79 := hR7.ext (hb8.trans hB9)
        have hR89 := hR8.ext hB9
        go_loopg [146] 2 (fun n v wx => ∃ k : Nat, k + n = 2 ∧ v = .int .i64 k ∧ Ext W9 wx)
        case atStart => exact ⟨0, by omega, by go_num, Ext.refl _⟩
        case round =>
          obtain ⟨k, hkn, rfl, hx⟩ := hrel
          have Hkn := Lib.hid hkn
          have hk2 : k ≤ 2 := by omega
          clear hkn
          by_cases hlt : k < 2
          · obtain ⟨A, c, l, hcell, hR, hM, hlen⟩ : ∃ A c l, wr.cell? ⟨w8.heap.size, k, none⟩ = some (.slice A l.length c) ∧ Rd EHp wr A l ∧ (cb = true → MirL p q l) ∧ l.length ≤ 1099511627776 := by
              have h9 := (hk9.ext hx).cell k
              rcases (show k = 0 ∨ k = 1 by omega) with rfl | rfl
              · exact ⟨A7, c7, l1, h9, hR79.ext hx, M7.out, hlen7⟩
              · exact ⟨A8, c8, l2, h9, hR89.ext hx, M8.out, hlen8⟩
            have l8 : w8.heap.size < wr.heap.size := (hk9.ext hx).lt
            clear hR79 hR89 hR7 hR8 hlen7 hlen8
            cases cb
            case false =>
              have hN := Near.refl wr
              have hC := hN.2
              clear hM
              go_wp2_with fail
              have hq := quiet_near hN
              refine wp_region_quiet_below (by kernel_rfl) (by kernel_rfl) ?_
              repeat (first | go_big_quiet_skip | (go_big_quiet_want; go_big_quiet_op; first | go_big_quiet_on | (apply Exists.intro; refine ⟨fun _ => ?_, ?_⟩; (focus (first | fail)); go_big_quiet_on)))
              refine wpQuiet_nil ?_
              intro w1 hw1
              clear hq
              replace hw1 := quiet_ext hw1
              replace hN := hN.step hw1
              have hC := hN.2
              go_wp2_with fail
              go_roundg (gk - 1)
              case measure => have := Hkn.out; omega
              case rel => exact ⟨k + 1, by have := Hkn.out; omega, by go_num, hx.trans hN.1⟩
            case true =>
              have HM := Lib.hid (hM rfl)
              clear hM
              have hD := HM.out.rt
              have hDl := hD.len
              obtain ⟨m, hm⟩ : ∃ m, l.length = m + 1 := ⟨l.length - 1, by omega⟩
              have hl0 : 0 < l.length := by omega
              have hlm : m < l.length := by omega
              obtain ⟨b, o, rfl, hb, g0, g1, g2, g3⟩ := hR.hp hl0
              obtain ⟨b', o', e2, hb', f0, f1, f2, f3⟩ := hR.hp hlm
              obtain ⟨rfl, rfl⟩ : b = b' ∧ o = o' := by injection e2 with e; injection e with e1 e2; exact ⟨e1, e2⟩
              obtain ⟨bT, oT, rfl, hbT, cT⟩ := (hT9.ext hx).int hT1
              obtain ⟨bU', oU', eU, hbU', cU⟩ := (hU9.ext hx).int hU1
              obtain ⟨rfl, rfl⟩ : bU = bU' ∧ oU = oU' := by injection eU with e; injection e with e1 e2; exact ⟨e1, e2⟩
              rw [← Ht1.out] at cT
              rw [← Hu1.out] at cU
              have hf := HM.out.fst hl0
              have hla := HM.out.lst m hm.symm
              rw [HU.out] at hf
              rw [HT.out] at hla
              have hck := fun d os => tCheck_ok Aq cq Ac cc p q (some ⟨b, o, none⟩) c l (Sort.grow (redrawn wr d) os) ((hrd9.ext hx).ext (below_regrown wr d os)) FR.out (hR.ext (below_regrown wr d os)) hD
              unfold Req.val at hck
              rw [hm] at hck hcell
              generalize l[0] = x0 at *
              generalize l[m] = xm at *
              generalize gi T q.dst = y at *
              generalize gi U q.src = u at *
              have dl : ((((m + 1 : Nat) : Int)) == 0) = false := by rw [beq_eq_false_iff_ne]; omega
              have e9 : ((m + 1 : Nat) : Int) - 1 = (m : Int) := by omega
              have em : (m : Int) < ((m + 1 : Nat) : Int) := by omega
              have e0 : (0 : Int) < ((m + 1 : Nat) : Int) := by omega
              have hm64 : m ≤ 64 := by omega
              have dl' : ((m : Int) + 1 == 0) = false := by rw [beq_eq_false_iff_ne]; omega
              have e9' : (m : Int) + 1 - 1 = (m : Int) := by omega
              have ew : IntKind.i64.wrap (m : Int) = (m : Int) := IntWalk.i64_in _ (by omega)
              have ew' : IntKind.i64.wrap ((m : Int) + 1) = (m : Int) + 1 := IntWalk.i64_in _ (by omega)
              have em' : (0 : Int) ≤ (m : Int) := by omega
              have em2 : (m : Int) ≤ (m : Int) := by omega
              have d1 : decide (u < x0.beg) = false := decide_eq_false (by omega)
              have d2 : decide (xm.arr < y) = false := decide_eq_false (by omega)
              have m0 := md.1
              have m1 : q.dst < (p.quo.length : Int) := md.2
              have m2 := ms.1
              have m3 : q.src < (p.quo.length : Int) := ms.2
              have hc := (kp9.ext hx).cell
              have hcr := (kq9.ext hx).cell
              have lp := (kp9.ext hx).lt
              have lq := (kq9.ext hx).lt
              have hN := Near.refl wr
              have hC := hN.2
              simp only [Nat.zero_mul, Nat.add_zero] at g0 g1 g2 g3
              clear Ht1 Hu1
              clear hm hl0 hlm hDl hD hf hla eU e2 hR hlen hT1 hU1
              go_wp2_with fail
              have hq := quiet_near hN
              refine wp_region_quiet_below (by kernel_rfl) (by kernel_rfl) ?_
              repeat (first | go_big_quiet_skip | (go_big_quiet_want; go_big_quiet_op; first | go_big_quiet_on | (apply Exists.intro; refine ⟨fun _ => ?_, ?_⟩; (focus (first | (go_at_call 11; with_reducible exact Calls.regrown_of (hck _ _)))); go_big_quiet_on)))
              refine wpQuiet_nil ?_
              intro w1 hw1
              clear hq
              replace hw1 := quiet_ext hw1
              replace hN := hN.step hw1
              have hC := hN.2
              go_wp2_with fail
              go_roundg (gk - 1)
              case measure => have := Hkn.out; omega
              case rel => exact ⟨k + 1, by have := Hkn.out; omega, by go_num, hx.trans hN.1⟩
          · go_wp2_with fail
            refine (awakeM_any _).mono ?_
            rintro e wz ⟨rfl, hbz⟩
            go_wp2
            go_ret
            exact ⟨rfl, (hE9.trans hx).trans hbz⟩

end Go.Proofs.YtmaengcmhopmbaaGreat
