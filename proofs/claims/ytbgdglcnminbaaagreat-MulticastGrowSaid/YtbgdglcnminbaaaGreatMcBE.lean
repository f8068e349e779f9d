
/- Layer 35 (multicast): checkBranch. · Layer 35 (multicast): check. · Layer 35 (multicast): check. · Layer 35 (multicast): check. -/
import Derived.Test.YtbgdglcnminbaaaGreatMcA0
import Derived.Test.YtbgdglcnminbaaaGreatConZ
import Derived.Test.YtbgdglcnminbaaaGreatPlnW1
import Derived.Test.YtbgdglcnminbaaaGreatMcYG
import Derived.BigRegion
import Derived.Test.YtbgdglcnminbaaaGreatMcHI
namespace Go.Proofs.YtbgdglcnminbaaaGreat
set_option linter.unusedVariables false
set_option linter.unusedSimpArgs false
open Go.RowKit
attribute [local go_sem] Oper.semAt_some

def gbr (l : List Br) (i : Nat) : Br := l.getD i ⟨0, 0, 0, 0, 0⟩
theorem gbr_get {l : List Br} {i : Nat} (h : i < l.length) : gbr l i = l[i] := by simp [gbr, h]
/-- What follows where the node and the time before a branch are known. -/
def brT (c : Con) (q : Req) (b : Br) (at_ : List Int) (node ready : Int) : Int :=
  if c.src = node then (if 0 ≤ gi at_ c.dst then 6 else if b.beg < ready then 9 else if c.atE b.beg q.size ≠ 0 then 16 else
    if ¬ (b.arr = c.arrT b.beg q.size ∧ b.en = c.arrT b.beg q.size - c.rng) then 1 else if q.dead < c.arrT b.beg q.size then 16 else 0) else 10
/-- Why a branch cannot follow. -/
def Pln.brE (p : Pln) (q : Req) (l : List Br) (i : Nat) (at_ : List Int) : Int :=
  if (gbr l i).par < -1 ∨ (i : Int) ≤ (gbr l i).par ∨ (gbr l i).con < 0 ∨ (p.cons.length : Int) ≤ (gbr l i).con then 2
  else if 0 ≤ (gbr l i).par then brT (gc p.cons (gbr l i).con) q (gbr l i) at_ (gc p.cons (gbr l (gbr l i).par.toNat).con).dst (gbr l (gbr l i).par.toNat).arr
  else brT (gc p.cons (gbr l i).con) q (gbr l i) at_ q.src q.ready

set_option maxRecDepth 100000 in
set_option maxHeartbeats 8000000 in
theorem checkBranch_any (Aq : Option Addr) (cq : Nat) (Ac : Option Addr) (cc : Nat) (p : Pln) (q : Req) (Al : Option Addr) (cl : Nat) (l : List Br) (i : Nat) (at_ : List Int) (w : World) (h : PlnRd w Aq cq Ac cc p) (hok : p.Ok) (hl : Rd EBr w Al l) (hlm : l.length ≤ 1000000) (hi : i < l.length) (hal : at_.length = 16)
    (hpv : ∀ (k : Nat) (hk : k < l.length), k < i → 0 ≤ l[k].con ∧ l[k].con < p.cons.length) :
    Calls Tryz.prog 61 #[p.val Aq cq Ac cc, q.val, .slice Al l.length cl, .int .i64 i, .agg (arrV at_)] w fun e w' => e = .returned (.int .i64 (p.brE q l i at_)) ∧ Ext w w' := by
  obtain ⟨W1, hW1, hB1, hkp, hkq0, hlt1, hltq⟩ := box2 w #[.slice Aq p.quo.length cq, .slice Ac p.cons.length cc] q.cells 25 31
  simp only [Req.cells] at hW1 hkq0
  obtain ⟨W, hW, hB2, hkt0, hltt⟩ := box1 W1 (arrV at_) 62
  have hB := hB1.trans hB2
  have hkp1 := hkp.ext hB2
  have hkq1 := hkq0.ext hB2
  have hcm := h.cm
  obtain ⟨ba, oa, rfl, hba, g0, g1, g2, g3, g4⟩ := (hl.ext hB).br hi
  have HG := Lib.hid (gbr_get hi)
  have hX : p.brE q l i at_ = p.brE q l i at_ := rfl
  conv at hX => rhs; unfold Pln.brE
  rw [gbr_get hi] at hX
  generalize hbe : l[i] = b at *
  have HX := Lib.hid hX
  clear hX hbe
  obtain ⟨W4, hW4, hB4, hkb0, hltb⟩ := box1 W #[.int .i64 b.con, .int .i64 b.beg, .int .i64 b.en, .int .i64 b.arr, .int .i64 b.par] 57
  have c1 := (hkp1.ext hB4).cell
  have c2 := (hkp1.ext hB4).lt
  have c3 := (hkq1.ext hB4).cell
  have c4 := (hkq1.ext hB4).lt
  have c5 := hkb0.cell
  have c6 := hkb0.lt
  unfold Pln.val Req.val
  by_cases hg : -1 ≤ b.par ∧ b.par < i ∧ 0 ≤ b.con ∧ b.con < p.cons.length
  case' neg =>
    have HV := Lib.hid (HX.out.trans (if_pos (by omega)))
    have hw2 : b.par < -1 ∨ (-1 ≤ b.par ∧ (i : Int) ≤ b.par) ∨ (-1 ≤ b.par ∧ b.par < i ∧ b.con < 0) ∨ (-1 ≤ b.par ∧ b.par < i ∧ 0 ≤ b.con ∧ (p.cons.length : Int) ≤ b.con) := by omega
    clear hg HX
    rcases hw2 with hw | ⟨hw, hw2⟩ | ⟨hw, hw2, hw3⟩ | ⟨hw, hw2, hw3, hw4⟩
    all_goals
      go_enter Tryz.func61, Tryz.ntmps61
      go_wp2
      go_ret
      exact ⟨by rw [HV.out]; rfl, hB.trans hB4⟩
  obtain ⟨p0, p1, n0, n1⟩ := hg
  replace HX := Lib.hid (HX.out.trans (if_neg (by omega)))
  have hcl : b.con.toNat < p.cons.length := by omega
  have hgc : gc p.cons b.con = p.cons[b.con.toNat] := gc_get hcl
  rw [hgc] at HX
  have hcok := (hok.con _ (List.getElem_mem hcl)).1
  obtain ⟨bc, oc, rfl, hbc, k0, k1, k2, k3, k4, k5, k6⟩ := ((h.c.ext hB).ext hB4).con hcl
  clear hgc
  generalize p.cons[b.con.toNat] = c at *
  have hcOk : (0 ≤ c.dst ∧ c.dst < 16) ∧ ∀ x n, c.atE x n = 0 → 0 ≤ c.arrT x n - c.rng ∧ c.arrT x n ≤ 1099511627776 ∧ 0 ≤ c.rng := by
    have h1 := hcok.dst0
    have h2 := hcok.dst1
    refine ⟨by omega, fun x n hx => ?_⟩
    have h3 := Con.at_ok.1 hx
    have h4 := Con.dur_bd hcok h3.2.1.1 h3.2.1.2
    have h5 := hcok.st0
    have h6 := hcok.en1
    have h7 := hcok.rng0
    unfold Con.arrT Con.aftT
    rw [if_pos hx]
    omega
  clear hcok
  obtain ⟨⟨hd0, hd1⟩, hcOk2⟩ := hcOk
  have hcOk := And.intro (And.intro hd0 hd1) hcOk2
  have Hcok := Lib.hid hcOk2
  clear hcOk2
  obtain ⟨W5, hW5, hB5, hkc, hltc⟩ := box1 W4 #[.int .i64 c.src, .int .i64 c.dst, .int .i64 c.st, .int .i64 c.en, .int .i64 c.rate, .int .i64 c.rng, .int .i64 c.loss] 67
  have hE4 := (hB.trans hB4).trans hB5
  have hkb := hkb0.ext hB5
  have hkq := (hkq1.ext hB4).ext hB5
  have hkt := (hkt0.ext hB4).ext hB5
  have hkp5 := (hkp1.ext hB4).ext hB5
  by_cases hp : 0 ≤ b.par
  case' neg =>
    have hpe : b.par = -1 := by omega
    have dp : decide (0 ≤ b.par) = false := decide_eq_false hp
    replace HX := Lib.hid (HX.out.trans (if_neg hp))
    unfold brT at HX
    clear hp hpe
    have q5 := hkq.cell
    have q6 := hkq.lt
    have q7 := hkb.cell
    have q8 := hkb.lt
    have hN := Near.refl W5
    go_enter Tryz.func61, Tryz.ntmps61
    go_wp2_with fail
    have hq := quiet_near hN
    refine wp_region_quiet_below (by kernel_rfl) (by kernel_rfl) ?_
    repeat (first | go_big_quiet_skip | (go_big_quiet_want; go_big_quiet_op; first | go_big_quiet_on | (apply Exists.intro; refine ⟨fun _ => ?_, ?_⟩; (focus (first | fail)); go_big_quiet_on)))
    refine wpQuiet_nil ?_
    intro w1 hw1
    clear hq
    replace hw1 := quiet_ext hw1
    replace hN := hN.step hw1
    have hC := hN.2
    have hE5 := hE4.trans hN.1
    have hkc5 := hkc.ext hN.1
    have hkb5 := hkb.ext hN.1
    have hkq5 := hkq.ext hN.1
    have hkt5 := hkt.ext hN.1
    clear hN hC
    have e1 := hkc5.cell
    have e2 := hkc5.lt
    have e3 := hkb5.cell
    have e4 := hkb5.lt
    have e5 := hkq5.cell
    have e6 := hkq5.lt
    go_wp2_with fail
    refine (Arrival_any c b.beg q.size _).mono ?_
    rintro e w6 ⟨rfl, hb6⟩
    have hE6 := hE5.trans hb6
    have hkc6 := hkc5.ext hb6
    have hkb6 := hkb5.ext hb6
    have hkq6 := hkq5.ext hb6
    have hkt6 := hkt5.ext hb6
    clear e1 e2 e3 e4 e5 e6
    have e1 := hkc6.cell
    have e2 := hkc6.lt
    have e3 := hkb6.cell
    have e4 := hkb6.lt
    have e5 := hkq6.cell
    have e6 := hkq6.lt
    have e7 := (hkt6.cell c.dst.toNat).trans (arrV_get (by rw [hal]; omega))
    have e7b : ((c.dst.toNat : Nat) : Int) = c.dst := by omega
    rw [e7b] at e7
    have e8 := hkt6.lt
    by_cases t1 : c.src = q.src
    case' neg =>
      have d1 : (c.src != q.src) = true := by simpa using t1
      have HV := Lib.hid (HX.out.trans (if_neg t1))
      clear t1
      go_wp2
      go_ret
      exact ⟨by rw [HV.out]; rfl, hE6⟩
    have d1 : (c.src != q.src) = false := by simpa using t1
    replace HX := Lib.hid (HX.out.trans (if_pos t1))
    clear t1
    by_cases t2 : 0 ≤ gi at_ c.dst
    · have d2 : decide (0 ≤ gi at_ c.dst) = true := decide_eq_true t2
      have HV := Lib.hid (HX.out.trans (if_pos t2))
      clear t2
      go_wp2
      go_ret
      exact ⟨by rw [HV.out]; rfl, hE6⟩
    have d2 : decide (0 ≤ gi at_ c.dst) = false := decide_eq_false t2
    replace HX := Lib.hid (HX.out.trans (if_neg t2))
    clear t2
    by_cases t3 : b.beg < q.ready
    · have d3 : decide (b.beg < q.ready) = true := decide_eq_true t3
      have HV := Lib.hid (HX.out.trans (if_pos t3))
      clear t3
      go_wp2
      go_ret
      exact ⟨by rw [HV.out]; rfl, hE6⟩
    have d3 : decide (b.beg < q.ready) = false := decide_eq_false t3
    replace HX := Lib.hid (HX.out.trans (if_neg t3))
    clear t3
    by_cases t4 : c.atE b.beg q.size = 0
    case' neg =>
      have d4 : (c.atE b.beg q.size != 0) = true := by simpa using t4
      have HV := Lib.hid (HX.out.trans (if_pos t4))
      clear t4
      go_wp2
      go_ret
      exact ⟨by rw [HV.out]; rfl, hE6⟩
    have d4 : (c.atE b.beg q.size != 0) = false := by simpa using t4
    replace HX := Lib.hid (HX.out.trans (if_neg (fun h => h t4)))
    have harr := hcOk.2 b.beg q.size t4
    clear t4
    generalize c.arrT b.beg q.size = ar at *
    have hwr : IntKind.i64.wrap (ar - c.rng) = ar - c.rng := IntWalk.i64_in _ (by omega)
    by_cases t5 : b.arr = ar ∧ b.en = ar - c.rng
    case' neg =>
      have HV := Lib.hid (HX.out.trans (if_pos t5))
      by_cases t6 : b.arr = ar
      · have d5 : (b.arr != ar) = false := by simpa using t6
        have d6 : (b.en != ar - c.rng) = true := by simp only [bne_iff_ne]; exact fun h => t5 ⟨t6, h⟩
        clear t5 t6
        go_wp2
        go_ret
        exact ⟨by rw [HV.out]; rfl, hE6⟩
      · have d5 : (b.arr != ar) = true := by simpa using t6
        clear t5 t6
        go_wp2
        go_ret
        exact ⟨by rw [HV.out]; rfl, hE6⟩
    have d5 : (b.arr != ar) = false := by simpa using t5.1
    have d6 : (b.en != ar - c.rng) = false := by simpa using t5.2
    replace HX := Lib.hid (HX.out.trans (if_neg (fun h => h t5)))
    clear t5
    by_cases t7 : q.dead < ar
    · have d7 : decide (q.dead < ar) = true := decide_eq_true t7
      have HV := Lib.hid (HX.out.trans (if_pos t7))
      clear t7
      go_wp2
      go_ret
      exact ⟨by rw [HV.out]; rfl, hE6⟩
    · have d7 : decide (q.dead < ar) = false := decide_eq_false t7
      have HV := Lib.hid (HX.out.trans (if_neg t7))
      clear t7
      go_wp2
      go_ret
      exact ⟨by rw [HV.out]; rfl, hE6⟩
  have dp : decide (0 ≤ b.par) = true := decide_eq_true hp
  replace HX := Lib.hid (HX.out.trans (if_pos hp))
  have hki : b.par.toNat < i := by omega
  have hkl : b.par.toNat < l.length := by omega
  have hpk := hpv b.par.toNat hkl hki
  rw [gbr_get hkl] at HX
  have q5 := hkq.cell
  have q6 := hkq.lt
  have q7 := hkb.cell
  have q8 := hkb.lt
  have hN := Near.refl W5
  go_enter Tryz.func61, Tryz.ntmps61
  go_wp2_with fail
  have hq := quiet_near hN
  refine wp_region_quiet_below (by kernel_rfl) (by kernel_rfl) ?_
  repeat (first | go_big_quiet_skip | (go_big_quiet_want; go_big_quiet_op; first | go_big_quiet_on | (apply Exists.intro; refine ⟨fun _ => ?_, ?_⟩; (focus (first | fail)); go_big_quiet_on)))
  refine wpQuiet_nil ?_
  intro w1 hw1
  clear hq
  replace hw1 := quiet_ext hw1
  replace hN := hN.step hw1
  have hC := hN.2
  have hY := hN.1
  clear hN hC
  obtain ⟨ba', oa', hA, hba', f0, f1, f2, f3, f4⟩ := ((hl.ext hB).ext ((hB4.trans hB5).trans hY)).br hkl
  injection hA with hA
  injection hA with hA hA2
  subst hA hA2
  generalize l[b.par.toNat] = b2 at *
  have hcl2 : b2.con.toNat < p.cons.length := by omega
  rw [gc_get hcl2] at HX
  obtain ⟨W6, hW6, hB6, hkh, hlth⟩ := box1 w1 #[.int .i64 b2.con, .int .i64 b2.beg, .int .i64 b2.en, .int .i64 b2.arr] 51
  have hZ := hY.trans hB6
  obtain ⟨bc', oc', hA, hbc', j0, j1, j2, j3, j4, j5, j6⟩ := ((h.c.ext hB).ext ((hB4.trans hB5).trans hZ)).con hcl2
  injection hA with hA
  injection hA with hA hA2
  subst hA hA2
  clear j0 j2 j3 j4 j5 j6
  generalize p.cons[b2.con.toNat].dst = nd at *
  unfold brT at HX
  replace hE4 := hE4.trans hZ
  replace hkc := hkc.ext hZ
  replace hkb := hkb.ext hZ
  replace hkq := hkq.ext hZ
  replace hkt := hkt.ext hZ
  have hkp6 := hkp5.ext hZ
  clear q5 q6 q7 q8
  have y1 := hkb.cell
  have y2 := hkb.lt
  have y3 := hkp6.cell
  have y4 := hkp6.lt
  have y5 := hkh.cell
  have y6 := hkh.lt
  have z1 := (hkb0.ext (hB5.trans hY)).cell
  have z2 := (hkb0.ext (hB5.trans hY)).lt
  have z3 := (hkp5.ext hY).cell
  have z4 := (hkp5.ext hY).lt
  clear c1 c2 c3 c4 c5 c6 k0 k1 k2 k3 k4 k5 k6 g0 g1 g2 g3 g4
  have hN := Near.refl W6
  go_wp2_with fail
  have hq := quiet_near hN
  refine wp_region_quiet_below (by kernel_rfl) (by kernel_rfl) ?_
  repeat (first | go_big_quiet_skip | (go_big_quiet_want; go_big_quiet_op; first | go_big_quiet_on | (apply Exists.intro; refine ⟨fun _ => ?_, ?_⟩; (focus (first | fail)); go_big_quiet_on)))
  refine wpQuiet_nil ?_
  intro w1 hw1
  clear hq
  replace hw1 := quiet_ext hw1
  replace hN := hN.step hw1
  have hC := hN.2
  have hE5 := hE4.trans hN.1
  have hkc5 := hkc.ext hN.1
  have hkb5 := hkb.ext hN.1
  have hkq5 := hkq.ext hN.1
  have hkt5 := hkt.ext hN.1
  clear hN hC
  have e1 := hkc5.cell
  have e2 := hkc5.lt
  have e3 := hkb5.cell
  have e4 := hkb5.lt
  have e5 := hkq5.cell
  have e6 := hkq5.lt
  go_wp2_with fail
  refine (Arrival_any c b.beg q.size _).mono ?_
  rintro e w6 ⟨rfl, hb6⟩
  have hE6 := hE5.trans hb6
  have hkc6 := hkc5.ext hb6
  have hkb6 := hkb5.ext hb6
  have hkq6 := hkq5.ext hb6
  have hkt6 := hkt5.ext hb6
  clear e1 e2 e3 e4 e5 e6
  have e1 := hkc6.cell
  have e2 := hkc6.lt
  have e3 := hkb6.cell
  have e4 := hkb6.lt
  have e5 := hkq6.cell
  have e6 := hkq6.lt
  have e7 := (hkt6.cell c.dst.toNat).trans (arrV_get (by rw [hal]; omega))
  have e7b : ((c.dst.toNat : Nat) : Int) = c.dst := by omega
  rw [e7b] at e7
  have e8 := hkt6.lt
  by_cases t1 : c.src = nd
  case' neg =>
    have d1 : (c.src != nd) = true := by simpa using t1
    have HV := Lib.hid (HX.out.trans (if_neg t1))
    clear t1
    go_wp2
    go_ret
    exact ⟨by rw [HV.out]; rfl, hE6⟩
  have d1 : (c.src != nd) = false := by simpa using t1
  replace HX := Lib.hid (HX.out.trans (if_pos t1))
  clear t1
  by_cases t2 : 0 ≤ gi at_ c.dst
  · have d2 : decide (0 ≤ gi at_ c.dst) = true := decide_eq_true t2
    have HV := Lib.hid (HX.out.trans (if_pos t2))
    clear t2
    go_wp2
    go_ret
    exact ⟨by rw [HV.out]; rfl, hE6⟩
  have d2 : decide (0 ≤ gi at_ c.dst) = false := decide_eq_false t2
  replace HX := Lib.hid (HX.out.trans (if_neg t2))
  clear t2
  by_cases t3 : b.beg < b2.arr
  · have d3 : decide (b.beg < b2.arr) = true := decide_eq_true t3
    have HV := Lib.hid (HX.out.trans (if_pos t3))
    clear t3
    go_wp2
    go_ret
    exact ⟨by rw [HV.out]; rfl, hE6⟩
  have d3 : decide (b.beg < b2.arr) = false := decide_eq_false t3
  replace HX := Lib.hid (HX.out.trans (if_neg t3))
  clear t3
  by_cases t4 : c.atE b.beg q.size = 0
  case' neg =>
    have d4 : (c.atE b.beg q.size != 0) = true := by simpa using t4
    have HV := Lib.hid (HX.out.trans (if_pos t4))
    clear t4
    go_wp2
    go_ret
    exact ⟨by rw [HV.out]; rfl, hE6⟩
  have d4 : (c.atE b.beg q.size != 0) = false := by simpa using t4
  replace HX := Lib.hid (HX.out.trans (if_neg (fun h => h t4)))
  have harr := hcOk.2 b.beg q.size t4
  clear t4
  generalize c.arrT b.beg q.size = ar at *
  have hwr : IntKind.i64.wrap (ar - c.rng) = ar - c.rng := IntWalk.i64_in _ (by omega)
  by_cases t5 : b.arr = ar ∧ b.en = ar - c.rng
  case' neg =>
    have HV := Lib.hid (HX.out.trans (if_pos t5))
    by_cases t6 : b.arr = ar
    · have d5 : (b.arr != ar) = false := by simpa using t6
      have d6 : (b.en != ar - c.rng) = true := by simp only [bne_iff_ne]; exact fun h => t5 ⟨t6, h⟩
      clear t5 t6
      go_wp2
      go_ret
      exact ⟨by rw [HV.out]; rfl, hE6⟩
    · have d5 : (b.arr != ar) = true := by simpa using t6
      clear t5 t6
      go_wp2
      go_ret
      exact ⟨by rw [HV.out]; rfl, hE6⟩
  have d5 : (b.arr != ar) = false := by simpa using t5.1
  have d6 : (b.en != ar - c.rng) = false := by simpa using t5.2
  replace HX := Lib.hid (HX.out.trans (if_neg (fun h => h t5)))
  clear t5
  by_cases t7 : q.dead < ar
  · have d7 : decide (q.dead < ar) = true := decide_eq_true t7
    have HV := Lib.hid (HX.out.trans (if_pos t7))
    clear t7
    go_wp2
    go_ret
    exact ⟨by rw [HV.out]; rfl, hE6⟩
  · have d7 : decide (q.dead < ar) = false := decide_eq_false t7
    have HV := Lib.hid (HX.out.trans (if_neg t7))
    clear t7
    go_wp2
    go_ret
    exact ⟨by rw [HV.out]; rfl, hE6⟩

end Go.Proofs.YtbgdglcnminbaaaGreat

namespace Go.Proofs.YtbgdglcnminbaaaGreat
set_option linter.unusedVariables false
set_option linter.unusedSimpArgs false
open Go.RowKit Go.Shelf
attribute [local go_sem] Oper.semAt_some

/-- The times after some branches. -/
def Pln.mAt (p : Pln) (q : Req) (l : List Br) : Nat → List Int
  | 0 => startL q
  | k + 1 => (p.mAt q l k).set (gc p.cons (gbr l k).con).dst.toNat (gbr l k).arr
theorem Pln.mAt_len (p : Pln) (q : Req) (l : List Br) : ∀ k, (p.mAt q l k).length = 16
  | 0 => startL_len q
  | k + 1 => by rw [Pln.mAt, List.length_set]; exact p.mAt_len q l k
/-- The first error of some branches. -/
def Pln.mErr (p : Pln) (q : Req) (l : List Br) : Nat → Int
  | 0 => 0
  | k + 1 => if p.mErr q l k = 0 then p.brE q l k (p.mAt q l k) else p.mErr q l k
theorem Pln.mErr_up {p : Pln} {q : Req} {l : List Br} {k : Nat} (h : p.mErr q l k ≠ 0) : ∀ d, p.mErr q l (k + d) = p.mErr q l k
  | 0 => rfl
  | d + 1 => by
    have e := Pln.mErr_up h d
    show (if p.mErr q l (k + d) = 0 then _ else p.mErr q l (k + d)) = _
    rw [if_neg (by rw [e]; exact h), e]
theorem Pln.mErr_to {p : Pln} {q : Req} {l : List Br} {k n : Nat} (h : p.mErr q l k ≠ 0) (hk : k ≤ n) : p.mErr q l n = p.mErr q l k := by
  obtain ⟨d, rfl⟩ : ∃ d, n = k + d := ⟨n - k, by omega⟩
  exact Pln.mErr_up h d
theorem Pln.mErr_con {p : Pln} {q : Req} {l : List Br} : ∀ {j : Nat}, p.mErr q l j = 0 → ∀ (k : Nat) (hk : k < l.length), k < j → 0 ≤ l[k].con ∧ l[k].con < p.cons.length
  | 0, _, k, hk, h => by omega
  | j + 1, h, k, hk, hkj => by
    have h0 : p.mErr q l j = 0 := by
      apply Classical.byContradiction
      intro hn
      have := Pln.mErr_to (n := j + 1) hn (by omega)
      exact hn (this.symm.trans h)
    by_cases e : k < j
    · exact Pln.mErr_con h0 k hk e
    · have e2 : k = j := by omega
      subst e2
      have h2 : p.brE q l k (p.mAt q l k) = 0 := by
        have h3 : p.mErr q l (k + 1) = if p.mErr q l k = 0 then p.brE q l k (p.mAt q l k) else p.mErr q l k := rfl
        rw [if_pos h0] at h3
        exact h3.symm.trans h
      unfold Pln.brE at h2
      rw [gbr_get hk] at h2
      split at h2
      · omega
      · rename_i h3; omega
/-- Why branches are no tree to all members. -/
def Pln.mchk (p : Pln) (q : Req) (mem : List Int) (l : List Br) : Int :=
  if fineR p q = true ∧ memsB p.quo.length q.src mem = true then
    (if 16 < l.length then 4 else if p.mErr q l l.length = 0 then (if mem.any (fun n => decide (gi (p.mAt q l l.length) n < 0)) then 7 else 0) else p.mErr q l l.length)
  else 1
def Pln.mT (p : Pln) (q : Req) (mem : List Int) (l : List Br) : List Int := if p.mchk q mem l = 0 then p.mAt q l l.length else List.replicate 16 0

/-- A function value that answers p of the elements of a list, and makes memory at most. -/
structure PredM (w0 : World) (f : FuncId) (cs : Array Value) (p : Int → Bool) (l : List Int) : Prop where
  enters : ∀ args w, (callFunc f args).run Tryz.prog w = .ok (.enter f args) w
  says : ∀ (x : Int) (w : World), x ∈ l → Ext w0 w → Calls Tryz.prog f (#[.int .i64 x] ++ cs) w fun e w' => e = .returned (.bool (p x)) ∧ Ext w w'
set_option maxHeartbeats 2000000 in
theorem indexM_any (A : Option Addr) (c : Nat) (l : List Int) (f : FuncId) (cs : Array Value) (p : Int → Bool) (w : World) (hA : Rd EInt w A l) (hmax : l.length ≤ 1000000) (hp : PredM w f cs p l) :
    Calls Tryz.prog 88 #[.slice A l.length c, .func (.func f) #[] cs] w fun e w' => e = .returned (.int .i64 (findI p l)) ∧ Ext w w' := by
  have hen := hp.enters
  go_enter Tryz.func88, Tryz.ntmps88
  go_wp2
  go_loopw [8] (fun i wr => ∃ k : Nat, k ≤ l.length ∧ i = .int .i64 k ∧ Hid ((l.take k).any p = false) ∧ Ext w wr) (fun i _ => l.length - (intOf i).toNat)
  case atStart => exact ⟨0, Nat.zero_le _, rfl, Lib.hid rfl, Ext.refl _⟩
  case round =>
    obtain ⟨k, hk, rfl, hu, hN⟩ := hrel
    by_cases hlt : k < l.length
    · obtain ⟨b, o, rfl, hb, c0⟩ := (hA.ext hN).int hlt
      have hmem : l[k] ∈ l := List.getElem_mem hlt
      generalize hxe : l[k] = x at *
      have Hx := Lib.hid hxe
      clear hxe
      have hsay := hp.says x _ hmem hN
      clear hmem
      cases hpx : p x
      all_goals
        go_wp2_with fail
        refine hsay.mono ?_
        rintro e w1 ⟨rfl, hb1⟩
        rw [hpx]
      · go_wp2
        go_roundw
        case rel => exact ⟨k + 1, by omega, by go_num, Lib.hid (any_step hlt Hx.out hu.out hpx), hN.trans hb1⟩
        case measure => simp [intOf]; omega
      · go_wp2
        go_ret
        refine ⟨ret_i64 ?_, hN.trans hb1⟩
        exact (findI_at hlt hu.out (by rw [Hx.out]; exact hpx)).symm
    · go_wp2
      go_ret
      refine ⟨ret_i64 ?_, hN⟩
      have e : l.take k = l := List.take_of_length_le (by omega)
      have h := hu.out
      rw [e] at h
      exact (findI_nope h).symm
set_option maxHeartbeats 1000000 in
theorem containsM_any (A : Option Addr) (c : Nat) (l : List Int) (f : FuncId) (cs : Array Value) (p : Int → Bool) (w : World) (hA : Rd EInt w A l) (hmax : l.length ≤ 1000000) (hp : PredM w f cs p l) :
    Calls Tryz.prog 62 #[.slice A l.length c, .func (.func f) #[] cs] w fun e w' => e = .returned (.bool (l.any p)) ∧ Ext w w' := by
  have hfn := Lib.hid (findI_neg (p := p) (l := l))
  go_enter Tryz.func62, Tryz.ntmps62
  go_wp2_with fail
  refine (indexM_any A c l f cs p w hA hmax hp).mono ?_
  rintro e w1 ⟨rfl, hb⟩
  go_wp2
  go_ret
  exact ⟨ret_bool hfn.out, hb⟩
theorem pred_mc {w0 : World} {g : Nat} {T l : List Int} (h : Blk w0 g 62 (arrV T)) (hT : T.length = 16) (hl : ∀ x ∈ l, 0 ≤ x ∧ x < 16) : PredM w0 63 #[.pointer (some ⟨g, 0, none⟩)] (fun n => decide (gi T n < 0)) l where
  enters := enters_of Tryz.func63 (by kernel_rfl) rfl
  says := fun x w hx hw => by
    have hk := h.ext hw
    have hb := hl x hx
    have hc := (hk.cell x.toNat).trans (arrV_get (by rw [hT]; omega))
    have e : ((x.toNat : Nat) : Int) = x := by omega
    rw [e] at hc
    have hlt := hk.lt
    show Calls Tryz.prog 63 #[_, _] w _
    clear e hl
    generalize gi T x = y at *
    go_enter Tryz.func63, Tryz.ntmps63
    go_wp2
    go_ret
    exact ⟨rfl, Ext.refl _⟩

set_option maxRecDepth 100000 in
set_option maxHeartbeats 8000000 in
theorem mcheck_1 (Aq : Option Addr) (cq : Nat) (Ac : Option Addr) (cc : Nat) (p : Pln) (q : Req) (Am : Option Addr) (cm : Nat) (mem : List Int) (Al : Option Addr) (cl : Nat) (l : List Br) (w : World) (h : PlnRd w Aq cq Ac cc p) (hmm : Rd EInt w Am mem) (hml : mem.length ≤ 1000000) (hl : Rd EBr w Al l) (hlm : l.length ≤ 1000000) (hf : fineR p q = false) :
    Calls Tryz.prog 38 #[p.val Aq cq Ac cc, q.val, .slice Am mem.length cm, .slice Al l.length cl] w fun e w' => e = .returned (.tuple #[.agg (arrV (p.mT q mem l)), .int .i64 (p.mchk q mem l)]) ∧ Ext w w' := by
  obtain ⟨W1, hW1, hB1, hkp0, hkq0, hlt1, hltq⟩ := box2 w #[.slice Aq p.quo.length cq, .slice Ac p.cons.length cc] q.cells 25 31
  simp only [Req.cells] at hW1 hkq0
  obtain ⟨W, hW, hB2, hkr, hltr⟩ := box1 W1 #[.int .i64 0, .int .i64 0, .int .i64 0, .int .i64 0, .int .i64 0, .int .i64 0, .int .i64 0, .int .i64 0, .int .i64 0, .int .i64 0, .int .i64 0, .int .i64 0, .int .i64 0, .int .i64 0, .int .i64 0, .int .i64 0] 62
  have hB := hB1.trans hB2
  have hkp := hkp0.ext hB2
  have hkq := hkq0.ext hB2
  have c1 := hkp.cell
  have c2 := hkp.lt
  have c3 := hkq.cell
  have c4 := hkq.lt
  have hqm := h.qm
  have hrd := h.ext hB
  have hreq := fun w h => tCheckRequest_any Aq cq Ac cc p q w h
  have hmem := fun w h => areMembers_any Aq cq Ac cc p q Am cm mem w h hml hqm
  unfold Pln.val Req.val at hreq hmem ⊢
  have HV := Lib.hid (show p.mT q mem l = [0, 0, 0, 0, 0, 0, 0, 0, 0, 0, 0, 0, 0, 0, 0, 0] ∧ p.mchk q mem l = 1 by
    have e : p.mchk q mem l = 1 := by unfold Pln.mchk; rw [if_neg (by rw [hf]; simp)]
    exact ⟨by unfold Pln.mT; rw [if_neg (by rw [e]; decide)]; rfl, e⟩)
  go_enter Tryz.func38, Tryz.ntmps38
  go_wp2_with fail
  clear hW hW1
  refine (hreq _ hrd).mono ?_
  rintro e w2 ⟨k, rfl, hk, hb2⟩
  have d0 : (k != 0) = true := by
    simp only [bne_iff_ne]
    intro e
    rw [hf] at hk
    exact Bool.false_ne_true (hk.1 e)
  have hE2 := hB.trans hb2
  have hkr2 := hkr.ext hb2
  have r1 := hkr2.cell
  have r2 := hkr2.lt
  have r3 := hkr2.frozen
  clear hk
  obtain ⟨w7, hw7, hz7, hE7⟩ : ∃ w7, World.setCells w2 W1.heap.size 0 (([0, 0, 0, 0, 0, 0, 0, 0, 0, 0, 0, 0, 0, 0, 0, 0] : List Int).map (Value.int .i64)) = w7 ∧ Blk w7 W1.heap.size 62 (arrV [0, 0, 0, 0, 0, 0, 0, 0, 0, 0, 0, 0, 0, 0, 0, 0]) ∧ Ext w w7 :=
    ⟨_, rfl, Blk.whole (l := [0, 0, 0, 0, 0, 0, 0, 0, 0, 0, 0, 0, 0, 0, 0, 0]) hkr2 rfl, ext_setCells hE2 hB1.size 0 _⟩
  simp only [List.map_cons, List.map_nil, World.setCells, Nat.zero_add, Nat.reduceAdd] at hw7
  have hz7' : Blk w7 W1.heap.size 62 #[.int .i64 0, .int .i64 0, .int .i64 0, .int .i64 0, .int .i64 0, .int .i64 0, .int .i64 0, .int .i64 0, .int .i64 0, .int .i64 0, .int .i64 0, .int .i64 0, .int .i64 0, .int .i64 0, .int .i64 0, .int .i64 0] := hz7
  clear hz7
  go_wp2
  have hc7 := hz7'.cell
  refine bodyPost_ret (v := .tuple #[.agg #[.int .i64 0, .int .i64 0, .int .i64 0, .int .i64 0, .int .i64 0, .int .i64 0, .int .i64 0, .int .i64 0, .int .i64 0, .int .i64 0, .int .i64 0, .int .i64 0, .int .i64 0, .int .i64 0, .int .i64 0, .int .i64 0], .int .i64 1]) (by rw [results_cell_tmp rfl]; simp [asAddr, Result.andThen, hc7, go_sem]) rfl ?_
  exact ⟨by rw [HV.out.1, HV.out.2]; rfl, hE7⟩

set_option maxRecDepth 100000 in
set_option maxHeartbeats 8000000 in
theorem mcheck_2 (Aq : Option Addr) (cq : Nat) (Ac : Option Addr) (cc : Nat) (p : Pln) (q : Req) (Am : Option Addr) (cm : Nat) (mem : List Int) (Al : Option Addr) (cl : Nat) (l : List Br) (w : World) (h : PlnRd w Aq cq Ac cc p) (hmm : Rd EInt w Am mem) (hml : mem.length ≤ 1000000) (hl : Rd EBr w Al l) (hlm : l.length ≤ 1000000) (hf : fineR p q = true) (hmb : memsB p.quo.length q.src mem = false) :
    Calls Tryz.prog 38 #[p.val Aq cq Ac cc, q.val, .slice Am mem.length cm, .slice Al l.length cl] w fun e w' => e = .returned (.tuple #[.agg (arrV (p.mT q mem l)), .int .i64 (p.mchk q mem l)]) ∧ Ext w w' := by
  obtain ⟨W1, hW1, hB1, hkp0, hkq0, hlt1, hltq⟩ := box2 w #[.slice Aq p.quo.length cq, .slice Ac p.cons.length cc] q.cells 25 31
  simp only [Req.cells] at hW1 hkq0
  obtain ⟨W, hW, hB2, hkr, hltr⟩ := box1 W1 #[.int .i64 0, .int .i64 0, .int .i64 0, .int .i64 0, .int .i64 0, .int .i64 0, .int .i64 0, .int .i64 0, .int .i64 0, .int .i64 0, .int .i64 0, .int .i64 0, .int .i64 0, .int .i64 0, .int .i64 0, .int .i64 0] 62
  have hB := hB1.trans hB2
  have hkp := hkp0.ext hB2
  have hkq := hkq0.ext hB2
  have c1 := hkp.cell
  have c2 := hkp.lt
  have c3 := hkq.cell
  have c4 := hkq.lt
  have hqm := h.qm
  have hrd := h.ext hB
  have hreq := fun w h => tCheckRequest_any Aq cq Ac cc p q w h
  have hmem := fun w h => areMembers_any Aq cq Ac cc p q Am cm mem w h hml hqm
  unfold Pln.val Req.val at hreq hmem ⊢
  have hfq := fineR_of hf
  obtain ⟨hck, hqo⟩ := hfq
  have hok := Pln.ok_of hck
  have hn16 := hok.n16
  simp only [Req.okB, decide_eq_true_eq] at hqo
  have hs0 := hqo.1
  have hs1 := hqo.2.1
  have Hok := Lib.hid hok
  clear hck hqo hok
  have HV := Lib.hid (show p.mT q mem l = [0, 0, 0, 0, 0, 0, 0, 0, 0, 0, 0, 0, 0, 0, 0, 0] ∧ p.mchk q mem l = 1 by
    have e : p.mchk q mem l = 1 := by unfold Pln.mchk; rw [if_neg (by rw [hmb]; simp)]
    exact ⟨by unfold Pln.mT; rw [if_neg (by rw [e]; decide)]; rfl, e⟩)
  rw [hmb] at hmem
  go_enter Tryz.func38, Tryz.ntmps38
  go_wp2_with fail
  clear hW hW1
  refine (hreq _ hrd).mono ?_
  rintro e w2 ⟨k, rfl, hk, hb2⟩
  obtain rfl : k = 0 := hk.2 hf
  clear hk
  have e1 := (hkp.ext hb2).cell
  have e2 := (hkp.ext hb2).lt
  have e3 := (hkq.ext hb2).cell
  have e4 := (hkq.ext hb2).lt
  go_wp2_with fail
  refine (hmem _ ((hmm.ext hB).ext hb2)).mono ?_
  rintro e w3 ⟨rfl, hb3⟩
  have hE3 := (hB.trans hb2).trans hb3
  have hkr3 := (hkr.ext hb2).ext hb3
  have r1 := hkr3.cell
  have r2 := hkr3.lt
  have r3 := hkr3.frozen
  obtain ⟨w7, hw7, hz7, hE7⟩ : ∃ w7, World.setCells w3 W1.heap.size 0 (([0, 0, 0, 0, 0, 0, 0, 0, 0, 0, 0, 0, 0, 0, 0, 0] : List Int).map (Value.int .i64)) = w7 ∧ Blk w7 W1.heap.size 62 (arrV [0, 0, 0, 0, 0, 0, 0, 0, 0, 0, 0, 0, 0, 0, 0, 0]) ∧ Ext w w7 :=
    ⟨_, rfl, Blk.whole (l := [0, 0, 0, 0, 0, 0, 0, 0, 0, 0, 0, 0, 0, 0, 0, 0]) hkr3 rfl, ext_setCells hE3 hB1.size 0 _⟩
  simp only [List.map_cons, List.map_nil, World.setCells, Nat.zero_add, Nat.reduceAdd] at hw7
  have hz7' : Blk w7 W1.heap.size 62 #[.int .i64 0, .int .i64 0, .int .i64 0, .int .i64 0, .int .i64 0, .int .i64 0, .int .i64 0, .int .i64 0, .int .i64 0, .int .i64 0, .int .i64 0, .int .i64 0, .int .i64 0, .int .i64 0, .int .i64 0, .int .i64 0] := hz7
  clear hz7
  go_wp2
  have hc7 := hz7'.cell
  refine bodyPost_ret (v := .tuple #[.agg #[.int .i64 0, .int .i64 0, .int .i64 0, .int .i64 0, .int .i64 0, .int .i64 0, .int .i64 0, .int .i64 0, .int .i64 0, .int .i64 0, .int .i64 0, .int .i64 0, .int .i64 0, .int .i64 0, .int .i64 0, .int .i64 0], .int .i64 1]) (by rw [results_cell_tmp rfl]; simp [asAddr, Result.andThen, hc7, go_sem]) rfl ?_
  exact ⟨by rw [HV.out.1, HV.out.2]; rfl, hE7⟩

set_option maxRecDepth 100000 in
set_option maxHeartbeats 8000000 in
theorem mcheck_3 (Aq : Option Addr) (cq : Nat) (Ac : Option Addr) (cc : Nat) (p : Pln) (q : Req) (Am : Option Addr) (cm : Nat) (mem : List Int) (Al : Option Addr) (cl : Nat) (l : List Br) (w : World) (h : PlnRd w Aq cq Ac cc p) (hmm : Rd EInt w Am mem) (hml : mem.length ≤ 1000000) (hl : Rd EBr w Al l) (hlm : l.length ≤ 1000000) (hf : fineR p q = true) (hmb : memsB p.quo.length q.src mem = true) (h16 : 16 < l.length) :
    Calls Tryz.prog 38 #[p.val Aq cq Ac cc, q.val, .slice Am mem.length cm, .slice Al l.length cl] w fun e w' => e = .returned (.tuple #[.agg (arrV (p.mT q mem l)), .int .i64 (p.mchk q mem l)]) ∧ Ext w w' := by
  obtain ⟨W1, hW1, hB1, hkp0, hkq0, hlt1, hltq⟩ := box2 w #[.slice Aq p.quo.length cq, .slice Ac p.cons.length cc] q.cells 25 31
  simp only [Req.cells] at hW1 hkq0
  obtain ⟨W, hW, hB2, hkr, hltr⟩ := box1 W1 #[.int .i64 0, .int .i64 0, .int .i64 0, .int .i64 0, .int .i64 0, .int .i64 0, .int .i64 0, .int .i64 0, .int .i64 0, .int .i64 0, .int .i64 0, .int .i64 0, .int .i64 0, .int .i64 0, .int .i64 0, .int .i64 0] 62
  have hB := hB1.trans hB2
  have hkp := hkp0.ext hB2
  have hkq := hkq0.ext hB2
  have c1 := hkp.cell
  have c2 := hkp.lt
  have c3 := hkq.cell
  have c4 := hkq.lt
  have hqm := h.qm
  have hrd := h.ext hB
  have hreq := fun w h => tCheckRequest_any Aq cq Ac cc p q w h
  have hmem := fun w h => areMembers_any Aq cq Ac cc p q Am cm mem w h hml hqm
  unfold Pln.val Req.val at hreq hmem ⊢
  have hfq := fineR_of hf
  obtain ⟨hck, hqo⟩ := hfq
  have hok := Pln.ok_of hck
  have hn16 := hok.n16
  simp only [Req.okB, decide_eq_true_eq] at hqo
  have hs0 := hqo.1
  have hs1 := hqo.2.1
  have Hok := Lib.hid hok
  clear hck hqo hok
  rw [hmb] at hmem
  have hfm := And.intro hf hmb
  have HV := Lib.hid (show p.mT q mem l = [0, 0, 0, 0, 0, 0, 0, 0, 0, 0, 0, 0, 0, 0, 0, 0] ∧ p.mchk q mem l = 4 by
    have e : p.mchk q mem l = 4 := by unfold Pln.mchk; rw [if_pos hfm, if_pos h16]
    exact ⟨by unfold Pln.mT; rw [if_neg (by rw [e]; decide)]; rfl, e⟩)
  have d16 : decide ((16 : Int) < l.length) = true := decide_eq_true (by omega)
  go_enter Tryz.func38, Tryz.ntmps38
  go_wp2_with fail
  clear hW hW1
  refine (hreq _ hrd).mono ?_
  rintro e w2 ⟨k, rfl, hk, hb2⟩
  obtain rfl : k = 0 := hk.2 hf
  clear hk
  have e1 := (hkp.ext hb2).cell
  have e2 := (hkp.ext hb2).lt
  have e3 := (hkq.ext hb2).cell
  have e4 := (hkq.ext hb2).lt
  go_wp2_with fail
  refine (hmem _ ((hmm.ext hB).ext hb2)).mono ?_
  rintro e w3 ⟨rfl, hb3⟩
  have hE3 := (hB.trans hb2).trans hb3
  have hkr3 := (hkr.ext hb2).ext hb3
  have r1 := hkr3.cell
  have r2 := hkr3.lt
  have r3 := hkr3.frozen
  obtain ⟨w7, hw7, hz7, hE7⟩ : ∃ w7, World.setCells w3 W1.heap.size 0 (([0, 0, 0, 0, 0, 0, 0, 0, 0, 0, 0, 0, 0, 0, 0, 0] : List Int).map (Value.int .i64)) = w7 ∧ Blk w7 W1.heap.size 62 (arrV [0, 0, 0, 0, 0, 0, 0, 0, 0, 0, 0, 0, 0, 0, 0, 0]) ∧ Ext w w7 :=
    ⟨_, rfl, Blk.whole (l := [0, 0, 0, 0, 0, 0, 0, 0, 0, 0, 0, 0, 0, 0, 0, 0]) hkr3 rfl, ext_setCells hE3 hB1.size 0 _⟩
  simp only [List.map_cons, List.map_nil, World.setCells, Nat.zero_add, Nat.reduceAdd] at hw7
  have hz7' : Blk w7 W1.heap.size 62 #[.int .i64 0, .int .i64 0, .int .i64 0, .int .i64 0, .int .i64 0, .int .i64 0, .int .i64 0, .int .i64 0, .int .i64 0, .int .i64 0, .int .i64 0, .int .i64 0, .int .i64 0, .int .i64 0, .int .i64 0, .int .i64 0] := hz7
  clear hz7
  go_wp2
  have hc7 := hz7'.cell
  refine bodyPost_ret (v := .tuple #[.agg #[.int .i64 0, .int .i64 0, .int .i64 0, .int .i64 0, .int .i64 0, .int .i64 0, .int .i64 0, .int .i64 0, .int .i64 0, .int .i64 0, .int .i64 0, .int .i64 0, .int .i64 0, .int .i64 0, .int .i64 0, .int .i64 0], .int .i64 4]) (by rw [results_cell_tmp rfl]; simp [asAddr, Result.andThen, hc7, go_sem]) rfl ?_
  exact ⟨by rw [HV.out.1, HV.out.2]; rfl, hE7⟩

end Go.Proofs.YtbgdglcnminbaaaGreat

namespace Go.Proofs.YtbgdglcnminbaaaGreat
set_option linter.unusedVariables false
set_option linter.unusedSimpArgs false
open Go.RowKit Go.Shelf
attribute [local go_sem] Oper.semAt_some

set_option maxRecDepth 100000 in
set_option maxHeartbeats 8000000 in
theorem mcheck_4 (Aq : Option Addr) (cq : Nat) (Ac : Option Addr) (cc : Nat) (p : Pln) (q : Req) (Am : Option Addr) (cm : Nat) (mem : List Int) (Al : Option Addr) (cl : Nat) (l : List Br) (w : World) (h : PlnRd w Aq cq Ac cc p) (hmm : Rd EInt w Am mem) (hml : mem.length ≤ 1000000) (hl : Rd EBr w Al l) (hlm : l.length ≤ 1000000) (hf : fineR p q = true) (hmb : memsB p.quo.length q.src mem = true) (h16 : ¬ 16 < l.length) :
    Calls Tryz.prog 38 #[p.val Aq cq Ac cc, q.val, .slice Am mem.length cm, .slice Al l.length cl] w fun e w' => e = .returned (.tuple #[.agg (arrV (p.mT q mem l)), .int .i64 (p.mchk q mem l)]) ∧ Ext w w' := by
  obtain ⟨W1, hW1, hB1, hkp0, hkq0, hlt1, hltq⟩ := box2 w #[.slice Aq p.quo.length cq, .slice Ac p.cons.length cc] q.cells 25 31
  simp only [Req.cells] at hW1 hkq0
  obtain ⟨W, hW, hB2, hkr, hltr⟩ := box1 W1 (arrV (List.replicate 16 0)) 62
  simp only [arrV, List.replicate, List.map_cons, List.map_nil] at hW
  have hB := hB1.trans hB2
  have hkp := hkp0.ext hB2
  have hkq := hkq0.ext hB2
  have c1 := hkp.cell
  have c2 := hkp.lt
  have c3 := hkq.cell
  have c4 := hkq.lt
  have hqm := h.qm
  have hrd := h.ext hB
  have hreq := fun w h => tCheckRequest_any Aq cq Ac cc p q w h
  have hmem := fun w h => areMembers_any Aq cq Ac cc p q Am cm mem w h hml hqm
  unfold Pln.val Req.val at hreq hmem ⊢
  have hfq := fineR_of hf
  obtain ⟨hck, hqo⟩ := hfq
  have hok := Pln.ok_of hck
  have hn16 := hok.n16
  simp only [Req.okB, decide_eq_true_eq] at hqo
  have hs0 := hqo.1
  have hs1 := hqo.2.1
  have Hok := Lib.hid hok
  clear hck hqo hok
  rw [hmb] at hmem
  have hfm := And.intro hf hmb
  have d16 : decide ((16 : Int) < l.length) = false := decide_eq_false (by omega)
  have HC := Lib.hid (show p.mchk q mem l = if p.mErr q l l.length = 0 then (if mem.any (fun n => decide (gi (p.mAt q l l.length) n < 0)) then 7 else 0) else p.mErr q l l.length by unfold Pln.mchk; rw [if_pos hfm, if_neg h16])
  have hmr : ∀ x ∈ mem, 0 ≤ x ∧ x < 16 := fun x hx => by
    obtain ⟨i, hi, rfl⟩ := List.getElem_of_mem hx
    unfold memsB at hmb
    rw [decide_eq_true_eq] at hmb
    have := hmb i hi
    omega
  have hst := fun w => start_any q w hs0 (by omega)
  unfold Req.val at hst
  have HF := Lib.hid hf
  have Hmr := Lib.hid hmr
  have hsl := startL_len q
  have hz16 : (List.replicate 16 (0 : Int)).length = 16 := rfl
  clear hmr hf hmb hfm
  go_enter Tryz.func38, Tryz.ntmps38
  go_wp2_with fail
  clear hW hW1
  refine (hreq _ hrd).mono ?_
  clear hreq
  rintro e w2 ⟨k, rfl, hk, hb2⟩
  obtain rfl : k = 0 := hk.2 HF.out
  clear hk c1 c2 c3 c4
  have c1 := (hkp.ext hb2).cell
  have c2 := (hkp.ext hb2).lt
  have c3 := (hkq.ext hb2).cell
  have c4 := (hkq.ext hb2).lt
  go_wp2_with fail
  refine (hmem _ ((hmm.ext hB).ext hb2)).mono ?_
  clear hmem
  rintro e w3 ⟨rfl, hb3⟩
  have hE3 := (hB.trans hb2).trans hb3
  have hkr3 := (hkr.ext hb2).ext hb3
  have hkp3 := (hkp.ext hb2).ext hb3
  have hkq3 := (hkq.ext hb2).ext hb3
  clear c1 c2 c3 c4
  have c1 := hkp3.cell
  have c2 := hkp3.lt
  have c3 := hkq3.cell
  have c4 := hkq3.lt
  go_wp2_with fail
  refine (hst _).mono ?_
  clear hst
  rintro e w4 ⟨rfl, hb4⟩
  clear c1 c2 c3 c4
  go_wp2_with (refine wpList_fresh16 rfl rfl rfl rfl rfl (by assumption) ?_; intro W5 hB5 hk5 hl5)
  have hx45 := hB5
  have hkr4 := hkr3.ext hb4
  have hkp4 := hkp3.ext hb4
  have hkq4 := hkq3.ext hb4
  have hE4 := hE3.trans hb4
  have hrd4 := ((hrd.ext hb2).ext hb3).ext hb4
  have hl4 := (((hl.ext hB).ext hb2).ext hb3).ext hb4
  have hm4 := (((hmm.ext hB).ext hb2).ext hb3).ext hb4
  have hlr4 := hkr4.lt
  clear hkp hkq hkr hkp0 hkq0 hkr3 hkp3 hkq3 hrd
  go_loopg [34] l.length (fun n k wr => ∃ j : Nat, j + n = l.length ∧ k = .int .i64 j ∧ Blk wr w4.heap.size 62 (arrV (p.mAt q l j)) ∧ Hid (p.mErr q l j = 0) ∧ Ext w4 wr)
  case atStart => exact ⟨0, by omega, rfl, hk5, Lib.hid rfl, hx45⟩
  case round =>
    obtain ⟨j, hjq, rfl, hkb, hme, hx⟩ := hrel
    have Hjq := Lib.hid hjq
    have hjN : j ≤ l.length := by omega
    clear hjq
    have hmlen := p.mAt_len q l j
    by_cases hlt2 : j < l.length
    · obtain ⟨bl, ol, rfl, hbl, g0, g1, g2, g3, g4⟩ := (hl4.ext hx).br hlt2
      have hcb0 := fun w h hl => checkBranch_any Aq cq Ac cc p q (some ⟨bl, ol, none⟩) cl l j (p.mAt q l j) w h Hok.out hl hlm hlt2 hmlen (Pln.mErr_con hme.out)
      have hgb := gbr_get hlt2
      have hme1 : p.mErr q l (j + 1) = p.brE q l j (p.mAt q l j) := by
        show (if p.mErr q l j = 0 then p.brE q l j (p.mAt q l j) else p.mErr q l j) = _
        rw [if_pos hme.out]
      have hma1 : p.mAt q l (j + 1) = (p.mAt q l j).set (gc p.cons (gbr l j).con).dst.toNat (gbr l j).arr := rfl
      have hbr0 : p.brE q l j (p.mAt q l j) = 0 → 0 ≤ (gbr l j).con ∧ (gbr l j).con < p.cons.length := fun h0 => by
        have := Pln.mErr_con (j := j + 1) (hme1.trans h0) j hlt2 (by omega)
        rw [hgb]; exact this
      rw [hgb] at hma1 hbr0
      generalize l[j] = b at *
      generalize p.mAt q l j = T at *
      have Hme1 := Lib.hid hme1
      have Hma1 := Lib.hid hma1
      have Hbr0 := Lib.hid hbr0
      obtain ⟨er, her⟩ : ∃ er, p.brE q l j T = er := ⟨_, rfl⟩
      rw [her] at hcb0
      unfold Pln.val Req.val at hcb0
      have Her := Lib.hid her
      clear her hme1 hma1 hbr0 hgb
      obtain ⟨W6, hW6, hB6, hkn, hltn⟩ := box1 wr #[.int .i64 b.con, .int .i64 b.beg, .int .i64 b.en, .int .i64 b.arr, .int .i64 b.par] 57
      have hE6 := hx.trans hB6
      have s1 := (hkp4.ext hE6).cell
      have s2 := (hkp4.ext hE6).lt
      have s3 := (hkq4.ext hE6).cell
      have s4 := (hkq4.ext hE6).lt
      have hkb6 := hkb.ext hB6
      have s6 := hkb6.lt
      go_wp2_with (refine wpList_load16 rfl rfl rfl (by assumption) (by assumption) ?_)
      clear hW6
      refine (hcb0 _ (hrd4.ext hE6) (hl4.ext hE6)).mono ?_
      clear hcb0
      rintro e w7 ⟨rfl, hb7⟩
      have hE7 := hE6.trans hb7
      have hkr7 := hkr4.ext hE7
      clear s1 s2 s3 s4 s6 g0 g1 g2 g3 g4
      by_cases he : er = 0
      case' neg =>
        have d0 : (er != 0) = true := by simpa using he
        have HV := Lib.hid (show p.mT q mem l = List.replicate 16 0 ∧ p.mchk q mem l = er by
          have e0 : p.mErr q l (j + 1) = er := Hme1.out.trans Her.out
          have e1 : p.mErr q l l.length = er := (Pln.mErr_to (by rw [e0]; exact he) (by omega)).trans e0
          have e : p.mchk q mem l = er := by rw [HC.out, e1, if_neg he]
          exact ⟨by unfold Pln.mT; rw [if_neg (by rw [e]; exact he)], e⟩)
        have hEw := hE4.trans hE7
        have r2 := hkr7.lt
        clear he
        go_wp2_with (refine wpList_store16 (T' := List.replicate 16 0) rfl rfl rfl rfl (by assumption) (by assumption) (by assumption) ?_; intro W9 hg9 hk9)
        refine bodyPost_ret (results16 rfl rfl rfl hk9 rfl) rfl ?_
        exact ⟨by rw [HV.out.1, HV.out.2]; rfl, ext_of_grown hEw hg9 hB1.size⟩
      subst he
      have hbr := Hbr0.out Her.out
      have hcl2 : b.con.toNat < p.cons.length := by omega
      have hcd := (Hok.out.con _ (List.getElem_mem hcl2)).1
      have hd0 := hcd.dst0
      have hd1 := hcd.dst1
      obtain ⟨bc, oc, rfl, hbc, j0, j1, j2, j3, j4, j5, j6⟩ := ((hrd4.c).ext hE7).con hcl2
      have Hgc := Lib.hid (gc_get hcl2)
      clear hcd j0 j2 j3 j4 j5 j6
      generalize p.cons[b.con.toNat] = c at *
      have hk8 := (hkb.ext hB6).ext hb7
      have hn8 := hkn.ext hb7
      have s1 := (hkp4.ext hE7).cell
      have s2 := (hkp4.ext hE7).lt
      have s5 := (hk8.cell c.dst.toNat).trans (arrV_get (by omega))
      have s6 := hk8.lt
      have s7 := hk8.frozen
      have s8 := hn8.cell
      have s9 := hn8.lt
      have hdn : c.dst.toNat < 16 := by omega
      have hdl : c.dst < 16 := by omega
      generalize gi T ((c.dst.toNat : Nat) : Int) = tv at s5
      go_wp2_with fail
      go_region
      obtain ⟨W8, hW8, hE8, hk9⟩ : ∃ W8, (w7.setCell ⟨w4.heap.size, c.dst.toNat, none⟩ (.int .i64 b.arr)).drew = W8 ∧ Ext w4 W8 ∧ Blk W8 w4.heap.size 62 (arrV (p.mAt q l (j + 1))) := by
        have e : p.mAt q l (j + 1) = T.set c.dst.toNat b.arr := by rw [Hma1.out, Hgc.out]
        rw [e, ← arrV_set]
        exact ⟨_, rfl, (hE7.setCell (Nat.le_refl _) _).drew, hk8.set_ c.dst.toNat (.int .i64 b.arr)⟩
      rw [hW8]
      clear hW8 s1 s2 s5 s6 s7 s8 s9 j1 hk8 hn8
      go_wp2_with fail
      go_roundg (l.length - (j + 1))
      case measure => have := Hjq.out; omega
      case rel => exact ⟨j + 1, by have := Hjq.out; omega, by go_num, hk9, Lib.hid (Hme1.out.trans Her.out), hE8⟩
    · have hjl : j = l.length := by omega
      subst hjl
      have hpm := pred_mc (l := mem) hkb hmlen Hmr.out
      have hcc := containsM_any Am cm mem _ _ _ wr (hm4.ext hx) hml hpm
      have c6 := hkb.lt
      have hkr8 := hkr4.ext hx
      clear hpm hlt2
      go_wp2_with fail
      refine hcc.mono ?_
      clear hcc
      rintro e w9 ⟨rfl, hb9⟩
      have hEw := (hE4.trans hx).trans hb9
      have hkr9 := hkr8.ext hb9
      have r2 := hkr9.lt
      have hkb9 := hkb.ext hb9
      have s2 := hkb9.lt
      cases hany : mem.any (fun n => decide (gi (p.mAt q l l.length) n < 0))
      · have HV := Lib.hid (show p.mT q mem l = p.mAt q l l.length ∧ p.mchk q mem l = 0 by
          have e : p.mchk q mem l = 0 := by rw [HC.out, if_pos hme.out, hany]; rfl
          exact ⟨by unfold Pln.mT; rw [if_pos e], e⟩)
        clear hany
        generalize p.mAt q l l.length = T at *
        go_wp2_with (first | (refine wpList_load16 rfl rfl rfl (by assumption) (by assumption) ?_) | (refine wpList_store16 (T' := T) rfl rfl rfl rfl (by assumption) (by assumption) (by assumption) ?_; intro W9 hg9 hk9))
        refine bodyPost_ret (results16 rfl rfl rfl hk9 hmlen) rfl ?_
        exact ⟨by rw [HV.out.1, HV.out.2]; rfl, ext_of_grown hEw hg9 hB1.size⟩
      · have HV := Lib.hid (show p.mT q mem l = List.replicate 16 0 ∧ p.mchk q mem l = 7 by
          have e : p.mchk q mem l = 7 := by rw [HC.out, if_pos hme.out, hany]; rfl
          exact ⟨by unfold Pln.mT; rw [if_neg (by rw [e]; decide)], e⟩)
        clear hany
        go_wp2_with (refine wpList_store16 (T' := List.replicate 16 0) rfl rfl rfl rfl (by assumption) (by assumption) (by assumption) ?_; intro W9 hg9 hk9)
        refine bodyPost_ret (results16 rfl rfl rfl hk9 rfl) rfl ?_
        exact ⟨by rw [HV.out.1, HV.out.2]; rfl, ext_of_grown hEw hg9 hB1.size⟩

end Go.Proofs.YtbgdglcnminbaaaGreat

namespace Go.Proofs.YtbgdglcnminbaaaGreat
set_option linter.unusedVariables false
set_option linter.unusedSimpArgs false
open Go.RowKit Go.Shelf
attribute [local go_sem] Oper.semAt_some

set_option maxRecDepth 100000 in
set_option maxHeartbeats 8000000 in
theorem mcheck_any (Aq : Option Addr) (cq : Nat) (Ac : Option Addr) (cc : Nat) (p : Pln) (q : Req) (Am : Option Addr) (cm : Nat) (mem : List Int) (Al : Option Addr) (cl : Nat) (l : List Br) (w : World) (h : PlnRd w Aq cq Ac cc p) (hmm : Rd EInt w Am mem) (hml : mem.length ≤ 1000000) (hl : Rd EBr w Al l) (hlm : l.length ≤ 1000000) :
    Calls Tryz.prog 38 #[p.val Aq cq Ac cc, q.val, .slice Am mem.length cm, .slice Al l.length cl] w fun e w' => e = .returned (.tuple #[.agg (arrV (p.mT q mem l)), .int .i64 (p.mchk q mem l)]) ∧ Ext w w' := by
  cases hf : fineR p q
  · exact mcheck_1 Aq cq Ac cc p q Am cm mem Al cl l w h hmm hml hl hlm hf
  cases hmb : memsB p.quo.length q.src mem
  · exact mcheck_2 Aq cq Ac cc p q Am cm mem Al cl l w h hmm hml hl hlm hf hmb
  by_cases h16 : 16 < l.length
  · exact mcheck_3 Aq cq Ac cc p q Am cm mem Al cl l w h hmm hml hl hlm hf hmb h16
  · exact mcheck_4 Aq cq Ac cc p q Am cm mem Al cl l w h hmm hml hl hlm hf hmb h16

end Go.Proofs.YtbgdglcnminbaaaGreat
