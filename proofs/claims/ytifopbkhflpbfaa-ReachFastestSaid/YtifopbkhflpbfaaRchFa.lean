
/- Layer 26 (reach): the walk of ReachFastest. -/
import Derived.Test.YtifopbkhflpbfaaRchHb
import Derived.Test.YtifopbkhflpbfaaRchFp
import Derived.Test.YtifopbkhflpbfaaLatW7
namespace Go.Proofs.Ytifopbkhflpbfaa
set_option linter.unusedVariables false
set_option linter.unusedSimpArgs false
open Go.RowKit Go.Shelf
attribute [local go_sem] Oper.semAt_some

/-- The first begin and the last arrival of hops, by their cells. -/
theorem hp_ends {w : World} {A : Option Addr} {l : List Hp} (h : Rd EHp w A l) {K : Nat} (hK : l.length = K + 1) :
    ∃ b o x y, A = some ⟨b, o, none⟩ ∧ b < w.heap.size ∧ l.head? = some x ∧ l.getLast? = some y ∧ w.cell? ⟨b, o + 1, none⟩ = some (.int .i64 x.beg) ∧ w.cell? ⟨b, o + K * 4 + 3, none⟩ = some (.int .i64 y.arr) := by
  obtain ⟨b, o, rfl, hb, c0, c1, c2, c3⟩ := h.hp (k := 0) (by omega)
  obtain ⟨b', o', hA, hb', d0, d1, d2, d3⟩ := h.hp (k := K) (by omega)
  injection hA with hA
  injection hA with hA hA2
  subst hA hA2
  refine ⟨b, o, l[0], l[K], rfl, hb, ?_, ?_, ?_, d3⟩
  · cases l with
    | nil => simp at hK
    | cons x l => rfl
  · rw [List.getLast?_eq_getElem?, List.getElem?_eq_getElem (by omega)]
    congr 1
    simp only [hK, Nat.add_sub_cancel]
  · simpa using c1
theorem arrL_last {now : Int} {l : List Hp} {y : Hp} (h : l.getLast? = some y) : arrL now l = y.arr := by
  obtain ⟨pre, rfl⟩ := List.getLast?_eq_some_iff.1 h
  exact arrL_snoc _ _ _

set_option maxRecDepth 100000 in
set_option maxHeartbeats 4000000 in
theorem fastest_walk (Aq : Option Addr) (cq : Nat) (Ac : Option Addr) (cc : Nat) (p : Pln) (src dst n : Int) (Al : Option Addr) (cl : Nat) (hp : List Hp) (w : World) (h : PlnIn w Aq cq Ac cc p) (hhp : Rd EHp w Al hp) (hhm : hp.length ≤ 9223372036854775807) :
    Calls Try.prog 7 #[p.val Aq cq Ac cc, .int .i64 src, .int .i64 dst, .int .i64 n, .slice Al hp.length cl] w fun e w' => e = .returned (.bool true) ∧ Ext w w' := by
  obtain ⟨W0, hW0, hB0, hk0, hlt0⟩ := box1 w #[.slice Aq p.quo.length cq, .slice Ac p.cons.length cc] 25
  obtain ⟨W, hW, hB1, hk1, hlt1⟩ := box1 W0 #[.int .i64 src, .int .i64 dst] 3
  have hB := hB0.trans hB1
  have hk := hk0.ext hB1
  have hc := hk0.cell
  have hlt := hk.lt
  have hfi : Calls Try.prog 17 #[p.val Aq cq Ac cc, .int .i64 n, .slice (some ⟨W0.heap.size, 0, none⟩) 2 2] W fun e w' => e = .returned (.bool (p.fine26 n [src, dst])) ∧ Ext W w' :=
    lfine_any Aq cq Ac cc p n (some ⟨W0.heap.size, 0, none⟩) 2 [src, dst] W (h.ext hB) (rd_blk hk1) (by simp)
  cases hf : p.fine26 n [src, dst]
  case' false =>
    rw [hf] at hfi
    clear hf
    unfold Pln.val at hfi ⊢
    go_enter Try.func7, Try.ntmps7
    go_wp2_with fail
    clear hW hW0
    refine hfi.mono ?_
    rintro e w1 ⟨rfl, hb1⟩
    go_wp2_with fail
    refine (awake_any _).mono ?_
    rintro e w2 ⟨rfl, hb2⟩
    go_wp2
    go_ret
    exact ⟨rfl, (hB.trans hb1).trans hb2⟩
  rw [hf] at hfi
  obtain ⟨f1, f2, f3, f4⟩ := Pln.fine26_ok hf
  have hrd := (h.rd26 f1).ext hB
  have hqm := hrd.qm
  clear hf f1
  by_cases hw : src ≠ dst ∧ hp.length ≤ 12
  case' neg =>
    have hw2 : src = dst ∨ (src ≠ dst ∧ (12 : Int) < hp.length) := by omega
    clear f2 f3 f4 hw
    unfold Pln.val at hfi ⊢
    rcases hw2 with hw | ⟨hw, hw2⟩
    all_goals
      first
        | (have d1 : (src == dst) = true := by simpa using hw)
        | (have d1 : (src == dst) = false := by simpa using hw)
      clear hw
      go_enter Try.func7, Try.ntmps7
      go_wp2_with fail
      clear hW hW0
      refine hfi.mono ?_
      rintro e w1 ⟨rfl, hb1⟩
      go_wp2_with fail
      refine (awake_any _).mono ?_
      rintro e w2 ⟨rfl, hb2⟩
      go_wp2
      go_ret
      exact ⟨rfl, (hB.trans hb1).trans hb2⟩
  obtain ⟨hne, hl12⟩ := hw
  have d1 : (src == dst) = false := by simpa using hne
  have s0 := f4 src (by simp)
  have s1 := f4 dst (by simp)
  have hrv : p.rv n [src, dst] = 0 := by
    unfold Pln.rv
    have e1 : p.argR n [src, dst] = true := by simp only [Pln.argR, decide_eq_true_eq]; exact ⟨f3.1, f3.2, f4⟩
    simp only [f2, e1, if_true]
  have hPA := Pln.rv_pa hrv hne
  have hqo : ∀ D : Int, 0 ≤ D → D ≤ 1099511627776 → (⟨src, dst, n, 0, D, 0, false⟩ : Req).okB p.quo.length = true := fun D d0 d1 => by
    simp only [Req.okB, decide_eq_true_eq]
    exact ⟨s0.1, s0.2, s1.1, s1.2, hne, f3.1, f3.2, Int.le_refl _, d0, d1, by omega, by omega⟩
  have hjc : hp.length ≠ 0 → p.jchk ⟨src, dst, n, 0, 1099511627776, 0, false⟩ hp = chkL p.cons n dst 1099511627776 src 0 [src] hp := fun hh => by
    unfold Pln.jchk
    rw [if_pos ⟨f2, hqo _ (by omega) (by omega)⟩, if_neg hh]
  have hck := fun w h hl => jCheck_any Aq cq Ac cc p ⟨src, dst, n, 0, 1099511627776, 0, false⟩ Al cl hp w h hl (by omega)
  have hft := fun w h => Fastest_any Aq cq Ac cc p src dst n w h
  have F2 := Lib.hid f2
  have Hne := Lib.hid hne
  have Hrv := Lib.hid hrv
  have HPA := Lib.hid hPA
  have Hqo := Lib.hid hqo
  have Hjc := Lib.hid hjc
  have hhp2 := hhp.ext hB
  obtain ⟨J0, hJ0⟩ : ∃ J0, p.jchk ⟨src, dst, n, 0, 1099511627776, 0, false⟩ hp = J0 := ⟨_, rfl⟩
  rw [hJ0] at hck
  have HJ0 := Lib.hid hJ0
  clear f2 f3 f4 hne hrv hPA hqo hjc hJ0 s0 s1
  unfold Pln.val at hfi hft hck ⊢
  unfold Req.val at hck
  go_enter Try.func7, Try.ntmps7
  go_wp2_with fail
  clear hW hW0
  refine hfi.mono ?_
  clear hfi
  rintro e w1 ⟨rfl, hb1⟩
  have hkp1 := hk.ext hb1
  replace hc := hkp1.cell
  go_wp2_with fail
  refine (hft _ (hrd.ext hb1)).mono ?_
  clear hft
  rintro e w2 ⟨out, b, er, rfl, hb2, hpp⟩
  have hkp2 := hkp1.ext hb2
  replace hc := hkp2.cell
  have hl2 := hkp2.lt
  unfold LevP at hpp
  rw [if_pos Hrv.out, if_neg Hne.out] at hpp
  have hrd2 := (hrd.ext hb1).ext hb2
  have hhp3 := (hhp2.ext hb1).ext hb2
  have hE2 := (hB.trans hb1).trans hb2
  clear hk hk0 hk1 hkp1 hrd hhp hhp2 hhm
  rcases hpp with ⟨rfl, rfl, rfl, -⟩ | ⟨rfl, l, t', hch, hst, hl, rfl, rfl⟩
  · have e1 : fstE [] 4 = 4 := rfl
    have e2 : fstB [] (0, 0) 4 = (0, 0) := rfl
    rw [e1, e2]
    dsimp only
    by_cases hz : hp.length = 0
    · have dz : decide ((0 : Int) < hp.length) = false := decide_eq_false (by omega)
      go_wp2_with fail
      refine (awake_any _).mono ?_
      rintro e w3 ⟨rfl, hb3⟩
      go_wp2
      go_ret
      exact ⟨rfl, hE2.trans ((((Ext.refl _).alloc _).alloc _).trans hb3)⟩
    · have dz : decide ((0 : Int) < hp.length) = true := decide_eq_true (by omega)
      go_wp2_with fail
      obtain ⟨W5, hW5, hB5, hk5, hk6, hl5, hl6⟩ := box2 w2 #[.int .i64 0, .int .i64 0] #[.int .i64 src, .int .i64 dst, .int .i64 n, .int .i64 0, .int .i64 1099511627776, .int .i64 0, .bool false] 53 57
      rw [hW5]
      clear hW5
      refine (hck _ (hrd2.ext hB5) (hhp3.ext hB5)).mono ?_
      rintro e w3 ⟨rfl, hb3⟩
      go_wp2_with fail
      refine (awake_any _).mono ?_
      rintro e w4 ⟨rfl, hb4⟩
      go_wp2
      go_ret
      exact ⟨rfl, hE2.trans (hB5.trans (hb3.trans hb4))⟩
  by_cases hln : l = []
  · have e0 : lvl l t' = [] := by unfold lvl; rw [if_pos hln]
    have e1 : fstE [] 0 = 18 := rfl
    have e2 : fstB [] (bestS l) 0 = (0, 0) := rfl
    rw [e0, e1, e2]
    dsimp only
    by_cases hz : hp.length = 0
    · have dz : decide ((0 : Int) < hp.length) = false := decide_eq_false (by omega)
      go_wp2_with fail
      refine (awake_any _).mono ?_
      rintro e w3 ⟨rfl, hb3⟩
      go_wp2
      go_ret
      exact ⟨rfl, hE2.trans ((((Ext.refl _).alloc _).alloc _).trans hb3)⟩
    · have dz : decide ((0 : Int) < hp.length) = true := decide_eq_true (by omega)
      have hJ : ¬ J0 = 0 := fun hj => by
        have h1 := Hjc.out hz
        rw [HJ0.out, hj] at h1
        cases hp with
        | nil => simp at hz
        | cons x hp => exact (hch.fastest HPA.out hst (Int.le_refl 0) h1.symm).1 hln
      have dJ : (J0 == 0) = false := by simpa using hJ
      clear hJ
      go_wp2_with fail
      obtain ⟨W5, hW5, hB5, hk5, hk6, hl5, hl6⟩ := box2 w2 #[.int .i64 0, .int .i64 0] #[.int .i64 src, .int .i64 dst, .int .i64 n, .int .i64 0, .int .i64 1099511627776, .int .i64 0, .bool false] 53 57
      rw [hW5]
      clear hW5
      refine (hck _ (hrd2.ext hB5) (hhp3.ext hB5)).mono ?_
      rintro e w3 ⟨rfl, hb3⟩
      go_wp2_with fail
      refine (awake_any _).mono ?_
      rintro e w4 ⟨rfl, hb4⟩
      go_wp2
      go_ret
      exact ⟨rfl, hE2.trans (hB5.trans (hb3.trans hb4))⟩
  have hln2 : lvl l t' ≠ [] := fun e => by
    have := lvl_len (t := t') hln
    rw [e] at this
    simp at this
  have e1 : fstE (lvl l t') 0 = 0 := by unfold fstE; rw [if_pos rfl, if_neg hln2]
  have e2 : fstB (lvl l t') (bestS l) 0 = bestS l := by unfold fstB; rw [if_pos rfl, if_neg hln2]
  rw [e1, e2]
  have hbs := hch.best HPA.out hln
  have hfs : ∀ (x y : Hp), hp.head? = some x → hp.getLast? = some y → J0 = 0 → (bestS l).2 - (bestS l).1 ≤ y.arr - x.beg ∧ 0 ≤ x.beg ∧ x.beg ≤ 1099511627776 ∧ y.arr ≤ 1099511627776 ∧ 0 ≤ y.arr := fun x y hx hy hj => by
    have hz : hp.length ≠ 0 := fun e => by rw [List.eq_nil_of_length_eq_zero e] at hx; simp at hx
    have h1 := Hjc.out hz
    rw [HJ0.out, hj] at h1
    have hla := arrL_last (now := 0) hy
    have h9 : y.arr ≤ 1099511627776 := by
      obtain ⟨pre, e⟩ := List.getLast?_eq_some_iff.1 hy
      rw [e] at h1
      exact (chkL_last h1.symm).2
    cases hp with
    | nil => simp at hz
    | cons x' hp =>
      simp only [List.head?_cons, Option.some.injEq] at hx
      subst hx
      have h2 := (hch.fastest HPA.out hst (Int.le_refl 0) h1.symm).2
      have h3 := HPA.out.journey (Int.le_refl 0) h1.symm
      rw [hla] at h2
      omega
  have HFS := Lib.hid hfs
  clear hfs hch hst hl e2 e1 hln2 hln
  generalize bestS l = uv at *
  obtain ⟨u, v⟩ := uv
  dsimp only at hbs HFS ⊢
  obtain ⟨b0, b1, b2, b3⟩ := hbs
  have hqv := Hqo.out v (by omega) b2
  have hgu : gi (p.fixT ⟨src, dst, n, 0, v, 0, false⟩) src = u := b3.symm
  have hofe : p.ofE ⟨src, dst, n, 0, v, 0, false⟩ = 0 := by
    unfold Pln.ofE
    rw [if_pos F2.out, if_pos hqv, if_neg]
    show ¬ gi (p.fixT ⟨src, dst, n, 0, v, 0, false⟩) src < 0
    omega
  have hfd : ∀ w, PlnRd w Aq cq Ac cc p → Calls Try.prog 27 #[.agg #[.slice Aq p.quo.length cq, .slice Ac p.cons.length cc], .agg #[.int .i64 src, .int .i64 dst, .int .i64 n, .int .i64 0, .int .i64 v, .int .i64 0, .bool false]] w fun e w' =>
      ∃ c K b o a, e = .returned (.tuple #[.slice (some ⟨b, o, none⟩) (K + 1) c, .int .i64 0]) ∧ b < w'.heap.size ∧ w'.cell? ⟨b, o + 1, none⟩ = some (.int .i64 u) ∧ w'.cell? ⟨b, o + K * 4 + 3, none⟩ = some (.int .i64 a) ∧ a ≤ v ∧ K ≤ 1099511627776 ∧ Ext w w' := fun w hw => by
    refine (Find_any Aq cq Ac cc p ⟨src, dst, n, 0, v, 0, false⟩ w hw).mono ?_
    rintro e w' ⟨l7, ⟨A7, c7, rfl, hR7, hb7, _⟩, hl7, hpp⟩
    rw [if_pos hofe] at hpp
    have hP := HPA.out
    have hok := hP.ok
    have ha := hpp.arr hok.con ⟨hP.n0, hP.n1⟩ (by rw [hgu]; exact b0) Hne.out
    have hinv := (Pln.times_inv hok (hP.argB (a := v) (by omega) b2)).1
    obtain ⟨K, hK⟩ : ∃ K, l7.length = K + 1 := ⟨l7.length - 1, by have := List.length_pos_iff.2 ha.1; omega⟩
    obtain ⟨b, o, x, y, rfl, hb, hx, hy, c1, c2⟩ := hp_ends hR7 hK
    have h1 := ha.2.1 y hy
    have h2 := ha.2.2 x hx
    rw [hgu] at h2
    rw [h2] at c1
    have h3 : gi (p.fixT ⟨src, dst, n, 0, v, 0, false⟩) dst = v := hinv.dst
    rw [h3] at h1
    exact ⟨c7, K, b, o, y.arr, by rw [hK, hofe], hb, c1, c2, h1, by omega, hb7⟩
  clear hqv hgu hofe b3
  by_cases hz : hp.length = 0
  · have dz : decide ((0 : Int) < hp.length) = false := decide_eq_false (by omega)
    go_wp2_with fail
    obtain ⟨W5, hW5, hB5, hk5, hk6, hl5, hl6⟩ := box2 w2 #[.int .i64 u, .int .i64 v] #[.int .i64 src, .int .i64 dst, .int .i64 n, .int .i64 0, .int .i64 v, .int .i64 0, .bool false] 53 57
    rw [hW5]
    clear hW5
    refine (hfd _ (hrd2.ext hB5)).mono ?_
    rintro e w7 ⟨c7, K, b, o, a, rfl, hb, cb, ca, hav, hK, hb7⟩
    have hk7 := hk5.ext hb7
    have hc7 := hk7.cell
    have hl7 := hk7.lt
    have dv : decide (v < a) = false := decide_eq_false (by omega)
    have dk : ((K : Int) + 1 == 0) = false := by simp only [beq_eq_false_iff_ne]; omega
    have hwj : IntKind.i64.wrap (K : Int) = (K : Int) := IntWalk.i64_in _ (by omega)
    have hE7 := hE2.trans (hB5.trans hb7)
    have hN := Near.refl w7
    clear hav hc
    go_wp2_with fail
    have hq := quiet_near hN
    refine wp_region_quiet_below (by kernel_rfl) (by kernel_rfl) ?_
    repeat (first | go_big_quiet_skip | (go_big_quiet_want; go_big_quiet_op; first | go_big_quiet_on | (apply Exists.intro; refine ⟨fun _ => ?_, ?_⟩; (focus (first | fail)); go_big_quiet_on)))
    refine wpQuiet_nil ?_
    intro w1 hw1
    clear hq
    replace hw1 := quiet_ext hw1
    replace hN := hN.step hw1
    have hC := hN.2
    have hE8 := hE7.trans hN.1
    clear hN hC
    have hN := Near.refl w1
    go_wp2_with fail
    have hq := quiet_near hN
    refine wp_region_quiet_below (by kernel_rfl) (by kernel_rfl) ?_
    repeat (first | go_big_quiet_skip | (go_big_quiet_want; go_big_quiet_op; first | go_big_quiet_on | (apply Exists.intro; refine ⟨fun _ => ?_, ?_⟩; (focus (first | (go_at_call 10; exact Calls.regrown_of (awake_any _)))); go_big_quiet_on)))
    refine wpQuiet_nil ?_
    intro w1 hw1
    clear hq
    replace hw1 := quiet_ext hw1
    replace hN := hN.step hw1
    have hC := hN.2
    go_wp2
    go_ret
    exact ⟨rfl, hE8.trans hN.1⟩
  · obtain ⟨N, hN⟩ : ∃ N, hp.length = N + 1 := ⟨hp.length - 1, by omega⟩
    have dz : decide ((0 : Int) < (N : Int) + 1) = true := decide_eq_true (by omega)
    have hN12 : N ≤ 12 := by omega
    simp only [hN] at hck
    rw [hN]
    have HN := Lib.hid hN
    clear hz hN hl12
    go_wp2_with fail
    obtain ⟨W5, hW5, hB5, hk5, hk6, hl5, hl6⟩ := box2 w2 #[.int .i64 u, .int .i64 v] #[.int .i64 src, .int .i64 dst, .int .i64 n, .int .i64 0, .int .i64 1099511627776, .int .i64 0, .bool false] 53 57
    rw [hW5]
    clear hW5
    refine (hck _ (hrd2.ext hB5) (hhp3.ext hB5)).mono ?_
    rintro e w3 ⟨rfl, hb3⟩
    clear hck
    have hk3 := hk5.ext hb3
    have hq3 := hk6.ext hb3
    have hp3 := (hkp2.ext hB5).ext hb3
    replace hc := hp3.cell
    have hc3 := hk3.cell
    have hcq := hq3.cell
    have hcf := hq3.frozen
    have hlq := hq3.lt
    have hlk := hk3.lt
    have hlp := hp3.lt
    have hne1 : ¬ w2.heap.size + 1 = w2.heap.size := by omega
    have hne2 : ¬ w2.heap.size + 1 = w.heap.size := by omega
    have hE3 := hE2.trans (hB5.trans hb3)
    have hrd3 := hrd2.ext (hB5.trans hb3)
    go_wp2_with fail
    obtain ⟨W6, hW6, hX6, hk6'⟩ : ∃ W6, w3.setCell ⟨w2.heap.size + 1, 4, none⟩ (.int .i64 v) = W6 ∧ Ext w2 W6 ∧ Blk W6 w2.heap.size 53 #[.int .i64 u, .int .i64 v] :=
      ⟨_, rfl, (hB5.trans hb3).setCell (Nat.le_succ _) _, hk3.far (by simp) _⟩
    rw [hW6]
    clear hW6
    refine (hfd _ (hrd2.ext hX6)).mono ?_
    rintro e w7 ⟨c7, K, b, o, a, rfl, hb, cb, ca, hav, hK, hb7⟩
    have hk7 := hk6'.ext hb7
    have hc7 := hk7.cell
    have hl7 := hk7.lt
    have dv : decide (v < a) = false := decide_eq_false (by omega)
    have dk : ((K : Int) + 1 == 0) = false := by simp only [beq_eq_false_iff_ne]; omega
    have hwj : IntKind.i64.wrap (K : Int) = (K : Int) := IntWalk.i64_in _ (by omega)
    have hE7 := hE2.trans (hX6.trans hb7)
    obtain ⟨bp, op, x, y, rfl, hbp, hx, hy, cx, cy⟩ := hp_ends (hhp3.ext (hX6.trans hb7)) HN.out
    have hfs := HFS.out x y hx hy
    have hwN : IntKind.i64.wrap (N : Int) = (N : Int) := IntWalk.i64_in _ (by omega)
    clear hx hy hc hc3 hcq hcf hlq hlk hlp hne1 hne2 hk3 hq3 hp3 hE3 hrd3 hk5 hk6 hk6' hB5 hb3
    have hN := Near.refl w7
    clear hav
    go_wp2_with fail
    have hq := quiet_near hN
    refine wp_region_quiet_below (by kernel_rfl) (by kernel_rfl) ?_
    repeat (first | go_big_quiet_skip | (go_big_quiet_want; go_big_quiet_op; first | go_big_quiet_on | (apply Exists.intro; refine ⟨fun _ => ?_, ?_⟩; (focus (first | fail)); go_big_quiet_on)))
    refine wpQuiet_nil ?_
    intro w1 hw1
    clear hq
    replace hw1 := quiet_ext hw1
    replace hN := hN.step hw1
    have hC := hN.2
    have hE8 := hE7.trans hN.1
    have hbp8 := Nat.lt_of_lt_of_le hbp hN.1.size
    have hl8 := Nat.lt_of_lt_of_le hl7 hN.1.size
    have cx8 := hN.1.cell_some cx
    have cy8 := hN.1.cell_some cy
    have hk8 := hk7.ext hN.1
    have hc8 := hk8.cell
    clear hN hC hc7 cb ca cx cy hk7
    have hN := Near.refl w1
    go_wp2_with fail
    by_cases hJ : J0 = 0
    · obtain ⟨g1, g2, g3, g4, g5⟩ := hfs hJ
      have dJ : (J0 == 0) = true := by simpa using hJ
      have dg : decide (v - u ≤ y.arr - x.beg) = true := decide_eq_true g1
      clear hJ hfs g1
      have hq := quiet_near hN
      refine wp_region_quiet_below (by kernel_rfl) (by kernel_rfl) ?_
      repeat (first | go_big_quiet_skip | (go_big_quiet_want; go_big_quiet_op; first | go_big_quiet_on | (apply Exists.intro; refine ⟨fun _ => ?_, ?_⟩; (focus (first | (go_at_call 10; exact Calls.regrown_of (awake_any _)))); go_big_quiet_on)))
      refine wpQuiet_nil ?_
      intro w1 hw1
      clear hq
      replace hw1 := quiet_ext hw1
      replace hN := hN.step hw1
      have hC := hN.2
      go_wp2
      go_ret
      exact ⟨rfl, hE8.trans hN.1⟩
    · have dJ : (J0 == 0) = false := by simpa using hJ
      clear hJ hfs
      have hq := quiet_near hN
      refine wp_region_quiet_below (by kernel_rfl) (by kernel_rfl) ?_
      repeat (first | go_big_quiet_skip | (go_big_quiet_want; go_big_quiet_op; first | go_big_quiet_on | (apply Exists.intro; refine ⟨fun _ => ?_, ?_⟩; (focus (first | (go_at_call 10; exact Calls.regrown_of (awake_any _)))); go_big_quiet_on)))
      refine wpQuiet_nil ?_
      intro w1 hw1
      clear hq
      replace hw1 := quiet_ext hw1
      replace hN := hN.step hw1
      have hC := hN.2
      go_wp2
      go_ret
      exact ⟨rfl, hE8.trans hN.1⟩

end Go.Proofs.Ytifopbkhflpbfaa
