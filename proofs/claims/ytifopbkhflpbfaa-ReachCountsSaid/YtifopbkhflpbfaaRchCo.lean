
/- Layer 26 (reach): the walk of ReachCounts. -/
import Derived.Test.YtifopbkhflpbfaaRchRe
import Derived.Test.YtifopbkhflpbfaaRchWi
namespace Go.Proofs.Ytifopbkhflpbfaa
set_option linter.unusedVariables false
set_option linter.unusedSimpArgs false
open Go.RowKit Go.Shelf
attribute [local go_sem] Oper.semAt_some

theorem countP_one {q : Int → Bool} {T : List Int} {s : Nat} (hs : s < T.length) (h : ∀ (i : Nat) (hi : i < T.length), q T[i] = decide (i = s)) : T.countP q = 1 := by
  have e : T = T.take s ++ T[s] :: T.drop (s + 1) := by rw [← List.drop_eq_getElem_cons hs, List.take_append_drop]
  rw [e, List.countP_append, List.countP_cons]
  have h1 : (T.take s).countP q = 0 := by
    rw [List.countP_eq_zero]
    intro x hx
    obtain ⟨j, hj, rfl⟩ := List.mem_take_iff_getElem.1 hx
    rw [h j (by omega)]
    simp; omega
  have h2 : (T.drop (s + 1)).countP q = 0 := by
    rw [List.countP_eq_zero]
    intro x hx
    obtain ⟨j, hj, rfl⟩ := List.getElem_of_mem hx
    rw [List.length_drop] at hj
    rw [List.getElem_drop, h (s + 1 + j) (by omega)]
    simp; omega
  rw [h1, h2, h s hs]
  simp
theorem cnt_take {T : List Int} {m : Nat} (h : m < T.length) (d : Int) : cnt (T.take (m + 1)) d = cnt (T.take m) d + if inR d T[m] then 1 else 0 := by
  unfold cnt
  rw [List.take_succ_eq_append_getElem h, List.countP_append, List.countP_singleton]
section
variable {p : Pln} {src n : Int}
theorem Pln.rch_inR (h : p.rv n [src] = 0) {d : Int} (hd : 0 ≤ d) {k : Nat} (hk : k < (p.arrs src 0 n).length) : p.rch src (k : Int) 0 d n = inR d (p.arrs src 0 n)[k] := by
  obtain ⟨hok, hck, hF⟩ := Pln.rv1 h
  have hL := Pln.arrs_least hok hF
  have J := Pln.jc hok hF
  have hlo := Pln.arrs_lo hok hF
  have h1 := hlo.2.1 _ (List.getElem_mem hk)
  have e : p.ear src (k : Int) n 0 = (p.arrs src 0 n)[k] := by unfold Pln.ear; rw [gi_get hk]
  unfold Pln.rch
  rw [e, Bool.eq_iff_iff]
  simp only [inR, Bool.or_eq_true, Bool.and_eq_true, decide_eq_true_eq]
  constructor
  · rintro (hh | hh)
    · have h2 := hL.srcT J
      have h3 : gi (p.arrs src 0 n) (k : Int) = 0 := by rw [hh]; exact h2
      rw [gi_get hk] at h3
      omega
    · omega
  · intro hh
    exact .inr ⟨by omega, hh.2⟩
theorem Pln.cnt0 (h : p.rv n [src] = 0) : cnt (p.arrs src 0 n) 0 = 1 := by
  obtain ⟨hok, hck, hF⟩ := Pln.rv1 h
  have hL := Pln.arrs_least hok hF
  have J := Pln.jc hok hF
  have h0 := J.s0
  have h1 := J.s1
  have h2 := hL.srcT J
  have hlen := hL.len
  refine countP_one (s := src.toNat) (by omega) fun i hi => ?_
  by_cases e : i = src.toNat
  · subst e
    rw [gi_of h0 (by omega)] at h2
    simp [inR, h2]
  · rw [decide_eq_false e]
    have hPA : PA p src (i : Int) n := ⟨hok, h0, h1, by omega, by omega, by omega, J.n1, J.n2⟩
    have h3 := hPA.ear_cases (t := 0) (Int.le_refl 0) (by omega)
    unfold Pln.ear at h3
    rw [gi_get hi] at h3
    simp only [inR, decide_eq_false_iff_not]
    omega
end

set_option maxRecDepth 100000 in
set_option maxHeartbeats 4000000 in
theorem counts_walk (Aq : Option Addr) (cq : Nat) (Ac : Option Addr) (cc : Nat) (p : Pln) (src n t : Int) (w : World) (h : PlnIn w Aq cq Ac cc p) :
    Calls Try.prog 8 #[p.val Aq cq Ac cc, .int .i64 src, .int .i64 n, .int .i64 t] w fun e w' => e = .returned (.bool true) ∧ Ext w w' := by
  obtain ⟨W0, hW0, hB0, hk0, hlt0⟩ := box1 w #[.slice Aq p.quo.length cq, .slice Ac p.cons.length cc] 25
  obtain ⟨W, hW, hB1, hk1, hlt1⟩ := box1 W0 #[.int .i64 src] 3
  have hB := hB0.trans hB1
  have hk := hk0.ext hB1
  have hc := hk0.cell
  have hlt := hk.lt
  have hfi : Calls Try.prog 17 #[p.val Aq cq Ac cc, .int .i64 n, .slice (some ⟨W0.heap.size, 0, none⟩) 1 1] W fun e w' => e = .returned (.bool (p.fine26 n [src])) ∧ Ext W w' :=
    lfine_any Aq cq Ac cc p n (some ⟨W0.heap.size, 0, none⟩) 1 [src] W (h.ext hB) (rd_blk hk1) (by simp)
  cases hf : p.fine26 n [src]
  case' false =>
    rw [hf] at hfi
    clear hf
    unfold Pln.val at hfi ⊢
    go_enter Try.func8, Try.ntmps8
    go_wp2_with fail
    clear hW hW0
    refine hfi.mono ?_
    rintro e w1 ⟨rfl, hb1⟩
    go_wp2_with fail
    refine (awake_any _).mono ?_
    rintro e w2 ⟨rfl, hb2⟩
    go_wp2
    go_ret
    exact ⟨rfl, (hB.trans hb1).trans hb2⟩
  rw [hf] at hfi
  obtain ⟨f1, f2, f3, f4⟩ := Pln.fine26_ok hf
  have hrd := (h.rd26 f1).ext hB
  have hqm := hrd.qm
  have s0 := f4 src (by simp)
  have h24 : p.quo.length ≤ 8 := by
    unfold Pln.gr26 at f1
    have := (Bool.or_eq_false_iff.1 f1).1
    simp only [Pln.gr24, decide_eq_false_iff_not] at this
    omega
  have hrv : p.rv n [src] = 0 := by
    unfold Pln.rv
    have e1 : p.argR n [src] = true := by simp only [Pln.argR, decide_eq_true_eq]; exact ⟨f3.1, f3.2, f4⟩
    simp only [f2, e1, if_true]
  have hmat : ∀ d, 0 ≤ d → d ≤ 1099511627776 → ∀ w, PlnRd w Aq cq Ac cc p → Calls Try.prog 11 #[p.val Aq cq Ac cc, .int .i64 0, .int .i64 d, .int .i64 n] w fun e w' =>
      ∃ b o c g q cr, e = .returned (.tuple #[.slice (some ⟨b, o, none⟩) p.quo.length c, .int .i64 0]) ∧ b < w'.heap.size ∧ w'.cell? ⟨b, o + src.toNat, none⟩ = some (.slice (some ⟨g, q, none⟩) p.quo.length cr) ∧ g < w'.heap.size ∧
        (∀ (k : Nat) (hk : k < (p.arrs src 0 n).length), w'.cell? ⟨g, q + k, none⟩ = some (.bool (inR d (p.arrs src 0 n)[k]))) ∧ Ext w w' := fun d d0 d1 w hw => by
    have hE := Pln.matE_of (r := 0) (d := d) f2 f3 ⟨Int.le_refl 0, d0, d1⟩
    have h1 := Matrix_any Aq cq Ac cc p 0 d n w hw
    unfold MatR at h1
    simp only [hE, Pln.matM_of hE, p.mat_len] at h1
    refine h1.mono ?_
    rintro e w' ⟨A, c, rfl, hM, hx⟩
    obtain ⟨b, o, rfl, hb, hcell⟩ := mat_heads hM (by omega)
    obtain ⟨g, q, cr, c1, c2, c3⟩ := hcell src.toNat (by omega)
    have hl := (Pln.arrs_lo (Pln.rv1 hrv).1 (Pln.rv1 hrv).2.2).1
    refine ⟨b, o, c, g, q, cr, rfl, hb, c1, c2, fun k hk => ?_, hx⟩
    have h4 := c3 k (by omega)
    have e1 : ((src.toNat : Nat) : Int) = src := by omega
    rw [e1, Pln.rch_inR hrv d0 hk] at h4
    exact h4
  have hcn := Pln.cnt0 hrv
  have hre := fun w h => Reached_any Aq cq Ac cc p src n w h (by omega)
  have hlo := Pln.arrs_lo (Pln.rv1 hrv).1 (Pln.rv1 hrv).2.2
  have HP := Lib.hid (show ∀ out e, RchP p src n out e → e = 0 ∧ LS (p.arrs src 0 n) out from fun out e hh => by unfold RchP at hh; rw [if_pos hrv] at hh; exact hh)
  obtain ⟨T, hT⟩ : ∃ T, p.arrs src 0 n = T := ⟨_, rfl⟩
  rw [hT] at hmat hcn hlo HP
  obtain ⟨l1, l2, l3⟩ := hlo
  have hm1 := hmat 1099511627776 (by omega) (by omega)
  have HM := Lib.hid hmat
  have Hcn := Lib.hid hcn
  have HT1 := Lib.hid l1
  have HT2 := Lib.hid l2
  have HT3 := Lib.hid l3
  clear hT hmat hcn l1 l2 l3 hf f1 f2 f3 f4 hrv
  unfold Pln.val at hfi hre hm1 HM ⊢
  go_enter Try.func8, Try.ntmps8
  go_wp2_with fail
  clear hW hW0
  refine hfi.mono ?_
  clear hfi
  rintro e w1 ⟨rfl, hb1⟩
  have hkp1 := hk.ext hb1
  replace hc := hkp1.cell
  go_wp2_with fail
  refine (hre _ (hrd.ext hb1)).mono ?_
  clear hre
  rintro e w2 ⟨A2, c2, f, er, rfl, ho, hb2, hp⟩
  obtain ⟨rfl, hLS⟩ := HP.out f er hp
  clear hp
  have hkp2 := hkp1.ext hb2
  replace hc := hkp2.cell
  go_wp2_with fail
  refine (hm1 _ ((hrd.ext hb1).ext hb2)).mono ?_
  clear hm1
  rintro e w3 ⟨b3, o3, c3, g3, q3, r3, rfl, hl3, k3, hg3, m3, hb3⟩
  have hkp3 := hkp2.ext hb3
  replace hc := hkp3.cell
  have hE3 := (hB.trans hb1).trans (hb2.trans hb3)
  have ho3 := ho.ext hb3
  have hok := hLS.ok (by rw [HT1.out]; omega) (fun x hx => (HT2.out x hx).2)
  obtain ⟨hf0, hf1⟩ := hLS.first HT3.out
  obtain ⟨L, hL⟩ : ∃ L, f.length = L + 1 := ⟨f.length - 1, by omega⟩
  have hfl := hLS.len
  have hLm : L ≤ 12 := by have := HT1.out; omega
  have hv0 : f[0].val = 1 := by rw [hLS.vals hf0, hf1, Hcn.out]; rfl
  have hvL : (f[L]'(by omega)).val = (cnt T 1099511627776 : Nat) := by
    rw [hLS.vals (by omega)]
    have h1 := hLS.tm0 (show L < f.length by omega)
    have h2 := (HT2.out _ h1.1).2
    rw [cnt_same h2 fun x hx hx0 _ => ?_]
    obtain ⟨i, hi, rfl⟩ := hLS.at hx hx0
    exact hLS.le (by omega) (by omega)
  have hfc := fun w h => fcheck_any A2 c2 f w h hok
  have HOK := Lib.hid hok
  have HLS := Lib.hid hLS
  have HL := Lib.hid hL
  have hLlt : L < f.length := by omega
  have hvL2 : gl f L = f[L] := gl_get hLlt
  have HvL := Lib.hid (show (gl f L).val = (cnt T 1099511627776 : Nat) by rw [hvL2]; exact hvL)
  clear hvL hvL2 hLlt
  obtain ⟨b, o, rfl, hbl, c0, c1⟩ := ho3.lev hf0
  rw [hf1] at c0
  rw [hv0] at c1
  simp only [Nat.zero_mul, Nat.add_zero] at c0 c1
  simp only [hL] at hfc
  rw [hL]
  have d1 : decide ((p.quo.length : Int) ≤ src) = false := decide_eq_false (by omega)
  have dL : ((L : Int) + 1 == 0) = false := by simp only [beq_eq_false_iff_ne]; omega
  have HO3 := Lib.hid ho3
  have HM3 := Lib.hid m3
  clear hok hLS hf1 hL hfl hv0 ho3 ho m3
  go_wp2_with fail
  refine (hfc _ HO3.out).mono ?_
  clear hfc
  rintro e w4 ⟨rfl, hb4⟩
  have c0' := hb4.cell_some c0
  have c1' := hb4.cell_some c1
  have hbl4 := Nat.lt_of_lt_of_le hbl hb4.size
  have hE4 := hE3.trans hb4
  have HR4 := Lib.hid (HO3.out.ext hb4)
  have hkp4 := hkp3.ext hb4
  have hrd4 := (((hrd.ext hb1).ext hb2).ext hb3).ext hb4
  go_wp2_with fail
  clear c0 c1 c0' c1' hbl hbl4 hc hkp1 hkp2 hk hk0 hk1 dL HO3
  go_loopg [72] (L + 1) (fun q k wr => ∃ j : Nat, j + q = L + 1 ∧ k = .int .i64 j ∧ Ext w4 wr)
  case atStart => exact ⟨0, by omega, rfl, Ext.refl _⟩
  case round =>
    obtain ⟨j, hjq, rfl, hx⟩ := hrel
    have Hjq := Lib.hid hjq
    have hjN : j ≤ L + 1 := by omega
    clear hjq
    have hR := HR4.out.ext hx
    by_cases hlt2 : j < L + 1
    · have hjf : j < f.length := by rw [HL.out]; exact hlt2
      cases j with
      | zero =>
        clear hR
        have hN := Near.refl wr
        go_wp2_with fail
        have hq := quiet_near hN
        refine wp_region_quiet_below (by kernel_rfl) (by kernel_rfl) ?_
        repeat (first | go_big_quiet_skip | (go_big_quiet_want; go_big_quiet_op; first | go_big_quiet_on | (apply Exists.intro; refine ⟨fun _ => ?_, ?_⟩; (focus (first | fail)); go_big_quiet_on)))
        refine wpQuiet_nil ?_
        intro w1 hw1
        clear hq
        replace hw1 := quiet_ext hw1
        replace hN := hN.step hw1
        have hC := hN.2
        go_wp2_with fail
        go_roundg (gk - 1)
        case measure => have := Hjq.out; omega
        case rel => exact ⟨0 + 1, by have := Hjq.out; omega, by go_num, hx.trans hN.1⟩
      | succ m =>
        have hup := HLS.out.up (i := m) (j := m + 1) (by omega) hjf
        obtain ⟨b', o', hA, hbl', x2, x3⟩ := hR.lev hjf
        injection hA with hA
        injection hA with hA hA2
        subst hA hA2
        obtain ⟨b', o', hA, hbl', y2, y3⟩ := hR.lev (k := m) (by omega)
        injection hA with hA
        injection hA with hA hA2
        subst hA hA2
        clear hR x2 y2
        generalize f[m + 1] = x at *
        generalize f[m]'(by omega) = y at *
        obtain ⟨xt, xv⟩ := x
        obtain ⟨yt, yv⟩ := y
        dsimp only at hup x3 y3
        have d3 : decide (xv ≤ yv) = false := decide_eq_false (by omega)
        have d4 : decide ((0 : Int) < (m : Int) + 1) = true := decide_eq_true (by omega)
        have hwj : IntKind.i64.wrap (m : Int) = (m : Int) := IntWalk.i64_in _ (by omega)
        have hN := Near.refl wr
        clear hup
        go_wp2_with fail
        have hq := quiet_near hN
        refine wp_region_quiet_below (by kernel_rfl) (by kernel_rfl) ?_
        repeat (first | go_big_quiet_skip | (go_big_quiet_want; go_big_quiet_op; first | go_big_quiet_on | (apply Exists.intro; refine ⟨fun _ => ?_, ?_⟩; (focus (first | fail)); go_big_quiet_on)))
        refine wpQuiet_nil ?_
        intro w1 hw1
        clear hq
        replace hw1 := quiet_ext hw1
        replace hN := hN.step hw1
        have hC := hN.2
        go_wp2_with fail
        go_roundg (gk - 1)
        case measure => have := Hjq.out; omega
        case rel => exact ⟨m + 1 + 1, by have := Hjq.out; omega, by go_num, hx.trans hN.1⟩
    · have he : j = L + 1 := by omega
      subst he
      clear Hjq hjN hlt2
      have hw3 := hb4.trans hx
      have k3' := hw3.cell_some k3
      have hl3' := Nat.lt_of_lt_of_le hl3 hw3.size
      have hg3' := Nat.lt_of_lt_of_le hg3 hw3.size
      have hE5 := hE4.trans hx
      have hkp5 := hkp4.ext hx
      have hrd5 := hrd4.ext hx
      have HM4 := Lib.hid (fun (k : Nat) (hk : k < T.length) => hw3.cell_some (HM3.out k hk))
      obtain ⟨b', o', hA, hbl', y2, y3⟩ := hR.lev (k := L) (by rw [HL.out]; omega)
      injection hA with hA
      injection hA with hA hA2
      subst hA hA2
      rw [← gl_get (show L < f.length by rw [HL.out]; omega), HvL.out] at y3
      have HY3 := Lib.hid y3
      clear y2 y3 k3 hl3 hg3 hw3 hb4
      obtain ⟨wo, rfl⟩ : ∃ wo, wo = wr := ⟨_, rfl⟩
      go_wp2_with fail
      go_loopg [14, 97] p.quo.length (fun q a k wr => ∃ m : Nat, m + q = p.quo.length ∧ k = .int .i64 m ∧ a = .int .i64 (cnt (T.take m) 1099511627776 : Nat) ∧ wr = wo)
      case atStart => exact ⟨0, by omega, rfl, rfl, rfl⟩
      case round =>
        obtain ⟨m, hmq, rfl, rfl, rfl⟩ := hrel
        have Hmq := Lib.hid hmq
        have hmN : m ≤ p.quo.length := by omega
        clear hmq
        by_cases hlt3 : m < p.quo.length
        · have hmT : m < T.length := by rw [HT1.out]; exact hlt3
          have hcell := HM4.out m hmT
          have hct := cnt_take hmT 1099511627776
          have hC : cnt (T.take m) 1099511627776 ≤ (T.take m).length := List.countP_le_length
          rw [List.length_take] at hC
          have hC2 : cnt (T.take m) 1099511627776 ≤ 12 := by omega
          clear hC
          have Hct := Lib.hid hct
          clear hct
          generalize cnt (T.take m) 1099511627776 = C at *
          generalize inR 1099511627776 T[m] = zz at *
          cases zz
          · go_wp2
            go_roundg (gk - 1)
            case measure => have := Hmq.out; omega
            case rel => exact ⟨m + 1, by have := Hmq.out; omega, by go_num, by rw [Hct.out]; simp, rfl⟩
          · go_wp2
            go_roundg (gk - 1)
            case measure => have := Hmq.out; omega
            case rel => exact ⟨m + 1, by have := Hmq.out; omega, by go_num, by rw [Hct.out]; simp, rfl⟩
        · have he : m = p.quo.length := by omega
          subst he
          have htt : T.take p.quo.length = T := by rw [← HT1.out]; exact List.take_length
          rw [htt]
          have y3 := HY3.out
          have hCb : cnt T 1099511627776 ≤ 12 := Nat.le_trans List.countP_le_length (by rw [HT1.out]; omega)
          generalize cnt T 1099511627776 = C1 at *
          have hwL : IntKind.i64.wrap (L : Int) = (L : Int) := IntWalk.i64_in _ (by omega)
          have hc5 := hkp5.cell
          have hl5 := hkp5.lt
          clear htt hlt3 hmN Hmq
          by_cases ht : 0 ≤ t ∧ t ≤ 1099511627776
          case' neg =>
            have ht2 : t < 0 ∨ (0 ≤ t ∧ 1099511627776 < t) := by omega
            rcases ht2 with ht2 | ⟨ht2, ht3⟩
            all_goals
              go_wp2_with fail
              refine (awake_any _).mono ?_
              rintro e w6 ⟨rfl, hb6⟩
              go_wp2
              go_ret
              exact ⟨rfl, hE5.trans hb6⟩
          obtain ⟨t0, t1⟩ := ht
          have hm5 := HM.out t t0 t1
          have hAt : ∀ w1, Ext w4 w1 → Calls Try.prog 21 #[.slice (some ⟨b, o, none⟩) (L + 1) c2, .int .i64 t] w1 fun e w' => e = .returned (.int .i64 (cnt T t : Nat)) ∧ Ext w1 w' := fun w1 hx1 => by
            have h1 := fat_any (some ⟨b, o, none⟩) c2 f t w1 (HR4.out.ext hx1) HOK.out ⟨t0, t1⟩
            rw [HL.out] at h1
            refine h1.mono ?_
            rintro e w' ⟨i, hi, rfl, hx2⟩
            rw [HLS.out.value HT3.out t0 hi]
            exact ⟨rfl, hx2⟩
          have HAt := Lib.hid hAt
          clear hAt
          go_wp2_with fail
          refine (hm5 _ hrd5).mono ?_
          rintro e w6 ⟨b6, o6, c6, g6, q6, r6, rfl, hl6, k6, hg6, m6, hb6⟩
          have HM6 := Lib.hid m6
          clear m6 hm5
          have hE6 := hE5.trans hb6
          have hxw := hx.trans hb6
          clear hc5 hl5 HY3 HM4 y3
          obtain ⟨wo, rfl⟩ : ∃ wo, wo = w6 := ⟨_, rfl⟩
          go_wp2_with fail
          go_loopg [14, 141] p.quo.length (fun q a k wz => ∃ m : Nat, m + q = p.quo.length ∧ k = .int .i64 m ∧ a = .int .i64 (cnt (T.take m) t : Nat) ∧ wz = wo)
          case atStart => exact ⟨0, by omega, rfl, rfl, rfl⟩
          case round =>
            obtain ⟨m, hmq, rfl, rfl, rfl⟩ := hrel
            have Hmq := Lib.hid hmq
            have hmN : m ≤ p.quo.length := by omega
            clear hmq
            by_cases hlt3 : m < p.quo.length
            · have hmT : m < T.length := by rw [HT1.out]; exact hlt3
              have hcell := HM6.out m hmT
              have hct := cnt_take hmT t
              have hC : cnt (T.take m) t ≤ (T.take m).length := List.countP_le_length
              rw [List.length_take] at hC
              have hC2 : cnt (T.take m) t ≤ 12 := by omega
              clear hC
              have Hct := Lib.hid hct
              clear hct
              generalize cnt (T.take m) t = C at *
              generalize inR t T[m] = zz at *
              cases zz
              · go_wp2
                go_roundg (gk - 1)
                case measure => have := Hmq.out; omega
                case rel => exact ⟨m + 1, by have := Hmq.out; omega, by go_num, by rw [Hct.out]; simp, rfl⟩
              · go_wp2
                go_roundg (gk - 1)
                case measure => have := Hmq.out; omega
                case rel => exact ⟨m + 1, by have := Hmq.out; omega, by go_num, by rw [Hct.out]; simp, rfl⟩
            · have he : m = p.quo.length := by omega
              subst he
              have htt : T.take p.quo.length = T := by rw [← HT1.out]; exact List.take_length
              rw [htt]
              clear htt
              go_wp2_with fail
              refine (HAt.out _ hxw).mono ?_
              rintro e w7 ⟨rfl, hb7⟩
              go_wp2_with fail
              refine (awake_any _).mono ?_
              rintro e w8 ⟨rfl, hb8⟩
              go_wp2
              go_ret
              exact ⟨rfl, hE6.trans (hb7.trans hb8)⟩

end Go.Proofs.Ytifopbkhflpbfaa
