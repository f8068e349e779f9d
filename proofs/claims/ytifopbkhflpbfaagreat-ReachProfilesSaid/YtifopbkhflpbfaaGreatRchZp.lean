
/- Layer 26 (reach): the reference's earliest and Profile. -/
import Derived.Test.YtifopbkhflpbfaaGreatRchRe
import Derived.Test.YtifopbkhflpbfaaGreatRchC
import Derived.Test.YtifopbkhflpbfaaGreatJrW3
import Derived.Test.YtifopbkhflpbfaaGreatLatW5
namespace Go.Proofs.YtifopbkhflpbfaaGreat
set_option linter.unusedVariables false
set_option linter.unusedSimpArgs false
open Go.RowKit Go.Shelf
attribute [local go_sem] Oper.semAt_some

/-- The earliest arrival; 0 if there is none. -/
def Pln.ear0 (p : Pln) (src dst n t : Int) : Int := max (p.ear src dst n t) 0
set_option maxRecDepth 100000 in
set_option maxHeartbeats 4000000 in
theorem rearl_any (Aq : Option Addr) (cq : Nat) (Ac : Option Addr) (cc : Nat) (p : Pln) (src dst n t : Int) (w : World) (h : PlnRd w Aq cq Ac cc p) (hP : PA p src dst n) (hck : p.chk = 0) (h0 : 0 ≤ t) (h1 : t ≤ 1099511627776) :
    Calls Tryz.prog 20 #[p.val Aq cq Ac cc, .int .i64 src, .int .i64 dst, .int .i64 t, .int .i64 n] w fun e w' => e = .returned (.int .i64 (p.ear0 src dst n t)) ∧ Ext w w' := by
  obtain ⟨W, hW, hB, hk, hlt⟩ := box1 w #[.slice Aq p.quo.length cq, .slice Ac p.cons.length cc] 25
  have hc := hk.cell
  have hF := hP.argF h0 h1
  have hfE : p.forE src t n = 0 := by unfold Pln.forE; rw [if_pos hck, hF]; rfl
  have hfT : p.forT src t n = p.arrs src t n := by unfold Pln.forT; rw [if_pos hfE]
  have hf := rForemost_any Aq cq Ac cc p src t n W (h.ext hB)
  rw [hfE, hfT] at hf
  have hl := (hP.least h0 h1).len
  have d0 := hP.d0
  have d1 := hP.d1
  have hear : p.ear src dst n t = gi (p.arrs src t n) dst := rfl
  unfold Pln.ear0
  rw [hear]
  obtain ⟨T, hT⟩ : ∃ T, p.arrs src t n = T := ⟨_, rfl⟩
  rw [hT] at hl hf ⊢
  clear hT hear hfE hfT hF hP hck
  unfold Pln.val at hf ⊢
  go_enter Tryz.func20, Tryz.ntmps20
  go_wp2_with fail
  clear hW
  refine hf.mono ?_
  clear hf
  rintro e w2 ⟨A2, c2, rfl, hR2, hb2, _⟩
  obtain ⟨bm, om, rfl, hbm, hcm⟩ := hR2.int (k := dst.toNat) (by omega)
  rw [← gi_of d0 (by omega)] at hcm
  have hdl : dst < (T.length : Int) := by omega
  clear hl
  obtain ⟨y, hy⟩ : ∃ y, gi T dst = y := ⟨_, rfl⟩
  rw [hy] at hcm
  have Hy := Lib.hid hy
  clear hy
  go_wp2
  all_goals go_ret
  all_goals exact ⟨by rw [Hy.out]; rfl, hB.trans hb2⟩

/-- What the reference's Profile returns. -/
def ProZ (p : Pln) (src dst n : Int) (w : World) (e : Ending) (w' : World) : Prop :=
  ∃ (A : Option Addr) (c : Nat) (out : List Lev) (b : Int × Int) (er : Int), e = .returned (.tuple #[.slice A out.length c, .int .i64 er]) ∧ Rd ELev w' A out ∧ Ext w w' ∧ LevP p src dst n out b er

set_option maxRecDepth 100000 in
set_option maxHeartbeats 4000000 in
theorem rProfile_any (Aq : Option Addr) (cq : Nat) (Ac : Option Addr) (cc : Nat) (p : Pln) (src dst n : Int) (w : World) (h : PlnRd w Aq cq Ac cc p) :
    Calls Tryz.prog 7 #[p.val Aq cq Ac cc, .int .i64 src, .int .i64 dst, .int .i64 n] w (ProZ p src dst n w) := by
  obtain ⟨W0, hW0, hB0, hk0, hlt0⟩ := box1 w #[.slice Aq p.quo.length cq, .slice Ac p.cons.length cc] 25
  obtain ⟨W, hW, hB1, hk1, hlt1⟩ := box1 W0 #[.int .i64 src, .int .i64 dst] 3
  have hB := hB0.trans hB1
  have hk := hk0.ext hB1
  have hc := hk0.cell
  have hlt := hk.lt
  have hrd := h.ext hB
  have hv : Calls Tryz.prog 19 #[p.val Aq cq Ac cc, .int .i64 n, .slice (some ⟨W0.heap.size, 0, none⟩) 2 2] W fun e w' => e = .returned (.int .i64 (p.rv n [src, dst])) ∧ Ext W w' :=
    rcheck26_any Aq cq Ac cc p n (some ⟨W0.heap.size, 0, none⟩) 2 [src, dst] W hrd (rd_blk hk1) (by simp)
  by_cases h0 : p.rv n [src, dst] = 0
  case' neg =>
    have hR := Lib.hid (show LevP p src dst n [] (0, 0) (p.rv n [src, dst]) by unfold LevP; rw [if_neg h0]; exact ⟨rfl, rfl, rfl⟩)
    have d0 : (p.rv n [src, dst] != 0) = true := by simpa using h0
    generalize p.rv n [src, dst] = rv at *
    clear h0
    unfold Pln.val at hv ⊢
    go_enter Tryz.func7, Tryz.ntmps7
    go_wp2_with fail
    clear hW hW0
    refine hv.mono ?_
    rintro e w1 ⟨rfl, hb1⟩
    go_wp2
    go_ret2
    exact ⟨_, 0, [], (0, 0), rv, rfl, Rd.nil, (hB.trans hb1).alloc _, hR.out⟩
  rw [h0] at hv
  by_cases hne : src = dst
  · have hR := Lib.hid (show LevP p src dst n [] (0, 0) 10 by unfold LevP; rw [if_pos h0, if_pos hne]; exact ⟨rfl, rfl, rfl⟩)
    have d0 : (src == dst) = true := by simpa using hne
    clear hne
    unfold Pln.val at hv ⊢
    go_enter Tryz.func7, Tryz.ntmps7
    go_wp2_with fail
    clear hW hW0
    refine hv.mono ?_
    rintro e w1 ⟨rfl, hb1⟩
    go_wp2
    go_ret2
    exact ⟨_, 0, [], (0, 0), 10, rfl, Rd.nil, (hB.trans hb1).alloc _, hR.out⟩
  have d0 : (src == dst) = false := by simpa using hne
  have hPA := Pln.rv_pa h0 hne
  have hck : p.chk = 0 := by
    unfold Pln.rv at h0
    split at h0
    · rename_i h1; exact h1
    · omega
  have HLIM := Lib.hid (show ∀ l t, Chn p src dst n l t → (l.length = 1001 ∨ (l.length = 1000 ∧ p.stopAt src dst n t)) → LevP p src dst n [] (0, 0) 4 from fun l t h1 h2 => by
    unfold LevP; rw [if_pos h0, if_neg hne]; exact .inl ⟨rfl, rfl, rfl, l, t, h1, h2⟩)
  have HOK := Lib.hid (show ∀ l t, Chn p src dst n l t → p.stopAt src dst n t → l.length < 1000 → LevP p src dst n (lvl l t) (bestS l) 0 from fun l t h1 h2 h3 => by
    unfold LevP; rw [if_pos h0, if_neg hne]; exact .inr ⟨rfl, l, t, h1, h2, h3, rfl, rfl⟩)
  have hs1 := hPA.s1
  have hs0 := hPA.s0
  have he := fun t w h h0 h1 => rearl_any Aq cq Ac cc p src dst n t w h hPA hck h0 h1
  have hL : ∀ a w, PlnRd w Aq cq Ac cc p → 0 ≤ a → a ≤ 1099511627776 → Calls Tryz.prog 21 #[p.val Aq cq Ac cc, .int .i64 dst, .int .i64 a, .int .i64 n] w fun e w' => ∃ b o c, e = .returned (.tuple #[.slice (some ⟨b, o, none⟩) p.quo.length c, .int .i64 0]) ∧ b < w'.heap.size ∧ w'.cell? ⟨b, o + src.toNat, none⟩ = some (.int .i64 (p.lat src dst n a)) ∧ Ext w w' := fun a w hw a0 a1 => by
    have hb := hPA.argB a0 a1
    have e1 : p.latE dst a n = 0 := by unfold Pln.latE; rw [if_pos hck, hb]; rfl
    have e2 : p.latT dst a n = p.times dst a n := by unfold Pln.latT; rw [if_pos e1]
    have h1 := rLatest_any Aq cq Ac cc p dst a n w hw
    rw [e1, e2] at h1
    refine h1.mono ?_
    rintro e w' ⟨A, c, rfl, hR, hx, _⟩
    have hl := Pln.times_len hPA.ok hb
    obtain ⟨b, o, rfl, hbl, hcell⟩ := hR.int (k := src.toNat) (by omega)
    rw [← gi_of hs0 (by omega)] at hcell
    exact ⟨b, o, c, by rw [hl], hbl, hcell, hx⟩
  have HPA := Lib.hid hPA
  clear h0 hne hck hPA
  obtain ⟨i0, hi0, hz0, hz1, hz2⟩ := info_parts info_lev
  unfold Pln.val at hv he hL ⊢
  go_enter Tryz.func7, Tryz.ntmps7
  go_wp2_with fail
  clear hW hW0
  refine hv.mono ?_
  clear hv
  rintro e w1 ⟨rfl, hb1⟩
  have hkp1 := hk.ext hb1
  replace hc := hkp1.cell
  obtain ⟨W2, hW2, hB2, hk2, hl2⟩ := box1 w1 #[] 39
  have own0 := Owns.made (E := ELev) w1 w1.heap.size 39 (Nat.le_refl _)
  rw [hW2] at own0
  have hkp2 := hkp1.ext hB2
  replace hc := hkp2.cell
  have hrd2 := (hrd.ext hb1).ext hB2
  go_wp2_with fail
  clear hW2
  refine (he 0 _ hrd2 (Int.le_refl 0) (by omega)).mono ?_
  rintro e w3 ⟨rfl, hb3⟩
  have hE3 := hB.trans hb1
  have hx13 := hB2.trans hb3
  have hrd3 := hrd.ext hb1
  have hkp3 := hkp1
  have hl1 := hkp1.lt
  clear hc hk0 hk1 hk hkp1 hkp2 hk2 hrd2
  go_wp2_with fail
  go_loopg [11, 12, 13] 1001 (fun q u r a wr => ∃ (l : List Stp) (t : Int), l.length + q = 1001 ∧ 0 < q ∧ r = .int .i64 t ∧ a = .int .i64 (p.ear0 src dst n t) ∧ Owns ELev wr w1.heap.size 39 u (lvs l) ∧ Hid (Chn p src dst n l t) ∧ Ext w1 wr)
  case atStart => exact ⟨[], 0, rfl, by omega, rfl, rfl, own0.ext hb3, Lib.hid .nil, hx13⟩
  case round =>
    obtain ⟨l, t, hlq, hq0, rfl, rfl, hu, hch, hx⟩ := hrel
    have Hlq := Lib.hid hlq
    have hll : l.length ≤ 1000 := by omega
    have hrg := hch.out.rng HPA.out
    obtain ⟨t0, t1, t2⟩ := hrg
    have hcs := HPA.out.ear_cases t0 t1
    have hkr := hkp3.ext hx
    have hc := hkr.cell
    have hsz := hx.size
    obtain ⟨Au, cu, rfl, hRu⟩ := hu.form
    have hlu := lvs_len l
    rw [hlu] at hu ⊢
    clear hlq
    rcases hcs with hcs | ⟨-, g1, g2⟩
    · have hst := Lib.hid (show p.stopAt src dst n t from .inr hcs)
      have he0 : p.ear0 src dst n t = 0 := by unfold Pln.ear0; rw [hcs]; rfl
      rw [he0]
      clear hcs he0
      by_cases hl0 : l.length = 0
      · obtain rfl : l = [] := List.eq_nil_of_length_eq_zero hl0
        have HR := Lib.hid (HOK.out _ _ hch.out hst.out (by simp))
        simp only [List.length_nil] at hu ⊢
        go_wp2
        go_ret2
        exact ⟨Au, cu, lvl [] t, bestS [], 0, rfl, Rd.nil, hE3.trans hx, HR.out⟩
      · obtain ⟨L, hLe⟩ : ∃ L, l.length = L + 1 := ⟨l.length - 1, by omega⟩
        have dL : ((L : Int) + 1 == 0) = false := by simp only [beq_eq_false_iff_ne]; omega
        have hLm : L ≤ 1000 := by omega
        have hnl : l ≠ [] := fun e => by rw [e] at hLe; simp at hLe
        have hlve : lvl l t = lvs l ++ [⟨t, 0⟩] := by unfold lvl; rw [if_neg hnl]
        have HL := Lib.hid hLe
        have Hlu := Lib.hid hlu
        have Hlv := Lib.hid hlve
        rw [hLe] at hu ⊢
        clear hLe hl0 hlu hll hlve
        by_cases hbig : (1000 : Int) < (L : Int) + 1 + 1
        · have dB : decide ((1000 : Int) < (L : Int) + 1 + 1) = true := decide_eq_true hbig
          have HR := Lib.hid (HLIM.out l t hch.out (by have := HL.out; rcases Nat.lt_or_ge L 1000 with h9 | h9; · exact .inr ⟨by omega, hst.out⟩
                                                       exact .inl (by omega)))
          go_wp2_with (at_builtin; refine wpList_push rfl (.tmp 72) (.tmp 75) _ (by rfl) w1.heap.size 39 i0 _ 16 Tryz.underlying28 hi0 hz0 hz1 hz2 (by rfl) (.slice Au (L + 1) cu) (by rfl) (hu.ext ((Ext.refl _).alloc _)) wr.heap.size (⟨t, 0⟩ : Lev) (by rfl) (Blk.new wr _ _) (by rw [Hlu.out, HL.out]; simp only [maxLen]; omega) (by rw [Hlu.out, HL.out]; omega) (by simp; omega) ?_; intro v6 w6 hv6 hg6 hat6; (obtain ⟨A6, c6, hve6, hR6⟩ := hv6.form); subst hve6; rw [List.length_append, Hlu.out, HL.out, List.length_singleton])
          have hx6 := ext_grown (hE3.trans hx |>.alloc _) (hu.ext ((Ext.refl _).alloc _)) (by have := (hB.trans hb1).size; omega) hg6
          go_ret2
          exact ⟨_, 0, [], (0, 0), 4, rfl, Rd.nil, hx6.alloc _, HR.out⟩
        · have dB : decide ((1000 : Int) < (L : Int) + 1 + 1) = false := decide_eq_false hbig
          have HR := Lib.hid (HOK.out l t hch.out hst.out (by have := HL.out; omega))
          go_wp2_with (at_builtin; refine wpList_push rfl (.tmp 72) (.tmp 75) _ (by rfl) w1.heap.size 39 i0 _ 16 Tryz.underlying28 hi0 hz0 hz1 hz2 (by rfl) (.slice Au (L + 1) cu) (by rfl) (hu.ext ((Ext.refl _).alloc _)) wr.heap.size (⟨t, 0⟩ : Lev) (by rfl) (Blk.new wr _ _) (by rw [Hlu.out, HL.out]; simp only [maxLen]; omega) (by rw [Hlu.out, HL.out]; omega) (by simp; omega) ?_; intro v6 w6 hv6 hg6 hat6; (obtain ⟨A6, c6, hve6, hR6⟩ := hv6.form); subst hve6; rw [List.length_append, Hlu.out, HL.out, List.length_singleton])
          have hx6 := ext_grown (hE3.trans hx |>.alloc _) (hu.ext ((Ext.refl _).alloc _)) (by have := (hB.trans hb1).size; omega) hg6
          go_ret2
          exact ⟨A6, c6, lvl l t, bestS l, 0, by rw [Hlv.out, List.length_append, Hlu.out, HL.out]; rfl, by rw [Hlv.out]; exact hR6, hx6, HR.out⟩
    · have hge : p.ear src dst n t ≠ -1 := by omega
      have he0 : p.ear0 src dst n t = p.ear src dst n t := by unfold Pln.ear0; omega
      have hnx := Lib.hid (Chn.snoc hch.out t1 hge)
      have hrg2 := hnx.out.rng HPA.out
      have hlr := HPA.out.lat_rng (a := p.ear src dst n t) (by omega) g2
      have hstp : p.stp src dst n t = ⟨t, p.lat src dst n (p.ear src dst n t), p.ear src dst n t⟩ := rfl
      have Hst := Lib.hid hstp
      rw [he0]
      have hLa := fun w hw => hL (p.ear src dst n t) w hw (by omega) g2
      have hea := fun w hw => he (p.lat src dst n (p.ear src dst n t) + 1) w hw hrg2.1 hrg2.2.1
      have Hlv := Lib.hid (show lvs (l ++ [p.stp src dst n t]) = lvs l ++ [⟨t, p.ear src dst n t⟩] by rw [lvs_snoc]; rfl)
      have Hlen := Lib.hid (show (l ++ [p.stp src dst n t]).length = l.length + 1 by simp)
      clear he0 hge hrg2 hstp
      generalize p.ear src dst n t = x at *
      generalize p.lat src dst n x = y at *
      have dx : decide (0 < x) = true := decide_eq_true (by omega)
      have Hlu := Lib.hid hlu
      clear hlu
      obtain ⟨L, hL0⟩ : ∃ L, l.length = L := ⟨_, rfl⟩
      have HL0 := Lib.hid hL0
      rw [hL0] at hu hll ⊢
      clear hL0
      go_wp2_with (at_builtin; refine wpList_push rfl (.tmp 45) (.tmp 49) _ (by rfl) w1.heap.size 39 i0 _ 16 Tryz.underlying28 hi0 hz0 hz1 hz2 (by rfl) (.slice Au L cu) (by rfl) (hu.ext ((Ext.refl _).alloc _)) wr.heap.size (⟨t, x⟩ : Lev) (by rfl) (Blk.new wr _ _) (by rw [Hlu.out, HL0.out]; simp only [maxLen]; omega) (by rw [Hlu.out, HL0.out]; omega) (by simp; omega) ?_; intro v6 w6 hv6 hg6 hat6; (obtain ⟨A6, c6, hve6, hR6⟩ := hv6.form); subst hve6; rw [List.length_append, Hlu.out, HL0.out, List.length_singleton] at hv6 ⊢; (have hx6 := ext_grown (hx.alloc _) (hu.ext ((Ext.refl _).alloc _)) (by omega) hg6); (have hk6 := hkp3.ext hx6); (have hc6 := hk6.cell))
      refine (hLa _ (hrd3.ext hx6)).mono ?_
      rintro e w7 ⟨bl, ol, cl, rfl, hbl7, hcl7, hb7⟩
      have hk7 := hk6.ext hb7
      have hc7 := hk7.cell
      have hl7 := hk7.lt
      clear hc6 hc hLa
      by_cases hbig : (1000 : Int) < (L : Int) + 1
      · have dB : decide ((1000 : Int) < (L : Int) + 1) = true := decide_eq_true hbig
        have HR := Lib.hid (HLIM.out _ _ hnx.out (.inl (by rw [Hlen.out, HL0.out]; omega)))
        go_wp2
        go_ret2
        exact ⟨_, 0, [], (0, 0), 4, rfl, Rd.nil, ((hE3.trans hx6).trans hb7).alloc _, HR.out⟩
      · have dB : decide ((1000 : Int) < (L : Int) + 1) = false := decide_eq_false hbig
        have hLs := Lib.hid hbig
        clear hbig
        go_wp2_with fail
        refine (hea _ (hrd3.ext (hx6.trans hb7))).mono ?_
        rintro e w8 ⟨rfl, hb8⟩
        go_wp2
        go_roundg (gk - 1)
        case measure => have := Hlq.out; have := HL0.out; omega
        case rel => exact ⟨_, _, by rw [Hlen.out, HL0.out]; have := Hlq.out; have := HL0.out; omega, by have := Hlq.out; have := HL0.out; have := hLs.out; omega, rfl, rfl, by rw [Hlv.out]; exact (hv6.ext hb7).ext hb8, hnx, (hx6.trans hb7).trans hb8⟩

end Go.Proofs.YtifopbkhflpbfaaGreat
