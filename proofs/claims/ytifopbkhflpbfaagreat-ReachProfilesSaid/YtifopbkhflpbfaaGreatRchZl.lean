
/- Layer 26 (reach): slices.Equal of levels, and the walk of ReachProfiles. -/
import Derived.Test.YtifopbkhflpbfaaGreatRchZr
import Derived.Test.YtifopbkhflpbfaaGreatRchY
namespace Go.Proofs.YtifopbkhflpbfaaGreat
set_option linter.unusedVariables false
set_option linter.unusedSimpArgs false
open Go.RowKit Go.Shelf
attribute [local go_sem] Oper.semAt_some

theorem run_neq_lev (a b : Int) (w : World) :
    (binOp .neq 39 (.agg #[.int .i64 a, .int .i64 b]) (.agg #[.int .i64 a, .int .i64 b])).run Tryz.prog w = .ok (.bool false) w := by
  go_simp
set_option maxHeartbeats 2000000 in
theorem equalLev_ex (A B : Option Addr) (c d : Nat) (l : List Lev) (w : World) (hA : Rd ELev w A l) (hB : Rd ELev w B l) (hmax : l.length ≤ 1000000) :
    Calls Tryz.prog 12 #[.slice A l.length c, .slice B l.length d] w fun e w' => e = .returned (.bool true) ∧ Ext w w' := by
  go_enter Tryz.func12, Tryz.ntmps12
  go_wp2
  go_loopg [13] l.length (fun q i wr => ∃ k : Nat, k + q = l.length ∧ i = .int .i64 k ∧ Ext w wr)
  case atStart => exact ⟨0, by omega, rfl, Ext.refl _⟩
  case round =>
    obtain ⟨k, hk, rfl, hx⟩ := hrel
    have Hk := Lib.hid hk
    have hkl : k ≤ l.length := by omega
    clear hk
    by_cases hlt : k < l.length
    · obtain ⟨b, o, rfl, hb, c0, c1⟩ := (hA.ext hx).lev hlt
      obtain ⟨b2, o2, rfl, hb2, d0, d1⟩ := (hB.ext hx).lev hlt
      generalize l[k] = x at *
      obtain ⟨xt, xv⟩ := x
      dsimp only at c0 c1 d0 d1
      have he := run_neq_lev xt xv
      have hN := Near.refl wr
      go_wp2
      have hq := quiet_near hN
      refine wp_region_quiet_below (by kernel_rfl) (by kernel_rfl) ?_
      repeat (first | go_big_quiet_skip | (go_big_quiet_want; go_big_quiet_op; first | go_big_quiet_on | (apply Exists.intro; refine ⟨fun _ => ?_, ?_⟩; (focus (first | fail)); go_big_quiet_on)))
      refine wpQuiet_nil ?_
      intro w1 hw1
      clear hq
      replace hw1 := quiet_ext hw1
      replace hN := hN.step hw1
      have hC := hN.2
      go_wp2
      go_roundg (gk - 1)
      case measure => have := Hk.out; omega
      case rel => exact ⟨k + 1, by have := Hk.out; omega, by go_num, hx.trans hN.1⟩
    · go_wp2
      go_ret
      exact ⟨rfl, hx⟩

theorem LevP.len {p : Pln} {src dst n : Int} {out : List Lev} {b : Int × Int} {e : Int} (h : LevP p src dst n out b e) : out.length ≤ 1001 := by
  unfold LevP at h
  split at h
  · split at h
    · rw [h.2.1]; simp
    · rcases h with ⟨_, e, _⟩ | ⟨_, l, t, _, _, hl, rfl, _⟩
      · rw [e]; simp
      · by_cases hn : l = []
        · unfold lvl; rw [if_pos hn]; simp
        · rw [lvl_len hn]; omega
  · rw [h.2.1]; simp
theorem RchP.len {p : Pln} {src n : Int} {out : List Lev} {e : Int} (h : RchP p src n out e) (hq : p.quo.length ≤ 1000) : out.length ≤ 1000 := by
  unfold RchP at h
  split at h
  · rename_i h0
    have h1 := (Pln.arrs_lo (Pln.rv1 h0).1 (Pln.rv1 h0).2.2).1
    have := h.2.len
    omega
  · rw [h.2]; simp

set_option maxRecDepth 100000 in
set_option maxHeartbeats 4000000 in
theorem profiles_walk (Aq : Option Addr) (cq : Nat) (Ac : Option Addr) (cc : Nat) (p : Pln) (src dst n : Int) (w : World) (h : PlnIn w Aq cq Ac cc p) :
    Calls Tryz.prog 3 #[p.val Aq cq Ac cc, .int .i64 src, .int .i64 dst, .int .i64 n] w fun e w' => e = .returned (.bool true) ∧ Ext w w' := by
  obtain ⟨W, hW, hB, hk, hlt⟩ := box1 w #[.slice Aq p.quo.length cq, .slice Ac p.cons.length cc] 25
  have hc := hk.cell
  have hgr := great26_any Aq cq Ac cc p W (h.ext hB)
  cases hg : p.gr26
  case' true =>
    rw [hg] at hgr
    clear hg
    unfold Pln.val at hgr ⊢
    go_enter Tryz.func3, Tryz.ntmps3
    go_wp2_with fail
    clear hW
    refine hgr.mono ?_
    rintro e w1 ⟨rfl, hb1⟩
    go_wp2_with fail
    refine (awake_any _).mono ?_
    rintro e w2 ⟨rfl, hb2⟩
    go_wp2
    go_ret
    exact ⟨rfl, (hB.trans hb1).trans hb2⟩
  rw [hg] at hgr
  have h24 := hg
  unfold Pln.gr26 at h24
  replace h24 := (Bool.or_eq_false_iff.1 h24).1
  have hrd := (h.rd h24).ext hB
  simp only [Pln.gr24, decide_eq_false_iff_not] at h24
  have hq8 : p.quo.length ≤ 8 := by omega
  clear hg h24
  have h1 := fun w h => Profile_any Aq cq Ac cc p src dst n w h
  have h2 := fun w h => rProfile_any Aq cq Ac cc p src dst n w h
  have h3 := fun w h => Fastest_any Aq cq Ac cc p src dst n w h
  have h4 := fun w h => rFastest_any Aq cq Ac cc p src dst n w h
  have h5 := fun w h => Reached_any Aq cq Ac cc p src n w h (by omega)
  have h6 := fun w h => rReached_any Aq cq Ac cc p src n w h
  unfold Pln.val at hgr h1 h2 h3 h4 h5 h6 ⊢
  go_enter Tryz.func3, Tryz.ntmps3
  go_wp2_with fail
  clear hW
  refine hgr.mono ?_
  clear hgr
  rintro e w1 ⟨rfl, hb1⟩
  have hk1 := hk.ext hb1
  replace hc := hk1.cell
  have hrd1 := hrd.ext hb1
  go_wp2_with fail
  refine (h1 _ hrd1).mono ?_
  clear h1
  rintro e w2 ⟨A2, c2, out, b, er, rfl, ho2, hb2, hp2⟩
  have hk2 := hk1.ext hb2
  replace hc := hk2.cell
  have hrd2 := hrd1.ext hb2
  have hR2 := ho2.rd
  have Hp2 := Lib.hid hp2
  clear hp2
  go_wp2_with fail
  refine (h2 _ hrd2).mono ?_
  clear h2
  rintro e w3 ⟨A3, c3, out', b', er', rfl, hR3, hb3, hp3⟩
  obtain ⟨rfl, rfl, rfl⟩ := hp3.unique Hp2.out
  clear hp3
  have hk3 := hk2.ext hb3
  replace hc := hk3.cell
  have hrd3 := hrd2.ext hb3
  go_wp2_with fail
  refine (h3 _ hrd3).mono ?_
  clear h3
  rintro e w4 ⟨out4, b4, er4, rfl, hb4, hp4⟩
  obtain ⟨rfl, rfl, rfl⟩ := hp4.unique Hp2.out
  clear hp4
  have hk4 := hk3.ext hb4
  replace hc := hk4.cell
  have hl4 := hk4.lt
  have hrd4 := hrd3.ext hb4
  have HZ := Lib.hid (show ∃ z1 z2 z3, (fstB out4 b4 er4).1 = z1 ∧ (fstB out4 b4 er4).2 = z2 ∧ fstE out4 er4 = z3 from ⟨_, _, _, rfl, rfl, rfl⟩)
  obtain ⟨z1, z2, z3, hz1, hz2, hz3⟩ := HZ.out
  have Hz := Lib.hid (And.intro hz1 (And.intro hz2 hz3))
  rw [hz1, hz2, hz3]
  clear hz1 hz2 hz3 HZ
  go_wp2_with fail
  obtain ⟨W5, hW5, hB5, hk5, hl5⟩ := box1 w4 #[.int .i64 z1, .int .i64 z2] 33
  rw [hW5]
  clear hW5
  refine (h4 _ (hrd4.ext hB5)).mono ?_
  clear h4
  rintro e w6 ⟨out6, b6, er6, rfl, hb6, hp6⟩
  obtain ⟨rfl, rfl, rfl⟩ := hp6.unique Hp2.out
  clear hp6
  rw [Hz.out.1, Hz.out.2.1, Hz.out.2.2]
  have hB46 := hB5.trans hb6
  have hk6 := hk4.ext hB46
  have hs6 := hk5.ext hb6
  replace hc := hk6.cell
  have hl6 := hk6.lt
  have hcs := hs6.cell
  have hls := hs6.lt
  have hrd6 := hrd4.ext hB46
  go_wp2_with fail
  obtain ⟨W7, hW7, hB7, hk7, hl7⟩ := box1 w6 #[.int .i64 z1, .int .i64 z2] 33
  rw [hW7]
  clear hW7
  refine (h5 _ (hrd6.ext hB7)).mono ?_
  clear h5
  rintro e w8 ⟨A8, c8, o8, e8, rfl, hR8, hb8, hp8⟩
  have hB68 := hB7.trans hb8
  have hk8 := hk6.ext hB68
  have hs8 := hs6.ext hB68
  have ht8 := hk7.ext hb8
  replace hc := hk8.cell
  have hrd8 := hrd6.ext hB68
  have Hp8 := Lib.hid hp8
  clear hp8 hcs
  go_wp2_with fail
  refine (h6 _ hrd8).mono ?_
  clear h6
  rintro e w9 ⟨A9, c9, o9, e9, rfl, hR9, hb9, hp9⟩
  obtain ⟨rfl, rfl⟩ := hp9.unique Hp8.out
  clear hp9
  have hs9 := hs8.ext hb9
  have ht9 := ht8.ext hb9
  have hl2 := Hp2.out.len
  have hl8b := Hp8.out.len (by omega)
  have hB9 := (hB46.trans hB68).trans hb9
  go_wp2_with fail
  refine (equalLev_ex A2 A3 c2 c3 _ w9 (((hR2.ext hb3).ext hb4).ext hB9) ((hR3.ext hb4).ext hB9) (by omega)).mono ?_
  rintro e w10 ⟨rfl, hb10⟩
  have hs10 := hs9.ext hb10
  have ht10 := ht9.ext hb10
  have hc10 := hs10.cell
  have hct10 := ht10.cell
  have hls10 := hs10.lt
  have hlt10 := ht10.lt
  clear hc
  go_wp2_with fail
  refine (equalLev_ex A8 A9 c8 c9 _ w10 ((hR8.ext hb9).ext hb10) (hR9.ext hb10) (by omega)).mono ?_
  rintro e w11 ⟨rfl, hb11⟩
  go_wp2_with fail
  refine (awake_any _).mono ?_
  rintro e w12 ⟨rfl, hb12⟩
  go_wp2
  go_ret
  exact ⟨rfl, ((hB.trans hb1).trans (hb2.trans hb3)).trans ((hb4.trans hB9).trans ((hb10.trans hb11).trans hb12))⟩

end Go.Proofs.YtifopbkhflpbfaaGreat
