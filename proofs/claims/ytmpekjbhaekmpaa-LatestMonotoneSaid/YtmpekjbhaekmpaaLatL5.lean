/- Layer 25 (latest): the walk of LatestSufficient. -/
import Derived.Test.YtmpekjbhaekmpaaLatL4
namespace Go.Proofs.Ytmpekjbhaekmpaa
set_option linter.unusedVariables false
open Go.RowKit Go.Shelf

theorem LPath.nil_dest {cons : List Con} {m : List Int} {dest size x : Int} {l : List Hp} (h : LPath cons m dest size x l) (hl : l = []) : x = dest := by
  cases h with
  | done => rfl
  | step => cases hl

set_option maxRecDepth 100000 in
set_option maxHeartbeats 4000000 in
theorem suff_walk (Aq : Option Addr) (cq : Nat) (Ac : Option Addr) (cc : Nat) (p : Pln) (q : Req) (w : World) (h : PlnIn w Aq cq Ac cc p) :
    Calls Try.prog 7 #[p.val Aq cq Ac cc, q.val] w fun e w' => e = .returned (.bool true) ∧ Ext w w' := by
  obtain ⟨W, hW, hB, hk, hkr, hlt, hltr⟩ := box2 w #[.slice Aq p.quo.length cq, .slice Ac p.cons.length cc] q.cells 25 34
  simp only [Req.cells] at hW hkr
  have hc := hk.cell
  have hcr := hkr.cell
  have hIn : PlnIn W Aq cq Ac cc p := ⟨h.q.ext hB, h.c.ext hB, h.qc, h.ck, h.qm, h.cm⟩
  have hfi := fine_any Aq cq Ac cc p q W hIn
  cases hf : fineB p q
  · rw [hf] at hfi
    unfold Pln.val at hfi ⊢
    unfold Req.val at hfi ⊢
    go_enter Try.func7, Try.ntmps7
    go_wp2_with fail
    clear hW
    refine hfi.mono ?_
    clear hfi
    rintro e w1 ⟨rfl, hb1⟩
    go_wp2_with fail
    refine (awake_any _).mono ?_
    rintro e w2 ⟨rfl, hb2⟩
    go_wp2
    go_ret
    exact ⟨rfl, (hB.trans hb1).trans hb2⟩
  · rw [hf] at hfi
    obtain ⟨f1, f2, f3⟩ := fine_of hf
    have hrd := hIn.rd f1
    have hok := Pln.ok_of f2
    have hlt1 := (latT_fix f2 f3).1
    have hle1 := (latT_fix f2 f3).2
    have hinv := (Pln.fix_inv f2 f3).1
    have f3' := f3
    simp only [Req.okB, decide_eq_true_eq] at f3'
    obtain ⟨a1, a2, a3, a4, a5, a6, a7, a8, a9, a10, a11, a12⟩ := f3'
    have h3 := fun w h => Latest_any Aq cq Ac cc p q.dst q.dead q.size w h
    simp only [hlt1, hle1] at h3
    have F2 := Lib.hid f2
    have Hlen := Lib.hid hinv.len
    have hlenm := hinv.len
    have hgd := hinv.dst
    have hlo : ∀ x : Int, 0 ≤ x → x < p.quo.length → -1 ≤ gi (p.fixT q) x := fun x h0 h1 => hinv.lo _ (gi_mem (by rw [hinv.len]; omega))
    have hhi : ∀ x : Int, 0 ≤ x → x < p.quo.length → gi (p.fixT q) x ≤ q.dead := fun x h0 h1 => hinv.hi _ (gi_mem (by rw [hinv.len]; omega))
    have hm64 := hok.m64
    have hn16 := hok.n16
    have hdl : q.dst < (p.fixT q).length := by omega
    clear hlt1 hle1 f1 f2 f3 hf a5
    unfold Pln.val at hfi h3 ⊢
    unfold Req.val at hfi ⊢
    go_enter Try.func7, Try.ntmps7
    go_wp2_with fail
    clear hW
    refine hfi.mono ?_
    clear hfi
    rintro e w1 ⟨rfl, hb1⟩
    have hk1 := hk.ext hb1
    have hkr1 := hkr.ext hb1
    replace hc := hk1.cell
    replace hcr := hkr1.cell
    go_wp2_with fail
    refine (h3 _ (hrd.ext hb1)).mono ?_
    clear h3
    rintro e w2 ⟨A2, c2, rfl, hR2, hb2, _⟩
    have hk2 := hk1.ext hb2
    have hkr2 := hkr1.ext hb2
    replace hc := hk2.cell
    replace hcr := hkr2.cell
    have hrd2 := (hrd.ext hb1).ext hb2
    have hE2 := (hB.trans hb1).trans hb2
    obtain ⟨bm, om, rfl, hbm, hcx⟩ := hR2.int (k := q.dst.toNat) (by omega)
    clear hcx
    obtain ⟨cmd, _⟩ := hR2.gi (i := q.dst) (by omega)
    rw [hgd] at cmd
    have hN := Near.refl w2
    have hl2 := hk2.lt
    have hlr2 := hkr2.lt
    go_wp2
    have hq := quiet_near hN
    refine wp_region_quiet_below (by kernel_rfl) (by kernel_rfl) ?_
    repeat (first | go_big_quiet_skip | (go_big_quiet_want; go_big_quiet_op; first | go_big_quiet_on | (apply Exists.intro; refine ⟨fun _ => ?_, ?_⟩; (focus (first | fail)); go_big_quiet_on)))
    refine wpQuiet_nil ?_
    intro w1 hw1
    clear hq
    replace hw1 := quiet_ext hw1
    replace hN := hN.step hw1
    have hC := hN.2
    have hkp3 := hk2.ext hN.1
    have hkr3 := hkr2.ext hN.1
    have hrd3 := hrd2.ext hN.1
    have hR3 := hR2.ext hN.1
    have hE3 := hE2.trans hN.1
    clear hN hC hw1 hc hcr cmd hk1 hkr1 hk hkr hlt hltr hb1 hb2 hR2 hk2 hkr2 hl2 hlr2 hrd2 hE2 hIn
    generalize w1 = w3 at *
    go_wp2
    go_loopg [57] p.quo.length (fun n i wr => ∃ j : Nat, n = p.quo.length - j ∧ j ≤ p.quo.length ∧ i = .int .i64 j ∧ Ext w3 wr)
    case atStart => exact ⟨0, by omega, by omega, rfl, Ext.refl _⟩
    case round =>
      obtain ⟨j, hjn, hjl, rfl, hNw⟩ := hrel
      have Hjn := Lib.hid hjn
      clear hjn
      by_cases hlt : j < p.quo.length
      · have hkq := hkr3.ext hNw
        have hcq := hkq.cell
        have hkp := hkp3.ext hNw
        have hcp := hkp.cell
        have hlj := hlo j (by omega) (by omega)
        have hhj := hhi j (by omega) (by omega)
        obtain ⟨ctj, _⟩ := (hR3.ext hNw).gi (i := (j : Int)) (by omega)
        simp only [Int.toNat_natCast] at ctj
        by_cases hjd : (j : Int) = q.dst
        · have hd1 : ((j : Int) == q.dst) = true := by simpa using hjd
          have hnl : decide (gi (p.fixT q) (j : Int) < -1) = false := by simp; omega
          clear hjd
          go_wp2
          go_roundg (p.quo.length - (j + 1))
          case measure => have := Hjn.out; omega
          case rel => exact ⟨j + 1, rfl, by omega, by go_num, hNw⟩
        · have hd1 : ((j : Int) == q.dst) = false := by simpa using hjd
          have Hjd := Lib.hid hjd
          clear hjd
          by_cases htl : gi (p.fixT q) (j : Int) < 0
          · have hnl : decide (gi (p.fixT q) (j : Int) < -1) = false := by simp; omega
            go_wp2
            go_roundg (p.quo.length - (j + 1))
            case measure => have := Hjn.out; omega
            case rel => exact ⟨j + 1, rfl, by omega, by go_num, hNw⟩
          · have ht0 : 0 ≤ gi (p.fixT q) (j : Int) := by omega
            have htd : decide (gi (p.fixT q) (j : Int) < 0) = false := by simp; omega
            clear htl
            have hok2 : Req.okB { src := j, dst := q.dst, size := q.size, ready := gi (p.fixT q) j, dead := q.dead, prio := q.prio, cust := q.cust } p.quo.length = true := decide_eq_true ⟨by simp, show (j : Int) < p.quo.length by omega, a3, a4, Hjd.out, a6, a7, ht0, hhj, a10, a11, a12⟩
            have hE2 := ofE_fine F2.out hok2
            have hfx : p.fixT { src := j, dst := q.dst, size := q.size, ready := gi (p.fixT q) j, dead := q.dead, prio := q.prio, cust := q.cust } = p.fixT q := rfl
            have e00 : p.ofE { src := j, dst := q.dst, size := q.size, ready := gi (p.fixT q) j, dead := q.dead, prio := q.prio, cust := q.cust } = 0 := by rw [hE2, hfx]; exact if_neg (show ¬ gi (p.fixT q) j < gi (p.fixT q) j by omega)
            have h4 := fun w h => Find_any Aq cq Ac cc p { src := j, dst := q.dst, size := q.size, ready := gi (p.fixT q) j, dead := q.dead, prio := q.prio, cust := q.cust } w h
            have E00 := Lib.hid e00
            clear hE2 hfx e00 hok2
            unfold Pln.val at h4
            unfold Req.val at h4
            generalize htt : gi (p.fixT q) (j : Int) = t at *
            have Htt := Lib.hid htt
            clear htt
            obtain ⟨W6, hW6, hB6, hk6, hl6⟩ := box1 wr #[.int .i64 j, .int .i64 q.dst, .int .i64 q.size, .int .i64 t, .int .i64 q.dead, .int .i64 q.prio, .bool q.cust] 34
            have hc6 := hk6.cell
            have hkp6 := hkp.ext hB6
            have hcp6 := hkp6.cell
            go_wp2_with fail
            clear hW6
            refine (h4 _ ((hrd3.ext hNw).ext hB6)).mono ?_
            clear h4
            rintro e w7 ⟨l7, ⟨A7, c7, rfl, hR7, hb7, hcap7⟩, hl7, hp7⟩
            rw [E00.out] at hp7 ⊢
            have hpl : LPath p.cons (p.fixT q) q.dst q.size j l7 := hp7
            clear hp7
            have hE7 := hNw.trans (hB6.trans hb7)
            clear hc6 hcp6 hcq hcp ctj
            have hkq7 := hkr3.ext hE7
            have hcq7 := hkq7.cell
            have hkp7 := hkp3.ext hE7
            have hcp7 := hkp7.cell
            have hne : 0 < l7.length := by
              cases l7 with
              | nil => exact absurd (hpl.nil_dest rfl) Hjd.out
              | cons y l => simp
            have hbg : l7[0].beg = t := by
              cases l7 with
              | nil => simp at hne
              | cons y l =>
                obtain ⟨c, g1, g2, g3, g4, g5, g6, g7, g8, g9, g10, g11⟩ := LPath.head hok.con hpl
                show y.beg = t
                rw [g10]
                exact Htt.out
            obtain ⟨b7, o7, rfl, hb7', d0, d1, d2, d3⟩ := hR7.hp hne
            rw [hbg] at d1
            simp only [Nat.zero_mul, Nat.add_zero] at d1
            have hl0 : ((l7.length : Int) == 0) = false := beq_eq_false_iff_ne.2 (by omega)
            have hne' : (0 : Int) < l7.length := by omega
            clear d0 d2 d3 hbg
            have Hpl := Lib.hid hpl
            clear hpl
            go_wp2
            obtain ⟨wo, rfl⟩ : ∃ wo, wo = wr := ⟨_, rfl⟩
            obtain ⟨gq, rfl⟩ : ∃ gq, gq = gk := ⟨_, rfl⟩
            go_loopg [12, 13, 102] l7.length (fun n u v i wr => ∃ (k : Nat) (a nw : Int), n = l7.length - k ∧ k ≤ l7.length ∧ i = .int .i64 k ∧ u = .int .i64 a ∧ v = .int .i64 nw ∧ 0 ≤ nw ∧ nw ≤ gi (p.fixT q) a ∧ LPath p.cons (p.fixT q) q.dst q.size a (l7.drop k) ∧ Ext w7 wr)
            case atStart => exact ⟨0, j, t, by omega, by omega, rfl, rfl, rfl, ht0, by rw [Htt.out]; exact Int.le_refl _, by simpa using Hpl.out, Ext.refl _⟩
            case round =>
              obtain ⟨k, a, nw, hkn, hkl, rfl, rfl, rfl, hnw0, hnw1, hpa, hN2⟩ := hrel
              have Hkn := Lib.hid hkn
              have hkq8 := hkq7.ext hN2
              have hkp8 := hkp7.ext hN2
              clear hkn hcq7 hcp7 d1
              by_cases hlt2 : k < l7.length
              · rw [List.drop_eq_getElem_cons hlt2] at hpa
                obtain ⟨b', o', e', hb8', y1, y2, y3, y4⟩ := (hR7.ext hN2).hp hlt2
                injection e' with e'
                injection e' with e1 e2
                subst e1 e2
                generalize l7[k] = y at *
                obtain ⟨c, g1, g2, g3, g4, g5, g6, g7, g8, g9, g10, g11⟩ := LPath.head hok.con hpa
                have hga : 0 ≤ gi (p.fixT q) a := by omega
                obtain ⟨-, v2, v3, v4, v5, v6, v7, v8⟩ := lans_fits hok.con ⟨a6, a7⟩ g4 g5 hga
                have hyb : y.beg = gi (p.fixT q) a := by rw [g10]; rfl
                have hye : y.en = gi (p.fixT q) a + c.dur q.size := by rw [g10]; rfl
                have hya : y.arr = gi (p.fixT q) a + c.dur q.size + c.rng := by rw [g10]; rfl
                have hcok := hok.con c g4
                have hcx : p.cons[y.con.toNat] = c := by
                  rw [List.getElem?_eq_getElem g2] at g3
                  injection g3
                have hhd := hhi c.dst v6 (by have := hcok.2.2; omega)
                have dbd := Con.dur_bd hcok.1 a6 a7
                have hrg0 := hcok.1.rng0
                have hDu : ∀ w, Calls Try.prog 21 #[c.val, .int .i64 q.size] w fun e w' => e = .returned (.tuple #[.int .i64 (c.dur q.size), .int .i64 0]) ∧ Ext w w' := fun w => by
                  have h9 := Duration_any c q.size w
                  have h8 : c.arg q.size = 0 := Con.arg_ok.2 ⟨hcok.1, a6, a7⟩
                  rw [Con.durR, if_pos h8, h8] at h9
                  exact h9
                have hFi : ∀ w, Calls Try.prog 22 #[c.val, .int .i64 (gi (p.fixT q) a), .int .i64 q.size] w fun e w' => e = .returned (.bool true) ∧ Ext w w' := fun w => by
                  have h9 := Fits_any c (gi (p.fixT q) a) q.size w
                  have h8 : c.fitsR (gi (p.fixT q) a) q.size = true := by
                    unfold Con.fitsR Con.fitsB
                    rw [decide_eq_true (Con.arg_ok.2 ⟨hcok.1, a6, a7⟩), decide_eq_true ⟨v3, v4⟩]; rfl
                  rw [h8] at h9
                  exact h9
                have G11 := Lib.hid g11
                clear g3 g4 g5 g10 g11 v2 v3 v4 hcok
                rw [hyb] at y2
                rw [hye] at y3
                rw [hya] at y4
                clear hyb hye hya
                obtain ⟨W8, hW8, hB8, hk8, hl8⟩ := box1 wr #[.int .i64 y.con, .int .i64 (gi (p.fixT q) a), .int .i64 (gi (p.fixT q) a + c.dur q.size), .int .i64 (gi (p.fixT q) a + c.dur q.size + c.rng)] 43
                obtain ⟨bc, oc, rfl, hbc, z0, z1, z2, z3, z4, z5, z6⟩ := (((hrd3.c.ext hE7).ext hN2).ext hB8).con g2
                rw [hcx] at z0 z1 z2 z3 z4 z5 z6
                clear hcx
                obtain ⟨W9, hW9, hB9, hk9, hl9⟩ := box1 W8 c.cells 45
                simp only [Con.cells] at hW9 hk9
                have hcon := y.con
                have q1 : decide (y.con < 0) = false := by simp; omega
                have q2 : decide ((p.cons.length : Int) ≤ y.con) = false := by simp; omega
                have q3 : y.con < p.cons.length := by omega
                have q4 : decide (gi (p.fixT q) a < nw) = false := by simp; omega
                have q5 : (c.src != a) = false := by rw [g6]; simp
                clear g6
                generalize hta : gi (p.fixT q) a = ta at *
                have Hta := Lib.hid hta
                clear hta
                have hc8 := (hk8.ext hB9).cell
                have hc9 := hk9.cell
                have hkq9 := (hkq8.ext hB8).ext hB9
                have hkp9 := (hkp8.ext hB8).ext hB9
                have hcq9 := hkq9.cell
                have hcp9 := hkp9.cell
                have hcq8 := (hkp8.ext hB8).cell
                have hc8' := hk8.cell
                unfold Con.val at hDu hFi
                go_wp2_with fail
                clear hW8 hW9 z0 z1 z2 z3 z4 z5 z6 y1 y2 y3 y4
                refine (hDu _).mono ?_
                clear hDu
                rintro e x1 ⟨rfl, hx1⟩
                have hc8b := ((hk8.ext hB9).ext hx1).cell
                have hc9b := (hk9.ext hx1).cell
                have hkq9b := hkq9.ext hx1
                have hcq9b := hkq9b.cell
                clear hc8 hc9 hcq9 hcp9 hcq8 hc8'
                have q6 : IntKind.i64.wrap (ta + c.dur q.size) = ta + c.dur q.size := IntWalk.i64_in _ (by omega)
                go_wp2_with fail
                refine (hFi _).mono ?_
                clear hFi
                rintro e x2 ⟨rfl, hx2⟩
                have hc8c := (((hk8.ext hB9).ext hx1).ext hx2).cell
                have hc9c := ((hk9.ext hx1).ext hx2).cell
                clear hc8b hc9b hcq9b
                have q7 : IntKind.i64.wrap (ta + c.dur q.size + c.rng) = ta + c.dur q.size + c.rng := IntWalk.i64_in _ (by omega)
                have hNw2 := hNw
                clear hNw
                have hN := Near.refl x2
                have hl8' := (((hk8.ext hB9).ext hx1).ext hx2).lt
                have hl9' := ((hk9.ext hx1).ext hx2).lt
                go_wp2
                have hq := quiet_near hN
                refine wp_region_quiet_below (by kernel_rfl) (by kernel_rfl) ?_
                repeat (first | go_big_quiet_skip | (go_big_quiet_want; go_big_quiet_op; first | go_big_quiet_on | (apply Exists.intro; refine ⟨fun _ => ?_, ?_⟩; (focus (first | fail)); go_big_quiet_on)))
                refine wpQuiet_nil ?_
                intro w1 hw1
                clear hq
                replace hw1 := quiet_ext hw1
                replace hN := hN.step hw1
                have hC := hN.2
                go_wp2
                go_roundg (l7.length - (k + 1))
                case measure => have := Hkn.out; omega
                case rel => exact ⟨k + 1, c.dst, ta + c.dur q.size + c.rng, rfl, by omega, by go_num, rfl, rfl, by omega, v5, G11.out, hN2.trans (hB8.trans (hB9.trans (hx1.trans (hx2.trans hN.1))))⟩
              · have hk0 : l7.drop k = [] := List.drop_eq_nil_of_le (by omega)
                rw [hk0] at hpa
                have had : a = q.dst := hpa.nil_dest rfl
                clear hpa hk0
                subst had
                have hcq8 := hkq8.cell
                have hq1 : decide (q.dead < nw) = false := by simp; omega
                go_wp2
                go_roundg (p.quo.length - (j + 1))
                case measure => have := Hjn.out; omega
                case rel => exact ⟨j + 1, rfl, by omega, by go_num, hE7.trans hN2⟩
      · have hnlt : ¬ ((j : Int) < p.quo.length) := by omega
        go_wp2_with fail
        refine (awake_any _).mono ?_
        rintro e w5 ⟨rfl, hb5⟩
        go_wp2
        go_ret
        exact ⟨rfl, hE3.trans (hNw.trans hb5)⟩

end Go.Proofs.Ytmpekjbhaekmpaa
