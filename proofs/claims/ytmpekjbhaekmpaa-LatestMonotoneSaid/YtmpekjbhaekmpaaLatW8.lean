
/- Layer 25 (latest): the walk of the reference's Find. -/
import Derived.Test.YtmpekjbhaekmpaaLatW7
namespace Go.Proofs.Ytmpekjbhaekmpaa
set_option linter.unusedVariables false
open Go.RowKit Go.Shelf

theorem Rd.keptg {α : Type} {E : Elt α} {a w : World} {g b o : Nat} {l : List α} (h : Rd E a (some ⟨b, o, none⟩) l) (hg : a.grownBy w (some g)) (hne : b ≠ g) : Rd E w (some ⟨b, o, none⟩) l :=
  ⟨h.1, fun hn => by
    obtain ⟨ad, e, hb, hc⟩ := h.2 hn
    injection e with e
    subst e
    exact ⟨_, rfl, Nat.lt_of_lt_of_le hb hg.size, fun j u hu => (World.cell?_of_block (hg.block _ (by rw [block_of_add]; exact hb) (by rw [block_of_add]; intro e; injection e with e; exact hne e))).trans (hc j u hu)⟩⟩

set_option maxRecDepth 100000 in
set_option maxHeartbeats 4000000 in
theorem rFind_any (Aq : Option Addr) (cq : Nat) (Ac : Option Addr) (cc : Nat) (p : Pln) (q : Req) (w : World) (h : PlnRd w Aq cq Ac cc p) :
    Calls Try.prog 16 #[p.val Aq cq Ac cc, q.val] w (FindP p q w) := by
  obtain ⟨i0, hi0, hz0, hz1, hz2⟩ := info_parts info_hop
  obtain ⟨W0, hW0, hB0, hk0, hk20, hlt, hlt2⟩ := box2 w #[.slice Aq p.quo.length cq, .slice Ac p.cons.length cc] q.cells 25 34
  obtain ⟨W, hW, hB1, hkw, hltw⟩ := box1 W0 #[] 43
  have hown0 := Owns.made (E := EHp) W0 w.heap.size 43 (by omega)
  rw [hW] at hown0
  have hB := hB0.trans hB1
  have hk := hk0.ext hB1
  have hk2 := hk20.ext hB1
  simp only [Req.cells] at hW0 hk2
  have hc := hk.cell
  have hc2 := hk2.cell
  have hl1 := hk.lt
  have hl2 := hk2.lt
  have hqm := h.qm
  have hpc := rpcheck_any Aq cq Ac cc p W (h.ext hB)
  clear hk0 hk20 hkw
  by_cases h0 : p.chk = 0
  · have hok := Pln.ok_of h0
    have hrq := fun w => rrequest_any Aq cq Ac cc p q w hqm
    cases hq : q.okB p.quo.length
    · have HE := Lib.hid (show p.ofE q = 1 by unfold Pln.ofE; rw [if_pos h0, hq]; rfl)
      rw [h0] at hpc
      simp only [hq] at hrq
      clear h0 hq
      unfold Pln.val at hpc hrq ⊢
      unfold Req.val at hrq ⊢
      go_enter Try.func16, Try.ntmps16
      go_wp2_with fail
      clear hW hW0
      refine hpc.mono ?_
      rintro e w1 ⟨rfl, hb1⟩
      have hc1 := (hk.ext hb1).cell
      have hc3 := (hk2.ext hb1).cell
      clear hpc hc hc2
      go_wp2_with fail
      refine (hrq _).mono ?_
      rintro e w2 ⟨rfl, hb2⟩
      go_wp2
      go_ret2
      exact ⟨[], ⟨_, 0, by rw [HE.out]; rfl, Rd.nil, (hB.trans hb1).trans hb2, Nat.le_refl _⟩, by simp, by rw [if_neg (by rw [HE.out]; decide)]⟩
    · have ha := Req.argB hq
      have hinv := (Pln.fix_inv h0 hq).1
      have hq2 := hq
      simp only [Req.okB, decide_eq_true_eq] at hq2
      obtain ⟨a1, a2, a3, a4, a5, a6, a7, a8, a9, a10, a11, a12⟩ := hq2
      have HE := Lib.hid (show p.ofE q = if gi (p.fixT q) q.src < q.ready then 18 else 0 by unfold Pln.ofE; rw [if_pos h0, if_pos hq])
      have hsl : q.src.toNat < (p.fixT q).length := by rw [hinv.len]; omega
      have hs2 : q.src < (p.fixT q).length := by omega
      have hlo := hinv.lo _ (gi_mem hsl)
      have hhi := hinv.hi _ (gi_mem hsl)
      have Ha := Lib.hid ha
      have Hml := Lib.hid hinv.len
      have hm64 := hok.m64
      have hn16 := hok.n16
      rw [h0] at hpc
      simp only [hq] at hrq
      clear h0 hq ha a5
      unfold Pln.val at hpc hrq ⊢
      unfold Req.val at hrq ⊢
      go_enter Try.func16, Try.ntmps16
      go_wp2_with fail
      clear hW hW0
      refine hpc.mono ?_
      rintro e w1 ⟨rfl, hb1⟩
      have hc1 := (hk.ext hb1).cell
      have hc3 := (hk2.ext hb1).cell
      clear hpc hc hc2
      go_wp2_with fail
      refine (hrq _).mono ?_
      rintro e w2 ⟨rfl, hb2⟩
      have hkp5 := (hk.ext hb1).ext hb2
      have hc4 := hkp5.cell
      have hk5 := (hk2.ext hb1).ext hb2
      have hc5 := hk5.cell
      clear hc1 hc3 hrq
      go_wp2_with fail
      have ht := rltimes_any Aq cq Ac cc p q.dst q.dead q.size w2 (((h.ext hB).ext hb1).ext hb2) hok Ha.out
      change Calls _ _ _ _ (fun e w' => ∃ v, e = .returned v ∧ Owns EInt w' w2.heap.size _ v (p.fixT q) ∧ Ext w2 w') at ht
      refine ht.mono ?_
      clear ht
      rintro e z1 ⟨v, rfl, hv, hb3⟩
      have hE1 := ((hB.trans hb1).trans hb2).trans hb3
      have hk3 := hk5.ext hb3
      have hc3 := hk3.cell
      have hl3 := hk3.lt
      have hkp3 := hkp5.ext hb3
      obtain ⟨A3, c1, rfl, hR1⟩ := hv.form
      obtain ⟨bm, om, rfl, hbm, c0⟩ := hR1.int hsl
      have hvb := hv.block rfl
      have hg := Lib.hid (gi_of (m := p.fixT q) a1 hsl)
      rw [← hg.out] at c0
      have hown1 := ((hown0.ext hb1).ext hb2).ext hb3
      have hW02 : W0.heap.size < w2.heap.size := by have := hb1.size; have := hb2.size; omega
      clear hc4 hc5
      have hN := Near.refl z1
      by_cases hr : gi (p.fixT q) q.src < q.ready
      · go_wp2
        have hq := quiet_near hN
        refine wp_region_quiet_below (by kernel_rfl) (by kernel_rfl) ?_
        repeat (first | go_big_quiet_skip | (go_big_quiet_want; go_big_quiet_op; first | go_big_quiet_on | (apply Exists.intro; refine ⟨fun _ => ?_, ?_⟩; (focus (first | fail)); go_big_quiet_on)))
        refine wpQuiet_nil ?_
        intro w1 hw1
        clear hq
        replace hw1 := quiet_ext hw1
        replace hN := hN.step hw1
        have hC := hN.2
        go_wp2
        go_ret2
        have e1 : p.ofE q = 18 := by rw [HE.out]; exact if_pos hr
        exact ⟨[], ⟨_, 0, by rw [e1]; rfl, Rd.nil, hE1.trans hN.1, Nat.le_refl _⟩, by simp, by rw [if_neg (by rw [e1]; decide)]⟩
      · have H0 : Hid (p.ofE q = 0) := Lib.hid (by rw [HE.out]; exact if_neg hr)
        have hr2 : q.ready ≤ gi (p.fixT q) q.src := by omega
        clear hr
        go_wp2
        have hq := quiet_near hN
        refine wp_region_quiet_below (by kernel_rfl) (by kernel_rfl) ?_
        repeat (first | go_big_quiet_skip | (go_big_quiet_want; go_big_quiet_op; first | go_big_quiet_on | (apply Exists.intro; refine ⟨fun _ => ?_, ?_⟩; (focus (first | fail)); go_big_quiet_on)))
        refine wpQuiet_nil ?_
        intro w1 hw1
        clear hq
        replace hw1 := quiet_ext hw1
        replace hN := hN.step hw1
        have hC := hN.2
        go_wp2
        clear c0 hc3
        have hE2 := hE1.trans hN.1
        replace hR1 := hR1.ext hN.1
        replace hk3 := hk3.ext hN.1
        replace hkp3 := hkp3.ext hN.1
        replace hown1 := hown1.ext hN.1
        have hmono := hN.1.size
        obtain ⟨z9, rfl⟩ : ∃ z9, z9 = w1 := ⟨_, rfl⟩
        have hbm9 : bm ≠ W0.heap.size := by have := (hvb).1; omega
        have hwg : w.heap.size ≤ W0.heap.size := hB0.size
        have hgz : W0.heap.size < z9.heap.size := by have := hb3.size; omega
        have Hc := Lib.hid h.c
        clear hN hC
        go_loopg [6, 8] (q.dead - gi (p.fixT q) q.src).toNat (fun n u x wr => ∃ (a : Int) (pre : List Hp), x = .int .i64 a ∧ 0 ≤ a ∧ a < p.quo.length ∧ 0 ≤ gi (p.fixT q) a ∧ n = (q.dead - gi (p.fixT q) a).toNat ∧ Owns EHp wr w.heap.size 43 u pre ∧ (∀ g, u.ownBlock = some g → g = W0.heap.size ∨ z9.heap.size ≤ g) ∧ (pre.length : Int) ≤ gi (p.fixT q) a ∧ z9.grownBy wr (some W0.heap.size) ∧ ∀ l, LPath p.cons (p.fixT q) q.dst q.size a l → LPath p.cons (p.fixT q) q.dst q.size q.src (pre ++ l))
        case atStart => exact ⟨q.src, [], rfl, a1, a2, by omega, rfl, hown1, fun g hg => .inl (by injection hg with hg; exact hg.symm), by simp; omega, World.grownBy.refl _ _, fun l hl => hl⟩
        case round =>
          obtain ⟨a, pre, rfl, b1, b2, b3, hgk, hu, hub, hpl, hN, hpath⟩ := hrel
          have hk4 := hk3.keptg hN (by omega)
          have hc4 := hk4.cell
          have hl4 := hk4.lt
          have hp4 := hkp3.keptg hN (by omega)
          have hcp4 := hp4.cell
          have hlp4 := hp4.lt
          have hhi := hinv.hi _ (gi_mem (m := p.fixT q) (i := a) (by have := Hml.out; omega))
          have Hpath := Lib.hid hpath
          have Hub := Lib.hid hub
          clear hpath hub
          by_cases hne : a = q.dst
          · have hd : (a != q.dst) = false := by simpa using hne
            have Hne := Lib.hid hne
            clear hne
            obtain ⟨A2, c2, rfl, hR2⟩ := hu.form
            have hcap2 := hu.cap
            go_wp2
            go_ret2
            have hfin := Hpath.out [] (by rw [Hne.out]; exact .done)
            rw [List.append_nil] at hfin
            refine ⟨pre, ⟨A2, c2, by rw [H0.out]; rfl, hR2, ext_of_grown hE2 hN hwg, hcap2⟩, by omega, ?_⟩
            rw [if_pos H0.out]
            exact hfin
          · have hd : (a != q.dst) = true := by simpa using hne
            obtain ⟨fi, fc, hfound⟩ : ∃ i c, findC (lans (p.fixT q) q.size a) 0 p.cons = some (i, c) := LPath.found hok Ha.out b1 b2 hne b3
            have Hf := Lib.hid hfound
            have Hne := Lib.hid hne
            clear hne hfound
            go_wp2
            obtain ⟨wo, rfl⟩ : ∃ wo, wo = wr := ⟨_, rfl⟩
            obtain ⟨gq, rfl⟩ : ∃ gq, gq = gk := ⟨_, rfl⟩
            go_loopg [6, 8, 9] p.cons.length (fun n u x i wr => ∃ j : Nat, j + n = p.cons.length ∧ i = .int .i64 j ∧ x = .int .i64 a ∧ Owns EHp wr w.heap.size 43 u pre ∧ (∀ g, u.ownBlock = some g → g = W0.heap.size ∨ z9.heap.size ≤ g) ∧ findC (lans (p.fixT q) q.size a) 0 p.cons = findC (lans (p.fixT q) q.size a) j (p.cons.drop j) ∧ Ext wo wr)
            case atStart => exact ⟨0, by omega, rfl, rfl, hu, Hub.out, rfl, Ext.refl _⟩
            case round =>
              obtain ⟨j, hjn, rfl, rfl, hu2, hub2, hfj, hN2⟩ := hrel
              clear hu
              have Hjn := Lib.hid hjn
              have hjl : j ≤ p.cons.length := by omega
              have Hub2 := Lib.hid hub2
              clear hjn hub2
              have Hfj := Lib.hid hfj
              clear hfj
              have hkp6 := hp4.ext hN2
              have hcp6 := hkp6.cell
              have hlp6 := hkp6.lt
              have hA := ext_of_grown hE2 (grown_ext hN hN2) hwg
              by_cases hlt : j < p.cons.length
              · obtain ⟨b, o, rfl, hb, c0, c1, c2, c3, c4, c5, c6⟩ := (Hc.out.ext hA).con hlt
                have hst := findC_drop (P := lans (p.fixT q) q.size a) hlt rfl
                have hyc := hok.con _ (List.getElem_mem hlt)
                have hyin := List.getElem_mem hlt
                generalize hye : p.cons[j] = y at *
                have Hst := Lib.hid hst
                have Hy := Lib.hid hye
                have Hyin := Lib.hid hyin
                clear hst hye hyin
                have hs0 := hyc.1.src0
                have hs1 := hyc.2.1
                have hd0 := hyc.1.dst0
                have hd1 := hyc.2.2
                obtain ⟨W2, hW2, hB2, hkb, hltW⟩ := box1 wr y.cells 45
                simp only [Con.cells] at hW2 hkb
                have hck := hkb.cell
                have hE3 := hN2.trans hB2
                have hkq := hk4.ext hE3
                have hcq := hkq.cell
                have hlq := hkq.lt
                have hgE := grown_ext hN hE3
                have hml1 : a < (p.fixT q).length := by have := Hml.out; omega
                have hml2 : y.dst < (p.fixT q).length := by have := Hml.out; omega
                have hRm := hR1.keptg hgE hbm9
                obtain ⟨cma, hbm2⟩ := hRm.gi (i := a) (by omega)
                obtain ⟨cmd, _⟩ := hRm.gi (i := y.dst) (by omega)
                have hlo2 := hinv.lo _ (gi_mem (m := p.fixT q) (i := y.dst) (by omega))
                have hhi2 := hinv.hi _ (gi_mem (m := p.fixT q) (i := y.dst) (by omega))
                go_wp2_with fail
                clear hW2 c0 c1 c2 c3 c4 c5 c6
                have hN0 := hN
                clear hN
                have hN := Near.refl W2
                have hq := quiet_near hN
                refine wp_region_quiet_below (by kernel_rfl) (by kernel_rfl) ?_
                repeat (first | go_big_quiet_skip | (go_big_quiet_want; go_big_quiet_op; first | go_big_quiet_on | (apply Exists.intro; refine ⟨fun _ => ?_, ?_⟩; (focus (first | (go_at_call 34; exact Calls.regrown_of (rlbegin_any y (gi (p.fixT q) y.dst) q.size _ hyc.1 ⟨a6, a7⟩ ⟨by omega, by omega⟩)))); go_big_quiet_on)))
                refine wpQuiet_nil ?_
                intro w1 hw1
                clear hq
                replace hw1 := quiet_ext hw1
                replace hN := hN.step hw1
                have hC := hN.2
                have hE4 := hE3.trans hN.1
                by_cases hsa : y.src = a
                · have hdd : (y.src != a) = false := by simpa using hsa
                  have Hsa := Lib.hid hsa
                  clear hsa
                  by_cases hlb : lbeg y (gi (p.fixT q) y.dst) q.size = gi (p.fixT q) a
                  · have hdl : (lbeg y (gi (p.fixT q) y.dst) q.size != gi (p.fixT q) a) = false := by simpa using hlb
                    have hp : lans (p.fixT q) q.size a y = true := by simp [lans, hlb, Hsa.out]
                    have hfit := lans_fits hok.con ⟨a6, a7⟩ Hyin.out hp b3
                    obtain ⟨f1, f2, f3, f4, f5, f6, f7, f8⟩ := hfit
                    have F2 := Lib.hid f2
                    have Hp := Lib.hid hp
                    have Hlb := Lib.hid hlb
                    have dbd := Con.dur_bd hyc.1 a6 a7
                    have hrg0 := hyc.1.rng0
                    have hrg1 := hyc.1.rng1
                    have hst0 := hyc.1.st0
                    have hsum : lbeg y (gi (p.fixT q) y.dst) q.size + y.dur q.size ≤ 1099511627776 := by omega
                    have hsum2 : lbeg y (gi (p.fixT q) y.dst) q.size + y.dur q.size + y.rng ≤ 1099511627776 := by omega
                    have hsum3 : 0 ≤ lbeg y (gi (p.fixT q) y.dst) q.size := by omega
                    clear hp hlb f1 f2
                    have hkb2 := hkb.ext hN.1
                    have hck2 := hkb2.cell
                    go_wp2_with fail
                    refine (rdur_any y q.size w1 hyc.1 ⟨a6, a7⟩).mono ?_
                    rintro e w3 ⟨rfl, hb9⟩
                    have hkb3 := hkb2.ext hb9
                    have hck3 := hkb3.cell
                    have hlk3 := hkb3.lt
                    have hu3 := (hu2.ext hB2).ext (hN.1.trans hb9)
                    have hg3 := grown_ext hgE (hN.1.trans hb9)
                    have hbv : ∀ g, u6.ownBlock = some g → g < wr.heap.size := fun g hg => (hu2.block hg).2
                    have hne2 : some wr.heap.size ≠ u6.ownBlock := fun e => by have := hbv wr.heap.size e.symm; omega
                    have hz3 : w.heap.size ≤ w3.heap.size := by have := hA.size; have := hB2.size; have := (hN.1.trans hb9).size; omega
                    clear hbv
                    go_wp2_with (at_builtin; refine wpList_push rfl (.tmp 86) (.tmp 95) _ rfl w.heap.size 43 i0 _ 32 Try.underlying35 hi0 hz0 hz1 hz2 rfl u6 rfl (hu3.ext ((Ext.refl _).alloc _)) w3.heap.size (hopOf j y (lbeg y (gi (p.fixT q) y.dst) q.size) q.size) rfl (Blk.new w3 _ _) (by simp only [maxLen]; omega) (by omega) (by simp; omega) ?_; intro v6 w6 hv6 hg6 hat6; have hc6 : w6.cell? ⟨wr.heap.size, 1, none⟩ = some (.int .i64 y.dst) := (by rw [hg6.cell_far _ (by simp; omega) hne2, World.cell?_alloc_lt _ _ _ (by simpa using hlk3)]; exact hck3 1))
                    go_roundg (q.dead - gi (p.fixT q) y.dst).toNat
                    case measure => omega
                    case rel =>
                      have hga := (grown_ext hg3 ((Ext.refl _).alloc _)).andThen hg6 (fun g hg => by
                        rcases Hub2.out g hg with e | e
                        · exact .inr (by rw [e])
                        · exact .inl e)
                      refine ⟨y.dst, pre ++ [hopOf j y (gi (p.fixT q) a) q.size], rfl, hd0, hd1, by omega, rfl, by rw [← Hlb.out]; exact hv6, ?_, by rw [List.length_append, List.length_singleton]; omega, hga, fun l hl => ?_⟩
                      · intro g hg
                        rcases hat6 with e | e
                        · exact Hub2.out g (by rw [← e]; exact hg)
                        · rw [e] at hg
                          injection hg with hg
                          right
                          have := hg3.size
                          simp at hg
                          omega
                      · rw [List.append_assoc]
                        refine Hpath.out _ (LPath.step Hne.out ?_ hl)
                        rw [Hfj.out, Hst.out, Hp.out]; rfl
                  · have hdl : (lbeg y (gi (p.fixT q) y.dst) q.size != gi (p.fixT q) a) = true := by simpa using hlb
                    have hp : lans (p.fixT q) q.size a y = false := by simp [lans, hlb]
                    have Hp := Lib.hid hp
                    clear hp hlb
                    go_wp2
                    go_roundg (gk - 1)
                    case measure => have := Hjn.out; omega
                    case rel => exact ⟨j + 1, by have := Hjn.out; omega, by go_num, rfl, (hu2.ext hB2).ext hN.1, Hub2.out, by rw [Hfj.out, Hst.out, Hp.out]; rfl, hE4⟩
                · have hdd : (y.src != a) = true := by simpa using hsa
                  have hp : lans (p.fixT q) q.size a y = false := by simp [lans, hsa]
                  have Hp := Lib.hid hp
                  have Hsa := Lib.hid hsa
                  clear hsa hp
                  go_wp2
                  go_roundg (gk - 1)
                  case measure => have := Hjn.out; omega
                  case rel => exact ⟨j + 1, by have := Hjn.out; omega, by go_num, rfl, (hu2.ext hB2).ext hN.1, Hub2.out, by rw [Hfj.out, Hst.out, Hp.out]; rfl, hE4⟩
              · exfalso
                have e1 := Hfj.out
                have e2 := Hf.out
                rw [e1, List.drop_eq_nil_of_le (by omega)] at e2
                cases e2
  · have HE := Lib.hid (show p.ofE q = 1 by unfold Pln.ofE; rw [if_neg h0])
    have hd : (p.chk != 0) = true := by simpa using h0
    have H0 := Lib.hid h0
    clear h0
    unfold Pln.val at hpc ⊢
    unfold Req.val
    go_enter Try.func16, Try.ntmps16
    go_wp2_with fail
    clear hW hW0
    refine hpc.mono ?_
    rintro e w1 ⟨rfl, hb1⟩
    go_wp2
    go_ret2
    exact ⟨[], ⟨_, 0, by rw [HE.out]; rfl, Rd.nil, hB.trans hb1, Nat.le_refl _⟩, by simp, by rw [if_neg (by rw [HE.out]; decide)]⟩

end Go.Proofs.Ytmpekjbhaekmpaa
