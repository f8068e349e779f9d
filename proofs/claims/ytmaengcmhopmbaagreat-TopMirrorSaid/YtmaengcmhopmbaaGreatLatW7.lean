
/- Layer 25 (latest): the walk of Find. -/
import Derived.Test.YtmaengcmhopmbaaGreatLatW6
import Derived.StillTailTactics
namespace Go.Proofs.YtmaengcmhopmbaaGreat
set_option linter.unusedVariables false
open Go.RowKit Go.Shelf

theorem info_hop : (Tryz.prog.info? 40).map (fun i => (i.zero, i.size, i.bytes)) = some (some (.agg #[.int .i64 0, .int .i64 0, .int .i64 0, .int .i64 0]), 4, 32) := by kernel_rfl

set_option maxRecDepth 100000 in
set_option maxHeartbeats 4000000 in
theorem Find_any (Aq : Option Addr) (cq : Nat) (Ac : Option Addr) (cc : Nat) (p : Pln) (q : Req) (w : World) (h : PlnRd w Aq cq Ac cc p) :
    Calls Tryz.prog 10 #[p.val Aq cq Ac cc, q.val] w (FindP p q w) := by
  obtain ⟨i0, hi0, hz0, hz1, hz2⟩ := info_parts info_hop
  obtain ⟨W, hW, hB, hk, hk2, hlt, hlt2⟩ := box2 w #[.slice Aq p.quo.length cq, .slice Ac p.cons.length cc] q.cells 25 27
  simp only [Req.cells] at hW hk2
  have hc := hk.cell
  have hc2 := hk2.cell
  have hof := of_any Aq cq Ac cc p q W (h.ext hB)
  by_cases h0 : p.ofE q = 0
  · have ⟨z1, z2, z3⟩ := Pln.ofE_zero h0
    have hok := Pln.ok_of z1
    have hinv := (Pln.fix_inv z1 z2).1
    have ha := Req.argB z2
    simp only [Req.okB, decide_eq_true_eq] at z2
    obtain ⟨a1, a2, a3, a4, a5, a6, a7, a8, a9, a10, a11, a12⟩ := z2
    have hT : p.ofT q = p.fixT q := by unfold Pln.ofT; rw [if_pos h0]
    rw [hT, h0] at hof
    have HT := Lib.hid hT
    have H0 := Lib.hid h0
    have Ha := Lib.hid ha
    have hmlen := hinv.len
    have hm64 := hok.m64
    have hn16 := hok.n16
    clear hT h0 z1 ha
    unfold Pln.val at hof ⊢
    unfold Req.val at hof ⊢
    go_enter Tryz.func10, Tryz.ntmps10
    go_wp2_with fail
    clear hW
    refine hof.mono ?_
    clear hof
    rintro e z1 ⟨A1, c1, rfl, hR1, hb1, hcap⟩
    have hk3 := hk2.ext hb1
    have hc3 := hk3.cell
    have hl3 := hk3.lt
    have hkp3 := hk.ext hb1
    have hE1 := hB.trans hb1
    obtain ⟨bm, om, rfl, hbm, hcx⟩ := hR1.int (k := q.src.toNat) (by omega)
    clear hcx
    have Hml := Lib.hid hmlen
    clear hc hc2 hmlen
    go_wp2
    go_loopg [8, 9] (q.dead - gi (p.fixT q) q.src).toNat (fun n u x wr => ∃ (a : Int) (pre : List Hp), x = .int .i64 a ∧ 0 ≤ a ∧ a < p.quo.length ∧ 0 ≤ gi (p.fixT q) a ∧ n = (q.dead - gi (p.fixT q) a).toNat ∧ Owns EHp wr z1.heap.size 40 u pre ∧ (pre.length : Int) ≤ gi (p.fixT q) a ∧ Ext z1 wr ∧ ∀ l, LPath p.cons (p.fixT q) q.dst q.size a l → LPath p.cons (p.fixT q) q.dst q.size q.src (pre ++ l))
    case atStart => exact ⟨q.src, [], rfl, a1, a2, by omega, rfl, Owns.none_ _ _, by simp; omega, Ext.refl _, fun l hl => hl⟩
    case round =>
      obtain ⟨a, pre, rfl, b1, b2, b3, hgk, hu, hpl, hN, hpath⟩ := hrel
      have hk4 := hk3.ext hN
      have hc4 := hk4.cell
      have hl4 := hk4.lt
      have hp4 := hkp3.ext hN
      have hcp4 := hp4.cell
      have hlp4 := hp4.lt
      have hhi := hinv.hi _ (gi_mem (m := p.fixT q) (i := a) (by have := Hml.out; omega))
      have Hpath := Lib.hid hpath
      clear hpath hc3
      by_cases hne : a = q.dst
      · have hd : (a != q.dst) = false := by simpa using hne
        have Hne := Lib.hid hne
        clear hne
        obtain ⟨A2, c2, rfl, hR2⟩ := hu.form
        have hcap2 := hu.cap
        go_wp2
        go_ret2
        have hfin := Hpath.out [] (by rw [Hne.out]; exact .done)
        rw [List.append_nil] at hfin
        refine ⟨pre, ⟨A2, c2, by rw [H0.out]; rfl, hR2, hE1.trans hN, hcap2⟩, by omega, ?_⟩
        rw [if_pos H0.out]
        exact hfin
      · have hd : (a != q.dst) = true := by simpa using hne
        obtain ⟨fi, fc, hfound⟩ : ∃ i c, findC (lans (p.fixT q) q.size a) 0 p.cons = some (i, c) := LPath.found hok Ha.out b1 b2 hne b3
        have Hf := Lib.hid hfound
        have Hne := Lib.hid hne
        clear hne hfound
        go_wp2
        obtain ⟨wo, rfl⟩ : ∃ wo, wo = wr := ⟨_, rfl⟩
        obtain ⟨gq, rfl⟩ : ∃ gq, gq = gk := ⟨_, rfl⟩
        go_loopg [8, 9, 33] p.cons.length (fun n u x i wr => ∃ j : Nat, j + n = p.cons.length ∧ i = .int .i64 j ∧ x = .int .i64 a ∧ Owns EHp wr z1.heap.size 40 u pre ∧ findC (lans (p.fixT q) q.size a) 0 p.cons = findC (lans (p.fixT q) q.size a) j (p.cons.drop j) ∧ Ext wo wr)
        case atStart => exact ⟨0, by omega, rfl, rfl, hu, rfl, Ext.refl _⟩
        case round =>
          obtain ⟨j, hjn, rfl, rfl, hu2, hfj, hN2⟩ := hrel
          clear hu
          have Hjn := Lib.hid hjn
          have hjl : j ≤ p.cons.length := by omega
          clear hjn
          have Hfj := Lib.hid hfj
          clear hfj
          by_cases hlt : j < p.cons.length
          · obtain ⟨b, o, rfl, hb, c0, c1, c2, c3, c4, c5, c6⟩ := ((h.c.ext hE1).ext (hN.trans hN2)).con hlt
            have hst := findC_drop (P := lans (p.fixT q) q.size a) hlt rfl
            have hyc := hok.con _ (List.getElem_mem hlt)
            have hyin := List.getElem_mem hlt
            generalize hye : p.cons[j] = y at *
            have Hst := Lib.hid hst
            have Hy := Lib.hid hye
            have Hyin := Lib.hid hyin
            clear hst hye hyin
            have hs0 := hyc.1.src0
            have hs1 := hyc.2.1
            have hd0 := hyc.1.dst0
            have hd1 := hyc.2.2
            obtain ⟨W2, hW2, hB2, hkb, hltW⟩ := box1 wr y.cells 61
            simp only [Con.cells] at hW2 hkb
            have hck := hkb.cell
            have hE2 := hN.trans (hN2.trans hB2)
            have hkq := hk3.ext hE2
            have hcq := hkq.cell
            have hlq := hkq.lt
            obtain ⟨cma, hbm2⟩ := (hR1.ext hE2).gi (i := a) (by have := Hml.out; omega)
            obtain ⟨cmd, _⟩ := (hR1.ext hE2).gi (i := y.dst) (by have := Hml.out; omega)
            have hml1 : a < (p.fixT q).length := by have := Hml.out; omega
            have hml2 : y.dst < (p.fixT q).length := by have := Hml.out; omega
            have hlo2 := hinv.lo _ (gi_mem (m := p.fixT q) (i := y.dst) (by omega))
            have hhi2 := hinv.hi _ (gi_mem (m := p.fixT q) (i := y.dst) (by omega))
            by_cases hsa : y.src = a
            · have hdd : (y.src != a) = false := by simpa using hsa
              have Hsa := Lib.hid hsa
              clear hsa
              by_cases hlb : lbeg y (gi (p.fixT q) y.dst) q.size = gi (p.fixT q) a
              · have hdl : (lbeg y (gi (p.fixT q) y.dst) q.size != gi (p.fixT q) a) = false := by simpa using hlb
                have hp : lans (p.fixT q) q.size a y = true := by simp [lans, hlb, Hsa.out]
                have hfit := lans_fits hok.con ⟨a6, a7⟩ Hyin.out hp b3
                have hDu : ∀ w, Calls Tryz.prog 23 #[y.val, .int .i64 q.size] w fun e w' => e = .returned (.tuple #[.int .i64 (y.dur q.size), .int .i64 0]) ∧ Ext w w' := fun w => by
                  have h9 := Duration_any y q.size w
                  have h8 : y.arg q.size = 0 := Con.arg_ok.2 ⟨hyc.1, a6, a7⟩
                  rw [Con.durR, if_pos h8, h8] at h9
                  exact h9
                obtain ⟨f1, f2, f3, f4, f5, f6, f7, f8⟩ := hfit
                have F2 := Lib.hid f2
                have Hp := Lib.hid hp
                have dbd := Con.dur_bd hyc.1 a6 a7
                have hrg0 := hyc.1.rng0
                have hrg1 := hyc.1.rng1
                have hst0 := hyc.1.st0
                clear hp hlb f1 f2
                unfold Con.val at hDu
                go_wp2_with fail
                clear hW2 c0 c1 c2 c3 c4 c5 c6
                have hN0 := hN
                clear hN
                have hN := Near.refl W2
                have hq := quiet_near hN
                refine wp_region_quiet_below (by kernel_rfl) (by kernel_rfl) ?_
                repeat (first | go_big_quiet_skip | (go_big_quiet_want; go_big_quiet_op; first | go_big_quiet_on | (apply Exists.intro; refine ⟨fun _ => ?_, ?_⟩; (focus (first | (go_at_call 22; exact Calls.regrown_of (lbegin_any y (gi (p.fixT q) y.dst) q.size _ hyc.1 ⟨a6, a7⟩ ⟨by omega, by omega⟩)))); go_big_quiet_on)))
                refine wpQuiet_nil ?_
                intro w1 hw1
                clear hq
                replace hw1 := quiet_ext hw1
                replace hN := hN.step hw1
                have hC := hN.2
                have hkb2 := hkb.ext hN.1
                have hck2 := hkb2.cell
                go_wp2_with fail
                refine (hDu _).mono ?_
                rintro e w3 ⟨rfl, hb3⟩
                have hE3 := hE2.trans (hN.1.trans hb3)
                have hkb3 := hkb2.ext hb3
                have hck3 := hkb3.cell
                have hlk3 := hkb3.lt
                obtain ⟨cma3, hbm3⟩ := (hR1.ext hE3).gi (i := a) (by omega)
                go_wp2_with fail
                have hu3 := (hu2.ext hB2).ext (hN.1.trans hb3)
                have hbv : ∀ g, u8.ownBlock = some g → z1.heap.size ≤ g ∧ g < wr.heap.size := fun g hg => hu2.block hg
                have hne1 : some bm ≠ u8.ownBlock := fun e => by have := hbv bm e.symm; omega
                have hne2 : some wr.heap.size ≠ u8.ownBlock := fun e => by have := hbv wr.heap.size e.symm; omega
                have Hbv := Lib.hid hbv
                clear hbv
                have hz3 : z1.heap.size ≤ w3.heap.size := hE3.size
                have hsum : gi (p.fixT q) a + y.dur q.size ≤ 1099511627776 := by omega
                have hsum2 : gi (p.fixT q) a + y.dur q.size + y.rng ≤ 1099511627776 := by omega
                have hwr : IntKind.i64.wrap (gi (p.fixT q) a + y.dur q.size + y.rng) = gi (p.fixT q) a + y.dur q.size + y.rng := IntWalk.i64_in _ (by omega)
                go_region_held3 (fun w' => w'.cell? ⟨bm, om + a.toNat, none⟩ = some (.int .i64 (gi (p.fixT q) a)) ∧ w'.cell? ⟨wr.heap.size, 5, none⟩ = some (.int .i64 y.rng))
                  (first
                    | go_keep
                    | (go_split_ands
                       refine ⟨?_, ?_⟩
                       · (rw [hg6.cell_far _ (by simp; omega) hne1]; assumption)
                       · (rw [hg6.cell_far _ (by simp; omega) hne2]; assumption)))
                  ((refine step_push (by rfl) _ _ _ (by rfl) z1.heap.size 40 i0 _ 32 Tryz.underlying34 hi0 hz0 hz1 hz2 rfl u8 (by rfl) (hu3.ext (((Ext.refl w3).alloc _).drew)) w3.heap.size (hopOf j y (gi (p.fixT q) a) q.size) (by rfl) (show Blk (w3.alloc _) w3.heap.size _ _ from Blk.new w3 _ _) (by simp only [maxLen]; omega) (by omega) (by simp; omega) ?_; intro v6 w6 hv6 hg6 hat6))
                have hx6 := ext_grown (((hE3.alloc _).drew)) (hu3.ext (((Ext.refl w3).alloc _).drew)) (Nat.le_refl _) hg6
                have hc6 : w6.cell? ⟨wr.heap.size, 1, none⟩ = some (.int .i64 y.dst) := by
                  rw [hg6.cell_far _ (by simp; omega) hne2, World.cell?_drew, World.cell?_alloc_lt _ _ _ (by simpa using hlk3)]
                  exact hck3 1
                go_wp2
                go_roundg (q.dead - gi (p.fixT q) y.dst).toNat
                case measure => omega
                case rel =>
                  refine ⟨y.dst, pre ++ [hopOf j y (gi (p.fixT q) a) q.size], rfl, hd0, hd1, by omega, rfl, hv6, by rw [List.length_append, List.length_singleton]; omega, hx6, fun l hl => ?_⟩
                  rw [List.append_assoc]
                  refine Hpath.out _ (LPath.step Hne.out ?_ hl)
                  rw [Hfj.out, Hst.out, Hp.out]; rfl
              · have hdl : (lbeg y (gi (p.fixT q) y.dst) q.size != gi (p.fixT q) a) = true := by simpa using hlb
                have hp : lans (p.fixT q) q.size a y = false := by simp [lans, hlb]
                have Hp := Lib.hid hp
                clear hp hlb
                go_wp2_with fail
                clear hW2 c0 c1 c2 c3 c4 c5 c6
                have hN0 := hN
                clear hN
                have hN := Near.refl W2
                have hq := quiet_near hN
                refine wp_region_quiet_below (by kernel_rfl) (by kernel_rfl) ?_
                repeat (first | go_big_quiet_skip | (go_big_quiet_want; go_big_quiet_op; first | go_big_quiet_on | (apply Exists.intro; refine ⟨fun _ => ?_, ?_⟩; (focus (first | (go_at_call 22; exact Calls.regrown_of (lbegin_any y (gi (p.fixT q) y.dst) q.size _ hyc.1 ⟨a6, a7⟩ ⟨by omega, by omega⟩)))); go_big_quiet_on)))
                refine wpQuiet_nil ?_
                intro w1 hw1
                clear hq
                replace hw1 := quiet_ext hw1
                replace hN := hN.step hw1
                have hC := hN.2
                go_wp2
                go_roundg (gk - 1)
                case measure => have := Hjn.out; omega
                case rel => exact ⟨j + 1, by have := Hjn.out; omega, by go_num, rfl, (hu2.ext hB2).ext hN.1, by rw [Hfj.out, Hst.out, Hp.out]; rfl, (hN2.trans hB2).trans hN.1⟩
            · have hdd : (y.src != a) = true := by simpa using hsa
              have hp : lans (p.fixT q) q.size a y = false := by simp [lans, hsa]
              have Hp := Lib.hid hp
              have Hsa := Lib.hid hsa
              clear hsa hp
              go_wp2_with fail
              clear hW2 c0 c1 c2 c3 c4 c5 c6
              have hN0 := hN
              clear hN
              have hN := Near.refl W2
              have hq := quiet_near hN
              refine wp_region_quiet_below (by kernel_rfl) (by kernel_rfl) ?_
              repeat (first | go_big_quiet_skip | (go_big_quiet_want; go_big_quiet_op; first | go_big_quiet_on | (apply Exists.intro; refine ⟨fun _ => ?_, ?_⟩; (focus (first | fail)); go_big_quiet_on)))
              refine wpQuiet_nil ?_
              intro w1 hw1
              clear hq
              replace hw1 := quiet_ext hw1
              replace hN := hN.step hw1
              have hC := hN.2
              go_wp2
              go_roundg (gk - 1)
              case measure => have := Hjn.out; omega
              case rel => exact ⟨j + 1, by have := Hjn.out; omega, by go_num, rfl, (hu2.ext hB2).ext hN.1, by rw [Hfj.out, Hst.out, Hp.out]; rfl, (hN2.trans hB2).trans hN.1⟩
          · exfalso
            have e1 := Hfj.out
            have e2 := Hf.out
            rw [e1, List.drop_eq_nil_of_le (by omega)] at e2
            cases e2
  · have hd : (p.ofE q != 0) = true := by simpa using h0
    have H0 := Lib.hid h0
    clear h0
    unfold Pln.val at hof ⊢
    unfold Req.val at hof ⊢
    go_enter Tryz.func10, Tryz.ntmps10
    go_wp2_with fail
    clear hW
    refine hof.mono ?_
    clear hof
    rintro e w1 ⟨A1, c1, rfl, hR1, hb1, hcap⟩
    go_wp2
    go_ret2
    exact ⟨[], ⟨none, 0, rfl, Rd.nil, hB.trans hb1, Nat.le_refl _⟩, by simp, by rw [if_neg H0.out]⟩

end Go.Proofs.YtmaengcmhopmbaaGreat
