
/- Layer 24 (journey): the walk of the reference's Fewest. -/
import Derived.Test.YtgmfnhianhngiaaJrRf
import Derived.Test.YtgmfnhianhngiaaJrX2
namespace Go.Proofs.Ytgmfnhianhngiaa
set_option linter.unusedVariables false
set_option linter.unusedSimpArgs false
open Go.RowKit Go.Shelf

set_option maxRecDepth 100000 in
set_option maxHeartbeats 4000000 in
theorem rFewest24_any (Aq : Option Addr) (cq : Nat) (Ac : Option Addr) (cc : Nat) (p : Pln) (q : Req) (w : World) (h : PlnRd w Aq cq Ac cc p) :
    Calls Try.prog 23 #[p.val Aq cq Ac cc, q.val] w (FewJ p q w) := by
  obtain ⟨i0, hi0, hz0, hz1, hz2⟩ := info_parts info_hop
  obtain ⟨j0, hj0, hy0, hy1, hy2⟩ := info_parts info_sl
  obtain ⟨W, hW, hB, hk, hk2, hlt, hlt2⟩ := box2 w #[.slice Aq p.quo.length cq, .slice Ac p.cons.length cc] q.cells 25 34
  simp only [Req.cells] at hW hk2
  have hc := hk.cell
  have hc2 := hk2.cell
  have hcr := rCheckRequest_any Aq cq Ac cc p q W (h.ext hB)
  cases hf : fineQ p q
  · rw [hf] at hcr
    have Hf := Lib.hid (fineQ_no hf)
    clear hf
    unfold Pln.val at hcr ⊢
    unfold Req.val at hcr ⊢
    go_enter Try.func23, Try.ntmps23
    go_wp2_with fail
    clear hW
    refine hcr.mono ?_
    clear hcr
    rintro e w1 ⟨rfl, hb1⟩
    go_wp2
    go_ret2
    exact ⟨[], 1, ⟨_, 0, rfl, Rd.nil, (hB.trans hb1).alloc _, Nat.le_refl _⟩, by simp, by unfold JFew; rw [if_neg Hf.out]; exact ⟨rfl, rfl⟩⟩
  rw [hf] at hcr
  obtain ⟨f0, hq⟩ := fineQ_yes hf
  have hok := Pln.ok_of f0
  have H0 := Lib.hid f0
  have J := Req.jc hok hq
  have Hq := Lib.hid hq
  have hq2 := hq
  simp only [Req.okB, decide_eq_true_eq] at hq2
  obtain ⟨a1, a2, a3, a4, a5, a6, a7, a8, a9, a10, a11, a12⟩ := hq2
  have hn1 := hok.n1
  have hn16 := hok.n16
  have hm64 := hok.m64
  have hrlen : ∀ k, (p.RrQ q k).length = p.quo.length := fun k => (Rr.least J k).len
  have Hrlen := Lib.hid hrlen
  clear hq a5 hrlen hf f0
  unfold Pln.val at hcr ⊢
  unfold Req.val at hcr ⊢
  go_enter Try.func23, Try.ntmps23
  go_wp2_with fail
  clear hW
  refine hcr.mono ?_
  clear hcr
  rintro e w2 ⟨rfl, hb1⟩
  have hE2 := hB.trans hb1
  have kp2 := hk.ext hb1
  have kq2 := hk2.ext hb1
  replace hc := kp2.cell
  replace hc2 := kq2.cell
  have hst := rstart_any Aq cq Ac cc p q.src q.ready w2 hn16
  rw [startL_eq a1 a2] at hst
  unfold Pln.val at hst
  go_wp2_with fail
  refine hst.mono ?_
  clear hst
  rintro e w3 ⟨v3, rfl, hv3, hb3⟩
  obtain ⟨A3, c3, rfl, hR3, hcap3⟩ := Rd.of_owns hv3
  rw [lstart_len] at hv3 ⊢
  have kp3 := kp2.ext hb3
  have kq3 := kq2.ext hb3
  replace hc := kp3.cell
  replace hc2 := kq3.cell
  have hlp3 := kp3.lt
  have hlq3 := kq3.lt
  have hE3 := hE2.trans hb3
  obtain ⟨w5, hw5, hB5, hk5, hl5⟩ := box1 w3 #[.slice A3 p.quo.length c3] 22
  have hR5 : RndsRd p.quo.length (p.RrQ q) w5 w2.heap.size 0 (.slice (some ⟨w3.heap.size, 0, none⟩) 1 1) := by
    refine ⟨[(A3, p.quo.length, c3)], owns_blk (E := ESl) hk5 hb3.size (by simp [maxLen]), rfl, fun i hi => ?_⟩
    have : i = 0 := by simpa using hi
    subst this
    exact hv3.ext hB5
  have kp5 := kp3.ext hB5
  have kq5 := kq3.ext hB5
  have hE5 := hE3.trans hB5
  have hx5 : Ext w2 w5 := hb3.trans hB5
  clear hR3 hcap3 hv3 hc hc2
  have hcp5 := kp5.cell
  have hcq5 := kq5.cell
  go_wp2_with fail
  clear hw5 hk5
  go_loopg [6, 7] p.quo.length (fun n u6 u7 wr => ∃ k : Nat, n + k = p.quo.length ∧ u7 = .int .i64 k ∧ (∀ j, j < k → inT q (p.RrQ q j) = false) ∧ RndsRd p.quo.length (p.RrQ q) wr w2.heap.size k u6 ∧ Ext w2 wr)
  case atStart => exact ⟨0, by omega, rfl, fun j hj => by omega, hR5, hx5⟩
  case round =>
    obtain ⟨k, hgk, rfl, hno, hR, hE⟩ := hrel
    clear hcp5 hcq5
    have kpr := kp2.ext hE
    have kqr := kq2.ext hE
    have hcp := kpr.cell
    have hcq := kqr.cell
    have hlp := kpr.lt
    have hlq := kqr.lt
    have hkN : k ≤ p.quo.length := by omega
    have hEr := hE2.trans hE
    obtain ⟨bh, ch, rfl, hbh, hbhl, hcells⟩ := hR.form hn1 Hrlen.out
    obtain ⟨Bm, om, ck, hck, hbm, hRk⟩ := hcells k (Nat.le_refl _)
    have Hgk := Lib.hid hgk
    have Hno := Lib.hid hno
    have HR := Lib.hid hR
    have Hcells := Lib.hid hcells
    have hTl := Hrlen.out k
    generalize hT : p.RrQ q k = T at *
    have HT := Lib.hid hT
    have HTl := Lib.hid hTl
    have hTd := hRk.gi (i := q.dst) (by omega)
    obtain ⟨hTd1, hTd2⟩ := hTd
    have hdl : q.dst < p.quo.length := a4
    clear hgk hno hT hTl hR hcells
    have hN := Near.refl wr
    by_cases hgo : k < p.quo.length ∧ inT q T = false
    · obtain ⟨hkl, hin2⟩ := hgo
      have hnoK : ∀ j, j < k + 1 → inT q (p.RrQ q j) = false := fun j hj => by
        rcases Nat.lt_succ_iff_lt_or_eq.1 hj with hj | rfl
        · exact Hno.out j hj
        · rw [HT.out]; exact hin2
      have HnoK := Lib.hid hnoK
      have hin3 := hin2
      simp only [inT, decide_eq_false_iff_not] at hin3
      have hrr := fun w h hm => rround_any Aq cq Ac cc p q.size (some ⟨Bm, om, none⟩) ck T w h hok ⟨a6, a7⟩ hm HTl.out
      rw [HTl.out] at hrr
      have hRn : p.RrQ q (k + 1) = rnd p.cons q.size T := by rw [← HT.out]; rfl
      have HRn := Lib.hid hRn
      unfold Pln.val at hrr
      clear hnoK hin2 hRn
      by_cases hd0 : 0 ≤ gi T q.dst
      all_goals
        first
          | (have hdd : decide (0 ≤ gi T q.dst) = true := decide_eq_true hd0)
          | (have hdd : decide (0 ≤ gi T q.dst) = false := decide_eq_false hd0)
        try (have hde : decide (gi T q.dst ≤ q.dead) = false := decide_eq_false (by omega))
        clear hin3 hd0
        go_wp2_with fail
        have hq := quiet_near hN
        refine wp_region_quiet_below (by kernel_rfl) (by kernel_rfl) ?_
        repeat (first | go_big_quiet_skip | (go_big_quiet_want; go_big_quiet_op; first | go_big_quiet_on | (apply Exists.intro; refine ⟨fun _ => ?_, ?_⟩; (focus (first | fail)); go_big_quiet_on)))
        refine wpQuiet_nil ?_
        intro w1 hw1
        clear hq
        replace hw1 := quiet_ext hw1
        replace hN := hN.step hw1
        have hC := hN.2
        have kp6 := kpr.ext hN.1
        have kq6 := kqr.ext hN.1
        have hcp6 := kp6.cell
        have hcq6 := kq6.cell
        have hlp6 := kp6.lt
        have hlq6 := kq6.lt
        have hE6 := hE.trans hN.1
        have hrd6 := h.ext (hE2.trans hE6)
        have hRk6 := hRk.ext hN.1
        have hR6 := HR.out.ext hN.1
        clear hC hcp hcq hck hTd1
        go_wp2_with fail
        refine (hrr _ hrd6 hRk6).mono ?_
        clear hrr
        rintro e w7 ⟨v7, rfl, hv7, hb7⟩
        obtain ⟨A7, c7, rfl, hR7, hcap7⟩ := Rd.of_owns hv7
        have hl7 : (rnd p.cons q.size T).length = p.quo.length := (rfold_len q.size T p.cons T).trans HTl.out
        rw [hl7] at hv7 ⊢
        rw [← HRn.out] at hv7
        have Hv7 := Lib.hid hv7
        obtain ⟨hs, ho, hhl, hrd⟩ := hR6.ext hb7
        have Hhl := Lib.hid hhl
        have Hrd := Lib.hid hrd
        have hszw := (hE6.trans hb7).size
        have hsz6 := hE6.size
        clear hrd hl7 hR7 hv7 hcap7
        go_wp2_with (at_builtin; refine wpList_push rfl (.tmp 52) (.tmp 58) _ (by rfl) w2.heap.size 22 j0 _ 24 Try.underlying62 hj0 hy0 hy1 hy2 (by rfl) (.slice (some ⟨bh, 0, none⟩) (k + 1) ch) (by rfl) (ho.ext ((Ext.refl _).alloc _)) w7.heap.size (A7, p.quo.length, c7) (by rfl) (Blk.new w7 _ _) (by rw [hhl]; simp only [maxLen]; omega) (by rw [hhl]; omega) (by simp; omega) ?_; intro v8 w8 hv8 hg8 hat8; have hx8 := ext_grown ((hE6.trans hb7).alloc _) (ho.ext ((Ext.refl _).alloc _)) (Nat.le_refl _) hg8)
        go_roundg (gk - 1)
        case measure => have := Hgk.out; omega
        case rel =>
          have hgk := Hgk.out
          exact ⟨k + 1, by omega, by go_num, HnoK.out, RndsRd.push (ho.ext ((Ext.refl _).alloc _)) Hhl.out (fun i hi => (Hrd.out i hi).ext ((Ext.refl _).alloc _)) ((Hv7.out.mono hsz6).ext ((Ext.refl _).alloc _)) hv8 hg8, hx8⟩
    by_cases hin : inT q T = true
    · have hin3 := hin
      simp only [inT, decide_eq_true_eq] at hin3
      have hd0 : decide (0 ≤ gi T q.dst) = true := decide_eq_true hin3.1
      have hde : decide (gi T q.dst ≤ q.dead) = true := decide_eq_true hin3.2
      have hd1 : decide (gi T q.dst < 0) = false := decide_eq_false (by omega)
      have hd2 : decide (q.dead < gi T q.dst) = false := decide_eq_false (by omega)
      have hfs : FS p.quo.length p.cons q.size q.src q.ready k q.dst := FS.first hok Hq.out (by rw [HT.out]; exact hin) Hno.out
      have Hfs := Lib.hid hfs
      have Hin := Lib.hid hin
      have hHR := Hrlen.out
      clear hfs hin hin3 hgo
      by_cases hkl : k < p.quo.length
      case' pos =>
        go_wp2_with fail
        have hq := quiet_near hN
        refine wp_region_quiet_below (by kernel_rfl) (by kernel_rfl) ?_
        repeat (first | go_big_quiet_skip | (go_big_quiet_want; go_big_quiet_op; first | go_big_quiet_on | (apply Exists.intro; refine ⟨fun _ => ?_, ?_⟩; (focus (first | fail)); go_big_quiet_on)))
        refine wpQuiet_nil ?_
        intro w1 hw1
        clear hq
        replace hw1 := quiet_ext hw1
        replace hN := hN.step hw1
        have hC := hN.2
        go_wp2_with fail
      case' neg =>
        go_wp2_with fail
      all_goals
        have hq := quiet_near hN
        refine wp_region_quiet_below (by kernel_rfl) (by kernel_rfl) ?_
        repeat (first | go_big_quiet_skip | (go_big_quiet_want; go_big_quiet_op; first | go_big_quiet_on | (apply Exists.intro; refine ⟨fun _ => ?_, ?_⟩; (focus (first | fail)); go_big_quiet_on)))
        refine wpQuiet_nil ?_
        intro w1 hw1
        clear hq
        replace hw1 := quiet_ext hw1
        replace hN := hN.step hw1
        have hC := hN.2
        have hEw := hE.trans hN.1
        have kpw := kp2.ext hEw
        have kqw := kq2.ext hEw
        have hcpw := kpw.cell
        have hcqw := kqw.cell
        have hlpw := kpw.lt
        have hlqw := kqw.lt
        have hE2w := hE2.trans hEw
        have hNw := hN.1
        obtain ⟨W9, hW9, hB9, hk9, hl9⟩ := box1 w1 #[] 53
        have hown9 := Owns.made (E := EHp) w1 w1.heap.size 53 (Nat.le_refl _)
        rw [hW9] at hown9
        have hcp9 := (kpw.ext hB9).cell
        have hcq9 := (kqw.ext hB9).cell
        have hlp9 := (kpw.ext hB9).lt
        have hlq9 := (kqw.ext hB9).lt
        clear hC hN hcp hcq hck hTd1
        obtain ⟨wo, rfl⟩ : ∃ wo, wo = wr := ⟨_, rfl⟩
        obtain ⟨wz, rfl⟩ : ∃ wz, wz = w1 := ⟨_, rfl⟩
        go_wp2_with fail
        clear hW9
        go_loopg [9, 10, 11] k (fun n x u y wx => ∃ (a : Int) (pre : List Hp), y = .int .i64 a ∧ x = .int .i64 n ∧ n ≤ k ∧ 0 ≤ a ∧ a < p.quo.length ∧ Hid (FS p.quo.length p.cons q.size q.src q.ready n a) ∧ Owns EHp wx wz.heap.size 53 u pre ∧ pre.length + n = k ∧ Ext wz wx ∧ Hid (∀ l, FP p.cons (p.RrQ q) q.size n a l → FP p.cons (p.RrQ q) q.size k q.dst (pre.reverse ++ l)))
        case atStart => exact ⟨q.dst, [], rfl, rfl, Nat.le_refl _, a3, a4, Hfs, hown9, by simp, hB9, Lib.hid (fun l hl => hl)⟩
        case round =>
          obtain ⟨a, pre, rfl, rfl, b1, b2, b3, hfs, hu, hpl, hx, hpath⟩ := hrel
          clear hcp9 hcq9 hcpw hcqw
          have kp4 := kpw.ext hx
          have kq4 := kqw.ext hx
          have hcp4 := kp4.cell
          have hcq4 := kq4.cell
          have hlp4 := kp4.lt
          have hlq4 := kq4.lt
          obtain ⟨A2, c2, rfl, hR2⟩ := hu.form
          have hcap2 := hu.cap
          by_cases hj : gk = 0
          · have hd : decide ((0 : Int) < (gk : Int)) = false := by simp [hj]
            have hfin := hpath.out [] (by rw [hj]; exact .done)
            rw [List.append_nil] at hfin
            have Hfin := Lib.hid hfin
            clear hfin
            go_wp2
            go_ret2
            refine ⟨pre, 0, ⟨A2, c2, rfl, hR2, hE2w.trans hx, hcap2⟩, by omega, ?_⟩
            unfold JFew
            rw [if_pos ⟨H0.out, Hq.out⟩]
            exact .inr ⟨rfl, k, pre.reverse, hkN, by rw [HT.out]; exact Hin.out, Hno.out, Hfin.out, by rw [List.reverse_reverse]⟩
          · obtain ⟨j, rfl⟩ : ∃ j, gk = j + 1 := ⟨gk - 1, by omega⟩
            have hd : decide ((0 : Int) < ((j + 1 : Nat) : Int)) = true := by simp
            have hd2' : decide ((0 : Int) < (j : Int) + 1) = true := decide_eq_true (by omega)
            have hpj : (0 : Int) ≤ (j : Int) + 1 := by omega
            rw [Int.natCast_add, Int.natCast_one]
            have hfs2 := hfs.out
            obtain ⟨fi, fc, hfound⟩ := FS.found J hfs2
            have hprev := FS.prev J hfs2 hfound
            have hsp := lastC_spec hfound
            have hlt2 := lastC_lt J hfound
            change lastC (p.RrQ q j) q.size a (gi (p.RrQ q (j + 1)) a) p.cons = some (fi, fc) at hfound
            obtain ⟨B1, o1, d1, hc1, hb1', hR1⟩ := Hcells.out (j + 1) (by omega)
            obtain ⟨B0, o0, d0, hc0, hb0, hR0⟩ := Hcells.out j (by omega)
            have hin := fun w h hm => rlast_any Aq cq Ac cc p a (gi (p.RrQ q (j + 1)) a) q.size (some ⟨B0, o0, none⟩) d0 (p.RrQ q j) w h hok ⟨a6, a7⟩ hm (hHR j)
            simp only [hfound, bval, bcells, hHR j] at hin
            obtain ⟨hh, hhe⟩ : ∃ hh, hopE fi fc (gi (p.RrQ q j) fc.src) q.size = hh := ⟨_, rfl⟩
            have hin2 : ∀ w, PlnRd w Aq cq Ac cc p → Rd EInt w (some ⟨B0, o0, none⟩) (p.RrQ q j) → Calls Try.prog 40 #[.agg #[.slice Aq p.quo.length cq, .slice Ac p.cons.length cc], .int .i64 q.size, .int .i64 a, .int .i64 (gi (p.RrQ q (j + 1)) a), .slice (some ⟨B0, o0, none⟩) p.quo.length d0] w fun e w' => e = .returned (.agg #[.int .i64 hh.con, .int .i64 hh.beg, .int .i64 hh.en, .int .i64 hh.arr]) ∧ Ext w w' := by
              rw [← hhe]; exact hin
            have Hhe := Lib.hid hhe
            have Hf := Lib.hid hfound
            have Hsp := Lib.hid hsp
            have Hprev := Lib.hid hprev
            have hxx := hNw.trans hx
            obtain ⟨hTa, hbm2⟩ := (hR1.ext hxx).gi (i := a) (by rw [hHR (j + 1)]; omega)
            have hc1' := hxx.cell_some hc1
            have hc0' := hxx.cell_some hc0
            have hfil : fi < p.cons.length := (List.getElem?_eq_some_iff.1 hsp.1).1
            obtain ⟨l1, l2, l3, l4⟩ := hlt2
            have hhr := h.ext (hE2w.trans hx)
            have hRr := hR0.ext hxx
            have hbhr := Nat.lt_of_lt_of_le hbhl hxx.size
            have hi5 : j ≤ k := by omega
            have hi6 : (j : Int) ≤ (k : Int) := by omega
            have hi7 : j < k := by omega
            have hi8 : (j : Int) < (k : Int) := by omega
            have hwj : IntKind.i64.wrap (j : Int) = (j : Int) := IntWalk.i64_in _ (by omega)
            have hi1 : j + 1 < k + 1 := by omega
            have hi2 : j < k + 1 := by omega
            have hi3 : (j : Int) + 1 < (k : Int) + 1 := by omega
            have hi4 : (j : Int) < (k : Int) + 1 := by omega
            clear hin hhe hfound hsp hprev hfs2 hc1 hc0
            go_wp2_with fail
            go_cut [12] from 93 to 109 (fun x wx => HopS1 wr hh x wx)
            case first =>
              have hN9 := Near.refl wr
              go_region_held3 (fun w' => Ext wr w' ∧ ∀ b o, b < wr.heap.size → w'.cell? ⟨b, o, none⟩ = wr.cell? ⟨b, o, none⟩) (first | exact hN9.drew | exact Near.alloc (by assumption) _ | exact Near.step (by assumption) hb9 | (refine Near.of ?_; repeat (first | exact hx9 | refine Ext.alloc ?_ _ | (refine Ext.setCell ?_ ?_ _; rotate_left; (focus (first | exact Nat.le_refl _ | (dsimp only; omega)))))))
                (first | (go_at_call 40; refine (hin2 _ (hhr.ext (And.left (by assumption))) (hRr.ext (And.left (by assumption)))).mono ?_; rintro e w9 ⟨rfl, hb9⟩; have hx9 : Ext wr w9 := Ext.trans (And.left (by assumption)) hb9; have hz9 := fun (hh : Blk _ wr.heap.size 53 #[.int .i64 0, .int .i64 0, .int .i64 0, .int .i64 0]) => Blk.ext hh hb9; (try simp [blk_alloc_iff, blk_drew, blk_no0] at hz9); (try (have hz9c := Blk.cell hz9; have hz9f := Blk.frozen hz9; have hz9l := Blk.lt hz9))))
              all_goals
                go_wp2_with fail
                go_meet
                first
                  | exact ⟨wr.heap.size, rfl, Nat.le_refl _, trivial, hz9.setCells_ hh.cells 0, ext_setCells hx9 (Nat.le_refl _) 0 hh.cells⟩
                  | exact ⟨w9.heap.size, rfl, hx9.size, trivial, Blk.new _ _ _, hx9.alloc _⟩
            case rest =>
              obtain ⟨B, rfl, hBl, _, kh, hx5⟩ := hcut
              rw [← Hhe.out] at kh
              simp only [hopE, Hp.cells] at kh
              obtain ⟨b, o, rfl, hb, c0, c1, c2', c3', c4, c5, c6⟩ := h.c.con hfil
              have hge : p.cons[fi] = fc := by have := Hsp.out.1; rw [List.getElem?_eq_getElem hfil] at this; injection this
              rw [hge] at c0
              have hch := kh.cell
              have hlh := kh.lt
              have kp5' := kp4.ext hx5
              have hcp5' := kp5'.cell
              have hlp5' := kp5'.lt
              have hR5' := hR2.ext hx5
              have hs1 := hE2w.size
              have hs2 := hx.size
              have hs3 := hx5.size
              clear c1 c2' c3' c4 c5 c6 hge hcp4 hcq4 hin2 hTa hc1' hc0'
              have hox : Owns EHp (wc.alloc (.cells (EHp.all [hopE fi fc (gi (p.RrQ q j) fc.src) q.size]).toArray 53)) wz.heap.size 53 (.slice (some ⟨wc.heap.size, 0, none⟩) 1 1) [hopE fi fc (gi (p.RrQ q j) fc.src) q.size] := owns_blk (Blk.new wc 53 _) (by omega) (by simp [maxLen])
              have hlx : ([hopE fi fc (gi (p.RrQ q j) fc.src) q.size] : List Hp).length = 1 := rfl
              have hm1 : ([hopE fi fc (gi (p.RrQ q j) fc.src) q.size] : List Hp).length + pre.length ≤ maxLen := by rw [hlx]; unfold maxLen; omega
              have hm2 : (([hopE fi fc (gi (p.RrQ q j) fc.src) q.size] : List Hp).length + pre.length) * 32 ≤ 140737488355328 := by rw [hlx]; omega
              have hm3 : wz.heap.size ≤ (wc.alloc (.cells (EHp.all [hopE fi fc (gi (p.RrQ q j) fc.src) q.size]).toArray 53)).heap.size := by simp; omega
              have Hm := Lib.hid (And.intro hm1 (And.intro hm2 hm3))
              clear hm1 hm2 hm3 hlx
              go_wp2_with (at_builtin; refine wpList_cat rfl (.tmp 111) (.tmp 112) _ (by rfl) wz.heap.size 53 i0 _ 32 Try.underlying43 hi0 hz0 hz1 hz2 (by rfl) (.slice (some ⟨wc.heap.size, 0, none⟩) 1 1) (by rfl) hox c2 pre.length (by rfl) rfl (hR5'.ext ((Ext.refl _).alloc _)) Hm.out.1 Hm.out.2.1 Hm.out.2.2 ?_; intro v6 w6 hv6 hg6 hat6; have hx6 : Ext wz w6 := ext_grown ((hx.trans hx5).alloc _) hox (Nat.le_refl _) hg6; have kp6 := kpw.ext hx6; have hcp6 := kp6.cell; have hlp6 := kp6.lt; have kh6 := Blk.kept (kh.ext ((Ext.refl _).alloc _)) hg6 (fun e' => by have := (hox.block e'.symm).1; have e2 : some B = some wc.heap.size := e'; have := Option.some.inj e2; omega); have hch6 := kh6.cell; have hlh6 := kh6.lt; have c06 := (hE2w.trans hx6).cell_some c0)
              have hce := hopE_eq (i := fi) Hsp.out.2.2.2.2.1
              go_roundg j
              case measure => omega
              case rel =>
                refine ⟨fc.src, hopE fi fc (gi (p.RrQ q j) fc.src) q.size :: pre, rfl, rfl, by omega, l1, l2, Hprev, hv6, by rw [List.length_cons]; omega, hx6, Lib.hid (fun l hl => ?_)⟩
                rw [List.reverse_cons, List.append_assoc, List.singleton_append, show hopE fi fc (gi (p.RrQ q j) fc.src) q.size = hopAt fi fc (gi (p.RrQ q j) fc.src) q.size from hce]
                have hf2 := Hf.out
                exact hpath.out _ (FP.step hf2 hl)
    · have hkN2 : p.quo.length ≤ k := by
        apply Classical.byContradiction
        intro hh
        exact hgo ⟨by omega, by simpa using hin⟩
      have hin2 : inT q T = false := by simpa using hin
      have hin3 := hin2
      simp only [inT, decide_eq_false_iff_not] at hin3
      have hnoK : ∀ j, j < k + 1 → inT q (p.RrQ q j) = false := fun j hj => by
        rcases Nat.lt_succ_iff_lt_or_eq.1 hj with hj | rfl
        · exact Hno.out j hj
        · rw [HT.out]; exact hin2
      have HnoK := Lib.hid hnoK
      have hnl : decide ((k : Int) < (p.quo.length : Int)) = false := decide_eq_false (by omega)
      clear hgo hnoK hin2 hin
      by_cases hd0 : gi T q.dst < 0
      all_goals
        first
          | (have hdd : decide (gi T q.dst < 0) = true := decide_eq_true hd0)
          | (have hdd : decide (gi T q.dst < 0) = false := decide_eq_false hd0)
        try (have hde : decide (q.dead < gi T q.dst) = true := decide_eq_true (by omega))
        clear hin3 hd0
        go_wp2_with fail
        have hq := quiet_near hN
        refine wp_region_quiet_below (by kernel_rfl) (by kernel_rfl) ?_
        repeat (first | go_big_quiet_skip | (go_big_quiet_want; go_big_quiet_op; first | go_big_quiet_on | (apply Exists.intro; refine ⟨fun _ => ?_, ?_⟩; (focus (first | fail)); go_big_quiet_on)))
        refine wpQuiet_nil ?_
        intro w1 hw1
        clear hq
        replace hw1 := quiet_ext hw1
        replace hN := hN.step hw1
        have hC := hN.2
        go_wp2
        go_ret2
        refine ⟨[], 18, ⟨_, 0, rfl, Rd.nil, (hEr.trans hN.1).alloc _, Nat.le_refl _⟩, by simp, ?_⟩
        unfold JFew
        rw [if_pos ⟨H0.out, Hq.out⟩]
        exact .inl ⟨rfl, rfl, fun j hj => HnoK.out j (by omega)⟩

end Go.Proofs.Ytgmfnhianhngiaa
