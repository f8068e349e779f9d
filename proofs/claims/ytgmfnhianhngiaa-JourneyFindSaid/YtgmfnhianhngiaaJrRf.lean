
/- Layer 24 (journey): the walk of the reference's Find. -/
import Derived.Test.YtgmfnhianhngiaaJrW8
import Derived.Test.YtgmfnhianhngiaaJrW9
namespace Go.Proofs.Ytgmfnhianhngiaa
set_option linter.unusedVariables false
set_option linter.unusedSimpArgs false
open Go.RowKit Go.Shelf

/-- Behind the statement 'h := last(..)'. -/
def HopS1 (w : World) (hh : Hp) (h : Value) (w' : World) : Prop :=
  ∃ B, h = .pointer (some ⟨B, 0, none⟩) ∧ w.heap.size ≤ B ∧ True ∧ Blk w' B 53 hh.cells.toArray ∧ Ext w w'
theorem fineQ_yes {p : Pln} {q : Req} (h : fineQ p q = true) : p.chk = 0 ∧ q.okB p.quo.length = true := by
  simpa [fineQ] using h
theorem fineQ_no {p : Pln} {q : Req} (h : fineQ p q = false) : ¬ (p.chk = 0 ∧ q.okB p.quo.length = true) := by
  intro h2
  unfold fineQ at h
  rw [h2.2, decide_eq_true h2.1] at h
  cases h

set_option maxRecDepth 100000 in
set_option maxHeartbeats 4000000 in
theorem rFind24_any (Aq : Option Addr) (cq : Nat) (Ac : Option Addr) (cc : Nat) (p : Pln) (q : Req) (w : World) (h : PlnRd w Aq cq Ac cc p) :
    Calls Try.prog 22 #[p.val Aq cq Ac cc, q.val] w (FindJ p q w) := by
  obtain ⟨i0, hi0, hz0, hz1, hz2⟩ := info_parts info_hop
  obtain ⟨W, hW, hB, hk, hk2, hlt, hlt2⟩ := box2 w #[.slice Aq p.quo.length cq, .slice Ac p.cons.length cc] q.cells 25 34
  simp only [Req.cells] at hW hk2
  have hc := hk.cell
  have hc2 := hk2.cell
  have hcr := rCheckRequest_any Aq cq Ac cc p q W (h.ext hB)
  cases hf : fineQ p q
  · rw [hf] at hcr
    have Hf := Lib.hid (fineQ_no hf)
    clear hf
    unfold Pln.val at hcr ⊢
    unfold Req.val at hcr ⊢
    go_enter Try.func22, Try.ntmps22
    go_wp2_with fail
    clear hW
    refine hcr.mono ?_
    clear hcr
    rintro e w1 ⟨rfl, hb1⟩
    go_wp2
    go_ret2
    exact ⟨[], 1, ⟨_, 0, rfl, Rd.nil, (hB.trans hb1).alloc _, Nat.le_refl _⟩, by simp, by unfold JFind; rw [if_neg Hf.out]; exact ⟨rfl, rfl⟩⟩
  rw [hf] at hcr
  obtain ⟨f0, hq⟩ := fineQ_yes hf
  have hok := Pln.ok_of f0
  have H0 := Lib.hid f0
  have J := Req.jc hok hq
  have hl := Pln.arrQ_least hok hq
  have hsT := hl.srcT J
  have Hq := Lib.hid hq
  have haF := Req.argF hq
  have hq2 := hq
  simp only [Req.okB, decide_eq_true_eq] at hq2
  obtain ⟨a1, a2, a3, a4, a5, a6, a7, a8, a9, a10, a11, a12⟩ := hq2
  have hn1 := hok.n1
  have hn16 := hok.n16
  have hm64 := hok.m64
  have hlen := hl.len
  have Hlen := Lib.hid hlen
  have hJF : ∀ l k, (if inT q (p.arrQ q) then k = 0 ∧ ∃ b, JP p.cons (p.arrQ q) q.size q.src q.dst b ∧ l = b.reverse else k = 18 ∧ l = []) → JFind p q l k := fun l k hh => by unfold JFind; rw [if_pos ⟨H0.out, Hq.out⟩]; exact hh
  have HJF := Lib.hid hJF
  have Hl := Lib.hid hl
  have HsT := Lib.hid hsT
  have harr := fun w h => rarrivals_any Aq cq Ac cc p q.src q.ready q.size w h hok haF
  change ∀ (w : World) (h : PlnRd w Aq cq Ac cc p), Calls _ _ _ _ (fun e w' => ∃ v, e = .returned v ∧ Owns EInt w' w.heap.size 3 v (p.arrQ q) ∧ Ext w w') at harr
  generalize hT : p.arrQ q = T at *
  clear hq a5 hJF hl hsT hlen hT hf f0
  unfold Pln.val at hcr harr ⊢
  unfold Req.val at hcr ⊢
  go_enter Try.func22, Try.ntmps22
  go_wp2_with fail
  clear hW
  refine hcr.mono ?_
  clear hcr
  rintro e w2 ⟨rfl, hb1⟩
  have hE2 := hB.trans hb1
  have kp2 := hk.ext hb1
  have kq2 := hk2.ext hb1
  replace hc := kp2.cell
  replace hc2 := kq2.cell
  go_wp2_with fail
  refine (harr _ (h.ext hE2)).mono ?_
  clear harr
  rintro e z1 ⟨v3, rfl, hv3, hb3⟩
  obtain ⟨A3, c3, rfl, hR3, hcap3⟩ := Rd.of_owns hv3
  have hE3 := hE2.trans hb3
  have kp3 := kp2.ext hb3
  have kq3 := kq2.ext hb3
  replace hc := kp3.cell
  replace hc2 := kq3.cell
  have hlp3 := kp3.lt
  have hlq3 := kq3.lt
  have hTl := Hlen.out
  obtain ⟨Bm, om, rfl, hbm, hcx⟩ := hR3.int (k := 0) (by omega)
  have hTd := hR3.gi (i := q.dst) (by omega)
  have hdl : q.dst < T.length := by omega
  clear hcx hTl hb1 hb3 hk hk2 hB
  have hN := Near.refl z1
  by_cases hd0 : gi T q.dst < 0
  · have hdd : decide (gi T q.dst < 0) = true := by simpa using hd0
    go_wp2_with fail
    have hq := quiet_near hN
    refine wp_region_quiet_below (by kernel_rfl) (by kernel_rfl) ?_
    repeat (first | go_big_quiet_skip | (go_big_quiet_want; go_big_quiet_op; first | go_big_quiet_on | (apply Exists.intro; refine ⟨fun _ => ?_, ?_⟩; (focus (first | fail)); go_big_quiet_on)))
    refine wpQuiet_nil ?_
    intro w1 hw1
    clear hq
    replace hw1 := quiet_ext hw1
    replace hN := hN.step hw1
    have hC := hN.2
    go_wp2
    go_ret2
    exact ⟨[], 18, ⟨_, 0, rfl, Rd.nil, (hE3.trans hN.1).alloc _, Nat.le_refl _⟩, by simp, HJF.out _ _ (by rw [if_neg (by simp [inT]; omega)]; exact ⟨rfl, rfl⟩)⟩
  have hdd : decide (gi T q.dst < 0) = false := by simpa using hd0
  by_cases hd1 : q.dead < gi T q.dst
  · have hde : decide (q.dead < gi T q.dst) = true := by simpa using hd1
    go_wp2_with fail
    have hq := quiet_near hN
    refine wp_region_quiet_below (by kernel_rfl) (by kernel_rfl) ?_
    repeat (first | go_big_quiet_skip | (go_big_quiet_want; go_big_quiet_op; first | go_big_quiet_on | (apply Exists.intro; refine ⟨fun _ => ?_, ?_⟩; (focus (first | fail)); go_big_quiet_on)))
    refine wpQuiet_nil ?_
    intro w1 hw1
    clear hq
    replace hw1 := quiet_ext hw1
    replace hN := hN.step hw1
    have hC := hN.2
    go_wp2
    go_ret2
    exact ⟨[], 18, ⟨_, 0, rfl, Rd.nil, (hE3.trans hN.1).alloc _, Nat.le_refl _⟩, by simp, HJF.out _ _ (by rw [if_neg (by simp [inT]; omega)]; exact ⟨rfl, rfl⟩)⟩
  have hde : decide (q.dead < gi T q.dst) = false := by simpa using hd1
  go_wp2_with fail
  have hq := quiet_near hN
  refine wp_region_quiet_below (by kernel_rfl) (by kernel_rfl) ?_
  repeat (first | go_big_quiet_skip | (go_big_quiet_want; go_big_quiet_op; first | go_big_quiet_on | (apply Exists.intro; refine ⟨fun _ => ?_, ?_⟩; (focus (first | fail)); go_big_quiet_on)))
  refine wpQuiet_nil ?_
  intro w1 hw1
  clear hq
  replace hw1 := quiet_ext hw1
  replace hN := hN.step hw1
  have hC := hN.2
  obtain ⟨W9, hW9, hB9, hk9, hl9⟩ := box1 w1 #[] 53
  have hown9 := Owns.made (E := EHp) w1 w1.heap.size 53 (Nat.le_refl _)
  rw [hW9] at hown9
  have hx := hN.1.trans hB9
  have kp4 := kp3.ext hx
  have kq4 := kq3.ext hx
  have hc4 := kp4.cell
  have hc5 := kq4.cell
  have hR4 := hR3.ext hx
  have hE4 := hE3.trans hx
  have hlq4 := kq4.lt
  have kpw := kp3.ext hN.1
  have kqw := kq3.ext hN.1
  have hRw := hR3.ext hN.1
  have hEw := hE3.trans hN.1
  have hHT := Lib.hid (show inT q T = true by simp [inT]; omega)
  clear hc hc2 hN hC hTd kp3 kq3 hR3 hE3
  go_wp2_with fail
  clear hW9
  go_loopg [7, 8] (gi T q.dst).toNat (fun n u x wr => ∃ (a : Int) (pre : List Hp), x = .int .i64 a ∧ 0 ≤ a ∧ a < p.quo.length ∧ 0 ≤ gi T a ∧ gi T a ≤ 1099511627776 ∧ n = (gi T a).toNat ∧ Owns EHp wr w1.heap.size 53 u pre ∧ (pre.length : Int) + gi T a ≤ 1099511627776 ∧ Ext w1 wr ∧ ∀ l, JP p.cons T q.size q.src a l → JP p.cons T q.size q.src q.dst (pre.reverse ++ l))
  case atStart => exact ⟨q.dst, [], rfl, a3, a4, by omega, by omega, rfl, hown9, by simp; omega, hB9, fun l hl => hl⟩
  case round =>
    obtain ⟨a, pre, rfl, b1, b2, b3, b3u, hgk, hu, hpl, hN, hpath⟩ := hrel
    have Hpath := Lib.hid hpath
    have kpr := kpw.ext hN
    have kqr := kqw.ext hN
    have hcp := kpr.cell
    have hcq := kqr.cell
    have hlp := kpr.lt
    have hlq := kqr.lt
    clear hpath hc4 hc5 kp4 kq4 hR4 hE4
    obtain ⟨A2, c2, rfl, hR2⟩ := hu.form
    have hcap2 := hu.cap
    by_cases hne : a = q.src
    · have hd : (a != q.src) = false := by simpa using hne
      have Hne := Lib.hid hne
      clear hne
      go_wp2
      go_ret2
      have hfin := Hpath.out [] (by rw [Hne.out]; exact .done)
      rw [List.append_nil] at hfin
      refine ⟨pre, 0, ⟨A2, c2, rfl, hR2, hEw.trans hN, hcap2⟩, by omega, HJF.out _ _ ?_⟩
      rw [if_pos hHT.out]
      exact ⟨rfl, pre.reverse, hfin, by rw [List.reverse_reverse]⟩
    · have hd : (a != q.src) = true := by simpa using hne
      obtain ⟨fi, fc, hfound⟩ := JP.found J Hl.out b1 b2 hne b3
      have hsp := lastC_spec hfound
      have hlt2 := lastC_lt J hfound
      have hin := fun w h hm => rlast_any Aq cq Ac cc p a (gi T a) q.size (some ⟨Bm, om, none⟩) c3 T w h hok ⟨a6, a7⟩ hm Hlen.out
      simp only [hfound, bval, bcells] at hin
      obtain ⟨hh, hhe⟩ : ∃ hh, hopE fi fc (gi T fc.src) q.size = hh := ⟨_, rfl⟩
      have hin2 : ∀ w, PlnRd w Aq cq Ac cc p → Rd EInt w (some ⟨Bm, om, none⟩) T → Calls Try.prog 40 #[.agg #[.slice Aq p.quo.length cq, .slice Ac p.cons.length cc], .int .i64 q.size, .int .i64 a, .int .i64 (gi T a), .slice (some ⟨Bm, om, none⟩) T.length c3] w fun e w' => e = .returned (.agg #[.int .i64 hh.con, .int .i64 hh.beg, .int .i64 hh.en, .int .i64 hh.arr]) ∧ Ext w w' := by
        rw [← hhe]; exact hin
      have Hhe := Lib.hid hhe
      have Hne := Lib.hid hne
      have Hf := Lib.hid hfound
      have Hsp := Lib.hid hsp
      have hTl := Hlen.out
      obtain ⟨hTa, hbm2⟩ := (hRw.ext hN).gi (i := a) (by omega)
      have hal : a < T.length := by omega
      have hfil : fi < p.cons.length := (List.getElem?_eq_some_iff.1 hsp.1).1
      obtain ⟨l1, l2, l3, l4⟩ := hlt2
      have hhr := h.ext (hEw.trans hN)
      have hRr := hRw.ext hN
      clear hin hhe hne hfound hsp hTl
      go_wp2_with fail
      go_cut [9] from 47 to 56 (fun x wx => HopS1 wr hh x wx)
      case first =>
        have hN9 := Near.refl wr
        go_region_held3 (fun w' => Ext wr w' ∧ ∀ b o, b < wr.heap.size → w'.cell? ⟨b, o, none⟩ = wr.cell? ⟨b, o, none⟩) (first | exact hN9.drew | exact Near.alloc (by assumption) _ | exact Near.step (by assumption) hb9 | (refine Near.of ?_; repeat (first | exact hx9 | refine Ext.alloc ?_ _ | (refine Ext.setCell ?_ ?_ _; rotate_left; (focus (first | exact Nat.le_refl _ | (dsimp only; omega)))))))
          (first | (go_at_call 40; refine (hin2 _ (hhr.ext (And.left (by assumption))) (hRr.ext (And.left (by assumption)))).mono ?_; rintro e w9 ⟨rfl, hb9⟩; have hx9 : Ext wr w9 := Ext.trans (And.left (by assumption)) hb9; have hz9 := fun (hh : Blk _ wr.heap.size 53 #[.int .i64 0, .int .i64 0, .int .i64 0, .int .i64 0]) => Blk.ext hh hb9; (try simp [blk_alloc_iff, blk_drew, blk_no0] at hz9); (try (have hz9c := Blk.cell hz9; have hz9f := Blk.frozen hz9; have hz9l := Blk.lt hz9))))
        all_goals
          go_wp2_with fail
          go_meet
          first
            | exact ⟨wr.heap.size, rfl, Nat.le_refl _, trivial, hz9.setCells_ hh.cells 0, ext_setCells hx9 (Nat.le_refl _) 0 hh.cells⟩
            | exact ⟨w9.heap.size, rfl, hx9.size, trivial, Blk.new _ _ _, hx9.alloc _⟩
      case rest =>
        obtain ⟨B, rfl, hBl, _, kh, hx5⟩ := hcut
        rw [← Hhe.out] at kh
        simp only [hopE, Hp.cells] at kh
        obtain ⟨b, o, rfl, hb, c0, c1, c2', c3', c4, c5, c6⟩ := h.c.con hfil
        have hge : p.cons[fi] = fc := by have := Hsp.out.1; rw [List.getElem?_eq_getElem hfil] at this; injection this
        rw [hge] at c0
        have hch := kh.cell
        have hlh := kh.lt
        have kp5 := kpr.ext hx5
        have hcp5 := kp5.cell
        have hlp5 := kp5.lt
        have hR5 := hR2.ext hx5
        have hs1 := hEw.size
        have hs2 := hN.size
        have hs3 := hx5.size
        clear c1 c2' c3' c4 c5 c6 hge hcp hcq hin2 hTa
        have hox : Owns EHp (wc.alloc (.cells (EHp.all [hopE fi fc (gi T fc.src) q.size]).toArray 53)) w1.heap.size 53 (.slice (some ⟨wc.heap.size, 0, none⟩) 1 1) [hopE fi fc (gi T fc.src) q.size] := owns_blk (Blk.new wc 53 _) (by omega) (by simp [maxLen])
        have hlx : ([hopE fi fc (gi T fc.src) q.size] : List Hp).length = 1 := rfl
        have hm1 : ([hopE fi fc (gi T fc.src) q.size] : List Hp).length + pre.length ≤ maxLen := by rw [hlx]; unfold maxLen; omega
        have hm2 : (([hopE fi fc (gi T fc.src) q.size] : List Hp).length + pre.length) * 32 ≤ 140737488355328 := by rw [hlx]; omega
        have hm3 : w1.heap.size ≤ (wc.alloc (.cells (EHp.all [hopE fi fc (gi T fc.src) q.size]).toArray 53)).heap.size := by simp; omega
        have Hm := Lib.hid (And.intro hm1 (And.intro hm2 hm3))
        clear hm1 hm2 hm3 hlx
        go_wp2_with (at_builtin; refine wpList_cat rfl (.tmp 58) (.tmp 59) _ (by rfl) w1.heap.size 53 i0 _ 32 Try.underlying43 hi0 hz0 hz1 hz2 (by rfl) (.slice (some ⟨wc.heap.size, 0, none⟩) 1 1) (by rfl) hox c2 pre.length (by rfl) rfl (hR5.ext ((Ext.refl _).alloc _)) Hm.out.1 Hm.out.2.1 Hm.out.2.2 ?_; intro v6 w6 hv6 hg6 hat6; have hx6 : Ext w1 w6 := ext_grown ((hN.trans hx5).alloc _) hox (Nat.le_refl _) hg6; have kp6 := kpw.ext hx6; have hcp6 := kp6.cell; have hlp6 := kp6.lt; have kh6 := Blk.kept (kh.ext ((Ext.refl _).alloc _)) hg6 (fun e' => by have := (hox.block e'.symm).1; have e2 : some B = some wc.heap.size := e'; have := Option.some.inj e2; omega); have hch6 := kh6.cell; have hlh6 := kh6.lt; have c06 := (hEw.trans hx6).cell_some c0)
        have hce := hopE_eq (i := fi) Hsp.out.2.2.2.2.1
        go_roundg (gi T fc.src).toNat
        case measure => omega
        case rel =>
          refine ⟨fc.src, hopE fi fc (gi T fc.src) q.size :: pre, rfl, l1, l2, l3, by omega, rfl, hv6, by rw [List.length_cons]; omega, hx6, fun l hl => ?_⟩
          rw [List.reverse_cons, List.append_assoc, List.singleton_append, hce]
          exact Hpath.out _ (JP.step Hne.out Hf.out hl)

end Go.Proofs.Ytgmfnhianhngiaa
