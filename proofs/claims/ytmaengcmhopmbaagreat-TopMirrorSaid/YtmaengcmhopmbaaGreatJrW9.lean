
/- Layer 24 (journey): the walk of Find. -/
import Derived.Test.YtmaengcmhopmbaaGreatJrW6
import Derived.Test.YtmaengcmhopmbaaGreatJrW7
import Derived.Test.YtmaengcmhopmbaaGreatJrV
namespace Go.Proofs.YtmaengcmhopmbaaGreat
set_option linter.unusedVariables false
set_option linter.unusedSimpArgs false
open Go.RowKit Go.Shelf

theorem info_hop : (Tryz.prog.info? 40).map (fun i => (i.zero, i.size, i.bytes)) = some (some (.agg #[.int .i64 0, .int .i64 0, .int .i64 0, .int .i64 0]), 4, 32) := by kernel_rfl
/-- What Find returns, in memory. -/
def FindJ (p : Pln) (q : Req) (w : World) (e : Ending) (w' : World) : Prop := ∃ (l : List Hp) (k : Int), RetA EHp w l k e w' ∧ l.length ≤ 1099511627776 ∧ JFind p q l k
/-- Behind the statement 'h, ok := into(..)'. -/
def HopS2 (w : World) (hh : Hp) (h ok : Value) (w' : World) : Prop :=
  ∃ B, h = .pointer (some ⟨B, 0, none⟩) ∧ w.heap.size ≤ B ∧ ok = .bool true ∧ Blk w' B 40 hh.cells.toArray ∧ Ext w w'
def hopE (i : Nat) (c : Con) (t n : Int) : Hp := ⟨i, c.beg t, c.beg t + c.dur n, earr c t n⟩
theorem hopE_eq {i : Nat} {c : Con} {t n : Int} (he : earr c t n ≠ -1) : hopE i c t n = hopAt i c t n := by
  have h := hopAt_arr (i := i) he
  unfold hopE
  rw [← h]; rfl

set_option maxRecDepth 100000 in
set_option maxHeartbeats 4000000 in
theorem JFind_any (Aq : Option Addr) (cq : Nat) (Ac : Option Addr) (cc : Nat) (p : Pln) (q : Req) (w : World) (h : PlnRd w Aq cq Ac cc p) :
    Calls Tryz.prog 9 #[p.val Aq cq Ac cc, q.val] w (FindJ p q w) := by
  obtain ⟨i0, hi0, hz0, hz1, hz2⟩ := info_parts info_hop
  obtain ⟨W, hW, hB, hk, hk2, hlt, hlt2⟩ := box2 w #[.slice Aq p.quo.length cq, .slice Ac p.cons.length cc] q.cells 25 27
  simp only [Req.cells] at hW hk2
  have hc := hk.cell
  have hc2 := hk2.cell
  have hqm := h.qm
  have hpc := pcheck_any Aq cq Ac cc p W (h.ext hB)
  by_cases h0 : p.chk = 0
  · have hok := Pln.ok_of h0
    rw [h0] at hpc
    have H0 := Lib.hid h0
    clear h0
    have hva := fun w => valid_any Aq cq Ac cc p q w hqm
    cases hq : q.okB p.quo.length
    · rw [hq] at hva
      have Hq := Lib.hid hq
      clear hq
      unfold Pln.val at hpc hva ⊢
      unfold Req.val at hva ⊢
      go_enter Tryz.func9, Tryz.ntmps9
      go_wp2_with fail
      clear hW
      refine hpc.mono ?_
      clear hpc
      rintro e w1 ⟨rfl, hb1⟩
      replace hc := (hk.ext hb1).cell
      replace hc2 := (hk2.ext hb1).cell
      go_wp2_with fail
      refine (hva _).mono ?_
      clear hva
      rintro e w2 ⟨rfl, hb2⟩
      go_wp2
      go_ret2
      exact ⟨[], 1, ⟨none, 0, rfl, Rd.nil, (hB.trans hb1).trans hb2, Nat.le_refl _⟩, by simp, by unfold JFind; rw [if_neg (fun h => by rw [Hq.out] at h; exact Bool.false_ne_true h.2)]; exact ⟨rfl, rfl⟩⟩
    · have J := Req.jc hok hq
      have hl := Pln.arrQ_least hok hq
      have hsT := hl.srcT J
      rw [hq] at hva
      have Hq := Lib.hid hq
      have haF := Req.argF hq
      have hq2 := hq
      simp only [Req.okB, decide_eq_true_eq] at hq2
      obtain ⟨a1, a2, a3, a4, a5, a6, a7, a8, a9, a10, a11, a12⟩ := hq2
      have hn1 := hok.n1
      have hn16 := hok.n16
      have hm64 := hok.m64
      have hlen := hl.len
      have Hlen := Lib.hid hlen
      have hJF : ∀ l k, (if inT q (p.arrQ q) then k = 0 ∧ ∃ b, JP p.cons (p.arrQ q) q.size q.src q.dst b ∧ l = b.reverse else k = 18 ∧ l = []) → JFind p q l k := fun l k hh => by unfold JFind; rw [if_pos ⟨H0.out, Hq.out⟩]; exact hh
      have HJF := Lib.hid hJF
      have Hl := Lib.hid hl
      have HsT := Lib.hid hsT
      have harr := fun w h => arrivals_any Aq cq Ac cc p q.src q.ready q.size w h hok haF
      change ∀ (w : World) (h : PlnRd w Aq cq Ac cc p), Calls _ _ _ _ (fun e w' => ∃ v, e = .returned v ∧ Owns EInt w' w.heap.size 3 v (p.arrQ q) ∧ Ext w w') at harr
      generalize hT : p.arrQ q = T at *
      clear hq a5 hJF hl hsT hlen hT
      unfold Pln.val at hpc hva harr ⊢
      unfold Req.val at hva ⊢
      go_enter Tryz.func9, Tryz.ntmps9
      go_wp2_with fail
      clear hW
      refine hpc.mono ?_
      clear hpc
      rintro e w1 ⟨rfl, hb1⟩
      replace hc := (hk.ext hb1).cell
      replace hc2 := (hk2.ext hb1).cell
      go_wp2_with fail
      refine (hva _).mono ?_
      clear hva
      rintro e w2 ⟨rfl, hb2⟩
      have hE2 := (hB.trans hb1).trans hb2
      replace hc := ((hk.ext hb1).ext hb2).cell
      replace hc2 := ((hk2.ext hb1).ext hb2).cell
      go_wp2_with fail
      refine (harr _ (h.ext hE2)).mono ?_
      clear harr
      rintro e z1 ⟨v3, rfl, hv3, hb3⟩
      obtain ⟨A3, c3, rfl, hR3, hcap3⟩ := Rd.of_owns hv3
      have hE3 := hE2.trans hb3
      have kp3 := ((hk.ext hb1).ext hb2).ext hb3
      have kq3 := ((hk2.ext hb1).ext hb2).ext hb3
      replace hc := kp3.cell
      replace hc2 := kq3.cell
      have hlp3 := kp3.lt
      have hlq3 := kq3.lt
      have hTl := Hlen.out
      obtain ⟨Bm, om, rfl, hbm, hcx⟩ := hR3.int (k := 0) (by omega)
      have hTd := hR3.gi (i := q.dst) (by omega)
      have hdl : q.dst < T.length := by omega
      clear hcx hTl hb1 hb2 hb3 hk hk2 hB
      have hN := Near.refl z1
      by_cases hd0 : gi T q.dst < 0
      · have hdd : decide (gi T q.dst < 0) = true := by simpa using hd0
        go_wp2_with fail
        have hq := quiet_near hN
        refine wp_region_quiet_below (by kernel_rfl) (by kernel_rfl) ?_
        repeat (first | go_big_quiet_skip | (go_big_quiet_want; go_big_quiet_op; first | go_big_quiet_on | (apply Exists.intro; refine ⟨fun _ => ?_, ?_⟩; (focus (first | fail)); go_big_quiet_on)))
        refine wpQuiet_nil ?_
        intro w1 hw1
        clear hq
        replace hw1 := quiet_ext hw1
        replace hN := hN.step hw1
        have hC := hN.2
        go_wp2
        go_ret2
        exact ⟨[], 18, ⟨none, 0, rfl, Rd.nil, hE3.trans hN.1, Nat.le_refl _⟩, by simp, HJF.out _ _ (by rw [if_neg (by simp [inT]; omega)]; exact ⟨rfl, rfl⟩)⟩
      · have hdd : decide (gi T q.dst < 0) = false := by simpa using hd0
        by_cases hd1 : q.dead < gi T q.dst
        · have hde : decide (q.dead < gi T q.dst) = true := by simpa using hd1
          go_wp2_with fail
          have hq := quiet_near hN
          refine wp_region_quiet_below (by kernel_rfl) (by kernel_rfl) ?_
          repeat (first | go_big_quiet_skip | (go_big_quiet_want; go_big_quiet_op; first | go_big_quiet_on | (apply Exists.intro; refine ⟨fun _ => ?_, ?_⟩; (focus (first | fail)); go_big_quiet_on)))
          refine wpQuiet_nil ?_
          intro w1 hw1
          clear hq
          replace hw1 := quiet_ext hw1
          replace hN := hN.step hw1
          have hC := hN.2
          go_wp2
          go_ret2
          exact ⟨[], 18, ⟨none, 0, rfl, Rd.nil, hE3.trans hN.1, Nat.le_refl _⟩, by simp, HJF.out _ _ (by rw [if_neg (by simp [inT]; omega)]; exact ⟨rfl, rfl⟩)⟩
        · have hde : decide (q.dead < gi T q.dst) = false := by simpa using hd1
          go_wp2_with fail
          have hq := quiet_near hN
          refine wp_region_quiet_below (by kernel_rfl) (by kernel_rfl) ?_
          repeat (first | go_big_quiet_skip | (go_big_quiet_want; go_big_quiet_op; first | go_big_quiet_on | (apply Exists.intro; refine ⟨fun _ => ?_, ?_⟩; (focus (first | fail)); go_big_quiet_on)))
          refine wpQuiet_nil ?_
          intro w1 hw1
          clear hq
          replace hw1 := quiet_ext hw1
          replace hN := hN.step hw1
          have hC := hN.2
          have hx := hN.1
          have hc4 := (kp3.ext hx).cell
          have hc5 := (kq3.ext hx).cell
          have kp4 := kp3.ext hx
          have kq4 := kq3.ext hx
          have hR4 := hR3.ext hx
          have hE4 := hE3.trans hx
          have hlq4 := kq4.lt
          have hHT := Lib.hid (show inT q T = true by simp [inT]; omega)
          clear hc hc2 hN hC hTd kp3 kq3 hR3 hx hE3
          go_wp2_with fail
          go_loopg [7, 8] (gi T q.dst).toNat (fun n u x wr => ∃ (a : Int) (pre : List Hp), x = .int .i64 a ∧ 0 ≤ a ∧ a < p.quo.length ∧ 0 ≤ gi T a ∧ gi T a ≤ 1099511627776 ∧ n = (gi T a).toNat ∧ Owns EHp wr w1.heap.size 40 u pre ∧ (pre.length : Int) + gi T a ≤ 1099511627776 ∧ Ext w1 wr ∧ ∀ l, JP p.cons T q.size q.src a l → JP p.cons T q.size q.src q.dst (pre ++ l))
          case atStart => exact ⟨q.dst, [], rfl, a3, a4, by omega, by omega, rfl, Owns.none_ _ _, by simp; omega, Ext.refl _, fun l hl => hl⟩
          case round =>
            obtain ⟨a, pre, rfl, b1, b2, b3, b3u, hgk, hu, hpl, hN, hpath⟩ := hrel
            have Hpath := Lib.hid hpath
            have kpr := kp4.ext hN
            have kqr := kq4.ext hN
            have hcp := kpr.cell
            have hcq := kqr.cell
            have hlp := kpr.lt
            have hlq := kqr.lt
            clear hpath hc4 hc5
            by_cases hne : a = q.src
            · have hd : (a != q.src) = false := by simpa using hne
              have Hne := Lib.hid hne
              clear hne
              obtain ⟨A2, c2, rfl, hR2⟩ := hu.form
              have hcap2 := hu.cap
              go_wp2_with fail
              refine (reverse_any A2 pre.length c2 pre w1.heap.size wr hu (by omega)).mono ?_
              rintro e w8 ⟨⟨vv, rfl⟩, hv8, ⟨w9, hg9, rfl⟩⟩
              go_wp2
              go_ret2
              have hfin := Hpath.out [] (by rw [Hne.out]; exact .done)
              rw [List.append_nil] at hfin
              have hx8 := ext_grown (hE4.trans hN) hu (by have := hE4.size; omega) hg9
              have hlr : pre.reverse.length = pre.length := List.length_reverse
              refine ⟨pre.reverse, 0, ⟨A2, c2, by rw [hlr]; rfl, ?_, hx8, by rw [hlr]; exact hcap2⟩, by rw [hlr]; omega, HJF.out _ _ ?_⟩
              · obtain ⟨A4, c4, e4, hR4⟩ := hv8.form
                injection e4 with e4
                rw [e4]; exact hR4
              · rw [if_pos hHT.out]
                exact ⟨rfl, pre, hfin, rfl⟩
            · have hd : (a != q.src) = true := by simpa using hne
              obtain ⟨fi, fc, hfound⟩ := JP.found J Hl.out b1 b2 hne b3
              have hsp := lastC_spec hfound
              have hlt2 := lastC_lt J hfound
              have hin := fun w h hm => into_any Aq cq Ac cc p a (gi T a) q.size (some ⟨Bm, om, none⟩) c3 T w h hok ⟨a6, a7⟩ hm Hlen.out
              simp only [hfound, bval, bcells, Option.isSome_some] at hin
              obtain ⟨hh, hhe⟩ : ∃ hh, hopE fi fc (gi T fc.src) q.size = hh := ⟨_, rfl⟩
              have hin2 : ∀ w, PlnRd w Aq cq Ac cc p → Rd EInt w (some ⟨Bm, om, none⟩) T → Calls Tryz.prog 19 #[.agg #[.slice Aq p.quo.length cq, .slice Ac p.cons.length cc], .int .i64 a, .int .i64 (gi T a), .int .i64 q.size, .slice (some ⟨Bm, om, none⟩) T.length c3] w fun e w' => e = .returned (.tuple #[.agg #[.int .i64 hh.con, .int .i64 hh.beg, .int .i64 hh.en, .int .i64 hh.arr], .bool true]) ∧ Ext w w' := by
                rw [← hhe]; exact hin
              have Hhe := Lib.hid hhe
              have Hne := Lib.hid hne
              have Hf := Lib.hid hfound
              have Hsp := Lib.hid hsp
              have hTl := Hlen.out
              obtain ⟨hTa, hbm2⟩ := (hR4.ext hN).gi (i := a) (by omega)
              have hal : a < T.length := by omega
              have hfil : fi < p.cons.length := (List.getElem?_eq_some_iff.1 hsp.1).1
              obtain ⟨l1, l2, l3, l4⟩ := hlt2
              have hhr := h.ext (hE4.trans hN)
              have hRr := hR4.ext hN
              clear hin hhe hne hfound hsp hTl
              go_wp2_with fail
              go_cut [9, 10] from 46 to 75 (fun x ok wx => HopS2 wr hh x ok wx)
              case first =>
                have hN9 := Near.refl wr
                go_region_held3 (fun w' => Ext wr w' ∧ ∀ b o, b < wr.heap.size → w'.cell? ⟨b, o, none⟩ = wr.cell? ⟨b, o, none⟩) (first | exact hN9.drew | exact Near.alloc (by assumption) _ | exact Near.step (by assumption) hb9 | (refine Near.of ?_; repeat (first | exact hx9 | refine Ext.alloc ?_ _ | (refine Ext.setCell ?_ ?_ _; rotate_left; (focus (first | exact Nat.le_refl _ | (dsimp only; omega)))))))
                  (first | (go_at_call 19; refine (hin2 _ (hhr.ext (And.left (by assumption))) (hRr.ext (And.left (by assumption)))).mono ?_; rintro e w9 ⟨rfl, hb9⟩; have hx9 : Ext wr w9 := Ext.trans (And.left (by assumption)) hb9; have hz9 := fun (hh : Blk _ wr.heap.size 40 #[.int .i64 0, .int .i64 0, .int .i64 0, .int .i64 0]) => Blk.ext hh hb9; (try simp [blk_alloc_iff, blk_drew, blk_no0] at hz9); (try (have hz9c := Blk.cell hz9; have hz9f := Blk.frozen hz9; have hz9l := Blk.lt hz9))))
                all_goals
                  go_wp2_with fail
                  go_meet
                  first
                    | exact ⟨wr.heap.size, rfl, Nat.le_refl _, rfl, hz9.setCells_ hh.cells 0, ext_setCells hx9 (Nat.le_refl _) 0 hh.cells⟩
                    | exact ⟨w9.heap.size, rfl, hx9.size, rfl, Blk.new _ _ _, hx9.alloc _⟩
              case rest =>
                obtain ⟨B, rfl, hBl, rfl, kh, hx5⟩ := hcut
                rw [← Hhe.out] at kh
                simp only [hopE, Hp.cells] at kh
                obtain ⟨b, o, rfl, hb, c0, c1, c2, c3, c4, c5, c6⟩ := h.c.con hfil
                have hge : p.cons[fi] = fc := by have := Hsp.out.1; rw [List.getElem?_eq_getElem hfil] at this; injection this
                rw [hge] at c0
                have hch := kh.cell
                have hlh := kh.lt
                have kp5 := kpr.ext hx5
                have hcp5 := kp5.cell
                have hlp5 := kp5.lt
                have hu5 := hu.ext hx5
                have hs1 := hE4.size
                have hs2 := hN.size
                have hs3 := hx5.size
                clear c1 c2 c3 c4 c5 c6 hge hcp hcq hin2 hTa
                go_wp2_with (at_builtin; refine wpList_push rfl (.tmp 65) (.tmp 67) _ (by rfl) w1.heap.size 40 i0 _ 32 Tryz.underlying34 hi0 hz0 hz1 hz2 (by rfl) u7 (by rfl) (hu5.ext ((Ext.refl _).alloc _)) wc.heap.size (hopE fi fc (gi T fc.src) q.size) (by rfl) (Blk.new wc _ _) (by simp only [maxLen]; omega) (by omega) (by simp; omega) ?_; intro v6 w6 hv6 hg6 hat6; have hx6 := ext_grown ((hN.trans hx5).alloc _) (hu5.ext ((Ext.refl _).alloc _)) (Nat.le_refl _) hg6; have kp6 := kp4.ext hx6; have hcp6 := kp6.cell; have hlp6 := kp6.lt; have kh6 := Blk.kept (kh.ext ((Ext.refl _).alloc _)) hg6 (fun e' => by have := (hu.block e'.symm).2; omega); have hch6 := kh6.cell; have hlh6 := kh6.lt; have c06 := (hE4.trans hx6).cell_some c0)
                have hce := hopE_eq (i := fi) Hsp.out.2.2.2.2.1
                go_roundg (gi T fc.src).toNat
                case measure => omega
                case rel =>
                  refine ⟨fc.src, pre ++ [hopE fi fc (gi T fc.src) q.size], rfl, l1, l2, l3, by omega, rfl, hv6, by rw [List.length_append, List.length_singleton]; omega, hx6, fun l hl => ?_⟩
                  rw [List.append_assoc, hce]
                  exact Hpath.out _ (JP.step Hne.out Hf.out hl)
  · have hd : (p.chk != 0) = true := by simpa using h0
    have H0 := Lib.hid h0
    clear h0
    unfold Pln.val at hpc ⊢
    unfold Req.val
    go_enter Tryz.func9, Tryz.ntmps9
    go_wp2_with fail
    clear hW
    refine hpc.mono ?_
    rintro e w1 ⟨rfl, hb1⟩
    go_wp2
    go_ret2
    exact ⟨[], 1, ⟨none, 0, rfl, Rd.nil, hB.trans hb1, Nat.le_refl _⟩, by simp, by unfold JFind; rw [if_neg (fun h => H0.out h.1)]; exact ⟨rfl, rfl⟩⟩

end Go.Proofs.YtmaengcmhopmbaaGreat
