
/- Layer 24 (journey): the walk of into. -/
import Derived.Test.YtmaengcmhopmbaaGreatJrA
namespace Go.Proofs.YtmaengcmhopmbaaGreat
set_option linter.unusedVariables false
open Go.RowKit Go.Shelf

/-- The best hop so far in its cells; z: the contact's number where there is none. -/
def bcells (z : Int) (f : List Int) (n : Int) : Option (Nat × Con) → Array Value
  | none => #[.int .i64 z, .int .i64 0, .int .i64 0, .int .i64 0]
  | some d => #[.int .i64 d.1, .int .i64 (d.2.beg (gi f d.2.src)), .int .i64 (d.2.beg (gi f d.2.src) + d.2.dur n), .int .i64 (earr d.2 (gi f d.2.src) n)]
def bval (z : Int) (f : List Int) (n : Int) (b : Option (Nat × Con)) : Value := .agg (bcells z f n b)
def BestK (f : List Int) (n node time : Int) (cons : List Con) (k : Nat) (b : Option (Nat × Con)) : Prop := lastC f n node time cons = bestC f n node time k (cons.drop k) b ∧ ∀ i c, b = some (i, c) → cons[i]? = some c
theorem BestK.zero (f : List Int) (n node time : Int) (cons : List Con) : BestK f n node time cons 0 none := ⟨rfl, fun _ _ h => by cases h⟩
theorem BestK.skip {f : List Int} {n node time : Int} {cons : List Con} {k : Nat} {b : Option (Nat × Con)} {y : Con} (h : BestK f n node time cons k b) (hk : k < cons.length) (hy : cons[k] = y) (hc : (cand f n node time y && better f y b) = false) : BestK f n node time cons (k + 1) b := by
  refine ⟨?_, h.2⟩
  rw [h.1, bestC_drop hk hy]
  unfold bstep
  rw [hc]; rfl
theorem BestK.take {f : List Int} {n node time : Int} {cons : List Con} {k : Nat} {b : Option (Nat × Con)} {y : Con} (h : BestK f n node time cons k b) (hk : k < cons.length) (hy : cons[k] = y) (hc : (cand f n node time y && better f y b) = true) : BestK f n node time cons (k + 1) (some (k, y)) := by
  refine ⟨?_, fun i c hi => ?_⟩
  · rw [h.1, bestC_drop hk hy]
    unfold bstep
    rw [hc]; rfl
  · injection hi with hi
    injection hi with h1 h2
    subst h1 h2
    rw [List.getElem?_eq_getElem hk, hy]
theorem BestK.done {f : List Int} {n node time : Int} {cons : List Con} {k : Nat} {b : Option (Nat × Con)} (h : BestK f n node time cons k b) (hk : cons.length ≤ k) : lastC f n node time cons = b := by
  rw [h.1, List.drop_eq_nil_of_le hk]; rfl

set_option maxRecDepth 100000 in
set_option maxHeartbeats 4000000 in
theorem into_any (Aq : Option Addr) (cq : Nat) (Ac : Option Addr) (cc : Nat) (p : Pln) (node time n : Int) (Am : Option Addr) (cm : Nat) (f : List Int) (w : World) (h : PlnRd w Aq cq Ac cc p) (hok : p.Ok) (hn : 1 ≤ n ∧ n ≤ 65536) (hm : Rd EInt w Am f) (hml : f.length = p.quo.length) :
    Calls Tryz.prog 19 #[p.val Aq cq Ac cc, .int .i64 node, .int .i64 time, .int .i64 n, .slice Am f.length cm] w fun e w' => e = .returned (.tuple #[bval 0 f n (lastC f n node time p.cons), .bool (lastC f n node time p.cons).isSome]) ∧ Ext w w' := by
  obtain ⟨W1, hW1, hB1, hk1, hl1⟩ := box1 w #[.slice Aq p.quo.length cq, .slice Ac p.cons.length cc] 25
  obtain ⟨W2, hW2, hB2, hk2, hl2⟩ := box1 W1 #[.int .i64 0, .int .i64 0, .int .i64 0, .int .i64 0] 40
  obtain ⟨W3, hW3, hB3, hk3, hl3⟩ := box1 W2 #[.int .i64 0, .int .i64 0, .int .i64 0, .int .i64 0] 40
  have hn1 := hok.n1
  have hn16 := hok.n16
  have hm64 := hok.m64
  have hE3 := (hB1.trans hB2).trans hB3
  have hA0 := h.c
  have hc1 := ((hk1.ext hB2).ext hB3).cell
  have kp3 := (hk1.ext hB2).ext hB3
  have kr3 := hk2.ext hB3
  have hlp3 := kp3.lt
  have Hml := Lib.hid hml
  obtain ⟨Bm, om, rfl, hbm, hcx⟩ := hm.int (k := 0) (by omega)
  clear hcx hml hk1 hk2
  unfold Pln.val
  go_enter Tryz.func19, Tryz.ntmps19
  go_wp2_with fail
  clear hW1 hW2 hW3 hc1
  go_loopg [13, 21] p.cons.length (fun q fd i wr => ∃ (j : Nat) (bb : Option (Nat × Con)), j + q = p.cons.length ∧ i = .int .i64 j ∧ fd = .bool bb.isSome ∧ Hid (BestK f n node time p.cons j bb) ∧ Blk wr W2.heap.size 40 (bcells 0 f n bb) ∧ W3.grownBy wr (some W2.heap.size))
  case atStart => exact ⟨0, none, by omega, rfl, rfl, Lib.hid (BestK.zero _ _ _ _ _), hk3, World.grownBy.refl _ _⟩
  case round =>
    obtain ⟨j, bb, hjq, rfl, rfl, hbk, kb, hN⟩ := hrel
    have hE := ext_of_grown hE3 hN (by omega)
    have kpr := kp3.keptg hN (by omega)
    have krr := kr3.keptg hN (by omega)
    have hcp := kpr.cell
    have hlp := kpr.lt
    have hcb := kb.cell
    have hlb := kb.lt
    have Hjq := Lib.hid hjq
    have hjl : j ≤ p.cons.length := by omega
    clear hjq
    by_cases hlt : j < p.cons.length
    · obtain ⟨b, o, rfl, hb, c0, c1, c2, c3, c4, c5, c6⟩ := (hA0.ext hE).con hlt
      have hyc := hok.con _ (List.getElem_mem hlt)
      generalize hye : p.cons[j] = y at *
      have Hy := Lib.hid hye
      clear hye
      have hs0 := hyc.1.src0
      have hs1 := hyc.2.1
      have hml := Hml.out
      have hsl : y.src.toNat < f.length := by omega
      have hsl2 : y.src < f.length := by omega
      obtain ⟨W4, hW4, hB4, hk4, hl4⟩ := box1 wr y.cells 61
      simp only [Con.cells] at hW4 hk4
      have hck := hk4.cell
      have hcm := ((hm.ext hE).ext hB4).gi (i := y.src) hsl
      obtain ⟨hcm1, hcm2⟩ := hcm
      have hN4 := grown_ext hN hB4
      have kb4 := kb.ext hB4
      clear hml
      by_cases hyd : y.dst = node
      · have hd : (y.dst != node) = false := by simpa using hyd
        have Hyd := Lib.hid hyd
        clear hyd
        by_cases h0 : gi f y.src < 0
        · have hd0 : decide (gi f y.src < 0) = true := by simpa using h0
          go_wp2
          go_roundg (gk - 1)
          case measure => have := Hjq.out; omega
          case rel => exact ⟨j + 1, bb, by have := Hjq.out; omega, by go_num, rfl, Lib.hid (hbk.out.skip hlt Hy.out (by simp [cand]; omega)), kb4, hN4⟩
        · have hd0 : decide (gi f y.src < 0) = false := by simpa using h0
          have h0' : 0 ≤ gi f y.src := by omega
          have hho := fun w h => hop_any Aq cq (some ⟨b, o, none⟩) cc p j y (gi f y.src) n w h hlt Hy.out hyc.1 hn h0'
          unfold Pln.val hopV Hp.val at hho
          obtain ⟨hh, hhe⟩ : ∃ hh, hopR j y (gi f y.src) n = hh := ⟨_, rfl⟩
          obtain ⟨kk, hke⟩ : ∃ kk, decide (earr y (gi f y.src) n ≠ -1) = kk := ⟨_, rfl⟩
          rw [hhe, hke] at hho
          have Hhe := Lib.hid hhe
          have Hke := Lib.hid hke
          clear hhe hke
          have hr4 : PlnRd W4 Aq cq (some ⟨b, o, none⟩) cc p := (h.ext hE).ext hB4
          have hlk4 := hk4.lt
          go_wp2_with fail
          clear hW4 c0 c1 c2 c3 c4 c5 c6
          have hcp4 := (kpr.ext hB4).cell
          have hlp4 := (kpr.ext hB4).lt
          go_cut [16, 17] from 22 to 80 (fun x ok wx => HopR W4 j y (gi f y.src) n x ok wx)
          case first =>
            clear hcp hcb
            have hN9 := Near.refl W4
            go_region_held3 (fun w' => Ext W4 w' ∧ ∀ b o, b < W4.heap.size → w'.cell? ⟨b, o, none⟩ = W4.cell? ⟨b, o, none⟩) (first | exact hN9.drew | exact Near.alloc (by assumption) _ | exact Near.step (by assumption) hb9 | (refine Near.of ?_; repeat (first | exact hx9 | refine Ext.alloc ?_ _ | (refine Ext.setCell ?_ ?_ _; rotate_left; (focus (first | exact Nat.le_refl _ | (dsimp only; omega)))))))
              (first | (go_at_call 46; refine (hho _ (hr4.ext (And.left (by assumption)))).mono ?_; rintro e w9 ⟨rfl, hb9⟩; have hx9 : Ext W4 w9 := Ext.trans (And.left (by assumption)) hb9; have hz9 := fun (hh : Blk _ W4.heap.size 40 #[.int .i64 0, .int .i64 0, .int .i64 0, .int .i64 0]) => Blk.ext hh hb9; (try simp [blk_alloc_iff, blk_drew, blk_no0] at hz9); (try (have hz9c := Blk.cell hz9; have hz9f := Blk.frozen hz9; have hz9l := Blk.lt hz9))))
            all_goals
              go_wp2_with fail
              go_meet
              first
                | exact ⟨W4.heap.size, rfl, Nat.le_refl _, by rw [Hke.out], by rw [Hhe.out]; exact hz9.setCells_ hh.cells 0, ext_setCells hx9 (Nat.le_refl _) 0 hh.cells⟩
                | exact ⟨w9.heap.size, rfl, hx9.size, by rw [Hke.out], by rw [Hhe.out]; exact Blk.new _ _ _, hx9.alloc _⟩
          case rest =>
            clear hcp hcb hho Hhe Hke hck hcp4
            by_cases he : earr y (gi f y.src) n = -1
            · obtain ⟨B, rfl, rfl, hx5⟩ := hcut.no he
              have hsk : (cand f n node time y && better f y bb) = false := by simp [cand, he]
              have Hsk := Lib.hid hsk
              clear he hsk
              have hN5 := Near.refl wc
              have hN0 := hN
              clear hN
              have hN := Near.refl wc
              go_wp2_with fail
              have hq := quiet_near hN
              refine wp_region_quiet_below (by kernel_rfl) (by kernel_rfl) ?_
              repeat (first | go_big_quiet_skip | (go_big_quiet_want; go_big_quiet_op; first | go_big_quiet_on | (apply Exists.intro; refine ⟨fun _ => ?_, ?_⟩; (focus (first | fail)); go_big_quiet_on)))
              refine wpQuiet_nil ?_
              intro w1 hw1
              clear hq
              replace hw1 := quiet_ext hw1
              replace hN := hN.step hw1
              have hC := hN.2
              go_wp2
              go_roundg (gk - 1)
              case measure => have := Hjq.out; omega
              case rel => exact ⟨j + 1, bb, by have := Hjq.out; omega, by go_num, rfl, Lib.hid (hbk.out.skip hlt Hy.out Hsk.out), (kb4.ext hx5).ext hN.1, grown_ext (grown_ext hN4 hx5) hN.1⟩
            · obtain ⟨B, rfl, hBl, rfl, hkh, hx5⟩ := hcut.yes he
              have hch := hkh.cell
              have hk5 := hk4.ext hx5
              have hck5 := hk5.cell
              have hlh := hkh.lt
              have hlk5 := hk5.lt
              have kb5 := kb4.ext hx5
              have hcb5 := kb5.cell
              have hlb5 := kb5.lt
              have hcm5 := (((hm.ext hE).ext hB4).ext hx5).gi (i := y.src) hsl
              obtain ⟨hcm6, hcm7⟩ := hcm5
              have hEc := (hE.trans hB4).trans hx5
              have kp5 := (kpr.ext hB4).ext hx5
              have hcp5 := kp5.cell
              have hlp5 := kp5.lt
              have hN0 := hN
              clear hN
              have hN := Near.refl wc
              have Hhe := Lib.hid he
              clear he
              by_cases hta : earr y (gi f y.src) n = time
              · have hdt : (earr y (gi f y.src) n == time) = true := by simpa using hta
                have hcd : cand f n node time y = true := by simp only [cand, decide_eq_true_eq]; exact ⟨Hyd.out, h0', Hhe.out, hta⟩
                have Hcd := Lib.hid hcd
                have Hta := Lib.hid hta
                clear hta hcd
                cases bb with
                | none =>
                  have hbt : (cand f n node time y && better f y none) = true := by rw [Hcd.out]; rfl
                  have Hbt := Lib.hid hbt
                  clear hbt
                  simp only [bcells] at hcb5 kb5
                  go_wp2_with fail
                  have hq := quiet_near hN
                  refine wp_region_quiet_below (by kernel_rfl) (by kernel_rfl) ?_
                  repeat (first | go_big_quiet_skip | (go_big_quiet_want; go_big_quiet_op; first | go_big_quiet_on | (apply Exists.intro; refine ⟨fun _ => ?_, ?_⟩; (focus (first | fail)); go_big_quiet_on)))
                  refine wpQuiet_nil ?_
                  intro w1 hw1
                  clear hq
                  replace hw1 := quiet_ext hw1
                  replace hN := hN.step hw1
                  have hC := hN.2
                  have kb6 := kb5.ext hN.1
                  have hk6 := hkh.ext hN.1
                  have hcb6 := kb6.cell
                  have hfb6 := kb6.frozen
                  have hlb6 := kb6.lt
                  have hch6 := hk6.cell
                  have hlh6 := hk6.lt
                  go_wp2
                  go_roundg (gk - 1)
                  case measure => have := Hjq.out; omega
                  case rel =>
                    refine ⟨j + 1, some (j, y), by have := Hjq.out; omega, by go_num, rfl, Lib.hid (hbk.out.take hlt Hy.out Hbt.out), ?_, ?_⟩
                    · exact kb6.setCells_ [.int .i64 j, .int .i64 (y.beg (gi f y.src)), .int .i64 (y.beg (gi f y.src) + y.dur n), .int .i64 (earr y (gi f y.src) n)] 0
                    · exact grown_setCells [.int .i64 j, .int .i64 (y.beg (gi f y.src)), .int .i64 (y.beg (gi f y.src) + y.dur n), .int .i64 (earr y (gi f y.src) n)] (grown_ext (grown_ext hN4 hx5) hN.1) 0
                | some d =>
                  obtain ⟨di, dc⟩ := d
                  have hdi := hbk.out.2 di dc rfl
                  have hdil : di < p.cons.length := (List.getElem?_eq_some_iff.1 hdi).1
                  have hdc := hok.con dc (List.mem_of_getElem? hdi)
                  have hdge : p.cons[di] = dc := by rw [List.getElem?_eq_getElem hdil] at hdi; injection hdi
                  obtain ⟨b', o', hbo, hb', d0, d1, d2, d3, d4, d5, d6⟩ := ((hA0.ext hEc)).con hdil
                  injection hbo with hbo
                  injection hbo with hb1 hb2 _
                  subst hb1 hb2
                  rw [hdge] at d0
                  have hds0 := hdc.1.src0
                  have hds1 := hdc.2.1
                  have hml := Hml.out
                  have hdsl : dc.src.toNat < f.length := by omega
                  have hdsl2 : dc.src < f.length := by omega
                  have hcd6 := (((hm.ext hE).ext hB4).ext hx5).gi (i := dc.src) hdsl
                  obtain ⟨hcd7, _⟩ := hcd6
                  clear hml hdi hdge d1 d2 d3 d4 d5 d6
                  simp only [bcells] at hcb5 kb5
                  by_cases hlf : gi f y.src < gi f dc.src
                  · have hdl : decide (gi f y.src < gi f dc.src) = true := by simpa using hlf
                    have hbt : (cand f n node time y && better f y (some (di, dc))) = true := by rw [Hcd.out]; simp [better, hlf]
                    have Hbt := Lib.hid hbt
                    clear hbt
                    go_wp2_with fail
                    have hq := quiet_near hN
                    refine wp_region_quiet_below (by kernel_rfl) (by kernel_rfl) ?_
                    repeat (first | go_big_quiet_skip | (go_big_quiet_want; go_big_quiet_op; first | go_big_quiet_on | (apply Exists.intro; refine ⟨fun _ => ?_, ?_⟩; (focus (first | fail)); go_big_quiet_on)))
                    refine wpQuiet_nil ?_
                    intro w1 hw1
                    clear hq
                    replace hw1 := quiet_ext hw1
                    replace hN := hN.step hw1
                    have hC := hN.2
                    have kb6 := kb5.ext hN.1
                    have hk6 := hkh.ext hN.1
                    have hcb6 := kb6.cell
                    have hfb6 := kb6.frozen
                    have hlb6 := kb6.lt
                    have hch6 := hk6.cell
                    have hlh6 := hk6.lt
                    go_wp2
                    go_roundg (gk - 1)
                    case measure => have := Hjq.out; omega
                    case rel =>
                      refine ⟨j + 1, some (j, y), by have := Hjq.out; omega, by go_num, rfl, Lib.hid (hbk.out.take hlt Hy.out Hbt.out), ?_, ?_⟩
                      · exact kb6.setCells_ [.int .i64 j, .int .i64 (y.beg (gi f y.src)), .int .i64 (y.beg (gi f y.src) + y.dur n), .int .i64 (earr y (gi f y.src) n)] 0
                      · exact grown_setCells [.int .i64 j, .int .i64 (y.beg (gi f y.src)), .int .i64 (y.beg (gi f y.src) + y.dur n), .int .i64 (earr y (gi f y.src) n)] (grown_ext (grown_ext hN4 hx5) hN.1) 0
                  · have hdl : decide (gi f y.src < gi f dc.src) = false := by simpa using hlf
                    have hbt : (cand f n node time y && better f y (some (di, dc))) = false := by rw [Hcd.out]; simp [better]; omega
                    have Hbt := Lib.hid hbt
                    clear hbt
                    go_wp2_with fail
                    have hq := quiet_near hN
                    refine wp_region_quiet_below (by kernel_rfl) (by kernel_rfl) ?_
                    repeat (first | go_big_quiet_skip | (go_big_quiet_want; go_big_quiet_op; first | go_big_quiet_on | (apply Exists.intro; refine ⟨fun _ => ?_, ?_⟩; (focus (first | fail)); go_big_quiet_on)))
                    refine wpQuiet_nil ?_
                    intro w1 hw1
                    clear hq
                    replace hw1 := quiet_ext hw1
                    replace hN := hN.step hw1
                    have hC := hN.2
                    go_wp2
                    go_roundg (gk - 1)
                    case measure => have := Hjq.out; omega
                    case rel => exact ⟨j + 1, some (di, dc), by have := Hjq.out; omega, by go_num, rfl, Lib.hid (hbk.out.skip hlt Hy.out Hbt.out), kb5.ext hN.1, grown_ext (grown_ext hN4 hx5) hN.1⟩
              · have hdt : (earr y (gi f y.src) n == time) = false := by simpa using hta
                have hsk : (cand f n node time y && better f y bb) = false := by simp [cand, hta]
                have Hsk := Lib.hid hsk
                clear hsk hta
                go_wp2_with fail
                have hq := quiet_near hN
                refine wp_region_quiet_below (by kernel_rfl) (by kernel_rfl) ?_
                repeat (first | go_big_quiet_skip | (go_big_quiet_want; go_big_quiet_op; first | go_big_quiet_on | (apply Exists.intro; refine ⟨fun _ => ?_, ?_⟩; (focus (first | fail)); go_big_quiet_on)))
                refine wpQuiet_nil ?_
                intro w1 hw1
                clear hq
                replace hw1 := quiet_ext hw1
                replace hN := hN.step hw1
                have hC := hN.2
                go_wp2
                go_roundg (gk - 1)
                case measure => have := Hjq.out; omega
                case rel => exact ⟨j + 1, bb, by have := Hjq.out; omega, by go_num, rfl, Lib.hid (hbk.out.skip hlt Hy.out Hsk.out), kb5.ext hN.1, grown_ext (grown_ext hN4 hx5) hN.1⟩
      · have hd : (y.dst != node) = true := by simpa using hyd
        have hsk : (cand f n node time y && better f y bb) = false := by simp [cand, hyd]
        have Hsk := Lib.hid hsk
        clear hsk hyd
        go_wp2
        go_roundg (gk - 1)
        case measure => have := Hjq.out; omega
        case rel => exact ⟨j + 1, bb, by have := Hjq.out; omega, by go_num, rfl, Lib.hid (hbk.out.skip hlt Hy.out Hsk.out), kb4, hN4⟩
    · have hfin := hbk.out.done (by omega)
      have Hfin := Lib.hid hfin
      have hfr := krr.frozen
      have hcr := krr.cell
      have hlr := krr.lt
      clear hfin
      cases bb with
      | none =>
        simp only [bcells] at hcb kb
        go_wp2
        obtain ⟨w7, hw7, hz7, hE7⟩ : ∃ w7, wr.setCells W1.heap.size 0 [.int .i64 0, .int .i64 0, .int .i64 0, .int .i64 0] = w7 ∧ Blk w7 W1.heap.size 40 #[.int .i64 0, .int .i64 0, .int .i64 0, .int .i64 0] ∧ Ext w w7 :=
          ⟨_, rfl, krr.setCells_ [.int .i64 0, .int .i64 0, .int .i64 0, .int .i64 0] 0, ext_setCells hE (by omega) 0 _⟩
        simp only [World.setCells, Nat.zero_add, Nat.reduceAdd] at hw7
        rw [hw7]
        have hc7 := hz7.cell
        refine bodyPost_ret (v := .tuple #[.agg #[.int .i64 0, .int .i64 0, .int .i64 0, .int .i64 0], .bool false]) (by rw [results_cell_tmp rfl]; simp [asAddr, Result.andThen, hc7, go_sem]) rfl ?_
        exact ⟨by rw [Hfin.out]; rfl, hE7⟩
      | some d =>
        simp only [bcells] at hcb kb
        go_wp2
        obtain ⟨w7, hw7, hz7, hE7⟩ : ∃ w7, wr.setCells W1.heap.size 0 [.int .i64 d.1, .int .i64 (d.2.beg (gi f d.2.src)), .int .i64 (d.2.beg (gi f d.2.src) + d.2.dur n), .int .i64 (earr d.2 (gi f d.2.src) n)] = w7 ∧ Blk w7 W1.heap.size 40 #[.int .i64 d.1, .int .i64 (d.2.beg (gi f d.2.src)), .int .i64 (d.2.beg (gi f d.2.src) + d.2.dur n), .int .i64 (earr d.2 (gi f d.2.src) n)] ∧ Ext w w7 :=
          ⟨_, rfl, krr.setCells_ [.int .i64 d.1, .int .i64 (d.2.beg (gi f d.2.src)), .int .i64 (d.2.beg (gi f d.2.src) + d.2.dur n), .int .i64 (earr d.2 (gi f d.2.src) n)] 0, ext_setCells hE (by omega) 0 _⟩
        simp only [World.setCells, Nat.zero_add, Nat.reduceAdd] at hw7
        rw [hw7]
        have hc7 := hz7.cell
        refine bodyPost_ret (v := .tuple #[.agg #[.int .i64 d.1, .int .i64 (d.2.beg (gi f d.2.src)), .int .i64 (d.2.beg (gi f d.2.src) + d.2.dur n), .int .i64 (earr d.2 (gi f d.2.src) n)], .bool true]) (by rw [results_cell_tmp rfl]; simp [asAddr, Result.andThen, hc7, go_sem]) rfl ?_
        exact ⟨by rw [Hfin.out]; rfl, hE7⟩

end Go.Proofs.YtmaengcmhopmbaaGreat
