
/- Layer 35 (multicast): the walk of MulticastEarliest. -/
import Derived.Test.YtbgdglcnminbaaaMlX
import Derived.Test.YtbgdglcnminbaaaMcEa
import Derived.Test.YtbgdglcnminbaaaJrW6
import Derived.BigQuiet
namespace Go.Proofs.Ytbgdglcnminbaaa
set_option linter.unusedVariables false
set_option linter.unusedSimpArgs false
open Go.RowKit Go.Shelf
attribute [local go_sem] Oper.semAt_some

set_option maxRecDepth 100000 in
set_option maxHeartbeats 8000000 in
theorem earliest_walk (Aq : Option Addr) (cq : Nat) (Ac : Option Addr) (cc : Nat) (p : Pln) (Al : Option Addr) (cl : Nat) (bk : List Bk) (Ah : Option Addr) (ch : Nat) (hd : List Hd) (q : Req) (Am : Option Addr) (cm : Nat) (mem : List Int) (w : World) (h : TabIn w Aq cq Ac cc p Al cl bk Ah ch hd) (hmm : Rd EInt w Am mem) (hmc : mem.length ≤ cm) (hcm : cm ≤ maxLen) :
    Calls Try.prog 4 #[.agg #[.slice Aq p.quo.length cq, .slice Ac p.cons.length cc, .slice Al bk.length cl, .slice Ah hd.length ch], q.val, .slice Am mem.length cm] w fun e w' => e = .returned (.bool true) ∧ Ext w w' := by
  unfold maxLen at hcm
  obtain ⟨W, hW, hB, hk, hkr, hlt, hltr⟩ := box2 w #[.slice Aq p.quo.length cq, .slice Ac p.cons.length cc, .slice Al bk.length cl, .slice Ah hd.length ch] q.cells 29 31
  simp only [Req.cells] at hW hkr
  have hc := hk.cell
  have hcr := hkr.cell
  have hIn := h.pln
  have hbm := h.bc
  have hbm2 := h.bm
  have hhm := h.hc
  have hhm2 := h.hm
  unfold maxLen at hbm2 hhm2
  have hgr := great35_any Aq cq Ac cc p Al bk.length cl Ah hd.length ch Am mem.length cm W hIn.le.1 hIn.le.2 (by omega) (by omega) (by omega)
  cases hg : p.gr35 bk.length hd.length mem.length
  case' true =>
    rw [hg] at hgr
    unfold Req.val
    go_enter Try.func4, Try.ntmps4
    go_wp2_with fail
    clear hW
    refine hgr.mono ?_
    clear hgr
    rintro e w1 ⟨rfl, hb1⟩
    go_wp2_with fail
    refine (awake_any _).mono ?_
    rintro e w2 ⟨rfl, hb2⟩
    go_wp2
    go_ret
    exact ⟨rfl, (hB.trans hb1).trans hb2⟩
  rw [hg] at hgr
  obtain ⟨hrd, hb30, hh20, hm20⟩ := hIn.rd hg
  clear hg
  by_cases hm0 : mem.length = 0
  case' pos =>
    obtain rfl : mem = [] := List.eq_nil_of_length_eq_zero hm0
    clear hm0
    simp only [List.length_nil] at hgr ⊢
    unfold Req.val
    go_enter Try.func4, Try.ntmps4
    go_wp2_with fail
    clear hW
    refine hgr.mono ?_
    clear hgr
    rintro e w1 ⟨rfl, hb1⟩
    go_wp2_with fail
    refine (awake_any _).mono ?_
    rintro e w2 ⟨rfl, hb2⟩
    go_wp2
    go_ret
    exact ⟨rfl, (hB.trans hb1).trans hb2⟩
  have dm : ((mem.length : Int) == 0) = false := by rw [beq_eq_false_iff_ne]; omega
  have Hm0 := Lib.hid hm0
  clear hm0
  have hgw := fun w' (hw' : Ext w w') => grow_val Aq cq Ac cc p none 0 [] Ah ch hd q Am cm mem w' (hrd.ext hw') Rd.nil (by simp) (h.h.ext hw') (by omega) (hmm.ext hw') (by omega)
  have hfo := fun w' (hw' : Ext w w') => Foremost_any Aq cq Ac cc p q.src q.ready q.size w' (hrd.ext hw')
  simp only [List.length_nil] at hgw
  unfold Req.val at hgw ⊢
  unfold Pln.val at hfo
  go_enter Try.func4, Try.ntmps4
  go_wp2_with fail
  clear hW
  refine hgr.mono ?_
  clear hgr
  rintro e w1 ⟨rfl, hb1⟩
  have kp1 := hk.ext hb1
  have kq1 := hkr.ext hb1
  replace hc := kp1.cell
  replace hcr := kq1.cell
  have l1 := kp1.lt
  have l2 := kq1.lt
  have l3 := kp1.frozen
  obtain ⟨W2, hW2⟩ : ∃ W2, w1.setCell ⟨w.heap.size, 2, none⟩ (.slice none 0 0) = W2 := ⟨_, rfl⟩
  have kp2 : Blk W2 w.heap.size 29 #[.slice Aq p.quo.length cq, .slice Ac p.cons.length cc, .slice none 0 0, .slice Ah hd.length ch] := by rw [← hW2]; exact kp1.set_ 2 _
  have kq2 : Blk W2 (w.heap.size + 1) 31 #[.int .i64 q.src, .int .i64 q.dst, .int .i64 q.size, .int .i64 q.ready, .int .i64 q.dead, .int .i64 q.prio, .bool q.cust] := by rw [← hW2]; exact kq1.far (by simp) _
  have hE2 : Ext w W2 := by rw [← hW2]; exact (hB.trans hb1).setCell (Nat.le_refl _) _
  have m1 := kp2.cell
  have m2 := kq2.cell
  have m3 := kp2.lt
  have m4 := kq2.lt
  clear hk hkr
  go_wp2_with fail
  refine (hgw _ hE2).mono ?_
  clear hgw hW2 hc hcr l1 l2 l3 kp1 kq1
  rintro e w3 ⟨hb3, hv⟩
  have hE3 := hE2.trans hb3
  have kp3 := kp2.ext hb3
  have kq3 := kq2.ext hb3
  replace m1 := kp3.cell
  replace m2 := kq3.cell
  replace m3 := kp3.lt
  replace m4 := kq3.lt
  cases hv with
  | bad hb he =>
    subst he
    go_wp2_with fail
    refine (hfo _ hE3).mono ?_
    rintro e w4 ⟨A4, c4, rfl, hR4, hb4, hc4⟩
    go_wp2_with fail
    refine (awake_any _).mono ?_
    rintro e w5 ⟨rfl, hb5⟩
    go_wp2
    go_ret
    exact ⟨rfl, (hE3.trans hb4).trans hb5⟩
  | none G hf hm hkt hr he =>
    subst he
    obtain ⟨f2, f3⟩ := fineR_of hf
    have hok := Pln.ok_of f2
    have hL := Pln.arrQ_least hok f3
    have fe1 : p.forE q.src q.ready q.size = 0 := by unfold Pln.forE; rw [if_pos f2, Req.argF f3]; rfl
    have ft1 : p.forT q.src q.ready q.size = p.arrQ q := by unfold Pln.forT; rw [if_pos fe1]; rfl
    rw [ft1, fe1] at hfo
    obtain ⟨T, hT⟩ : ∃ T, p.arrQ q = T := ⟨_, rfl⟩
    rw [hT] at hfo hL
    have Hl := Lib.hid hL.len
    have Hm := Lib.hid (fun x (hx : x ∈ mem) => memsB_in hm hx)
    have hn16 := G.n16
    clear f2 f3 fe1 ft1 hT hL hr hkt hf hm G
    go_wp2_with fail
    refine (hfo _ hE3).mono ?_
    clear hfo
    rintro e w4 ⟨A4, c4, rfl, hR4, hb4, hc4⟩
    rw [Hl.out]
    have hE4 := hE3.trans hb4
    have kq4 := kq3.ext hb4
    have hm4 := hmm.ext hE4
    clear m1 m2 m3 m4 kp3 kq3 kp2 kq2 hc4
    go_wp2_with fail
    go_loopg [12, 59] mem.length (fun n late k wr => ∃ (j : Nat) (b : Bool), j + n = mem.length ∧ k = .int .i64 j ∧ late = .bool b ∧ Ext w4 wr)
    case atStart => exact ⟨0, false, by omega, rfl, rfl, Ext.refl _⟩
    case round =>
      obtain ⟨j, b, hjq, rfl, rfl, hx⟩ := hrel
      have Hjq := Lib.hid hjq
      have hjN : j ≤ mem.length := by omega
      clear hjq
      by_cases hlt2 : j < mem.length
      · obtain ⟨bm, om, rfl, hbm3, gm⟩ := (hm4.ext hx).int hlt2
        have hmi := Hm.out mem[j] (List.getElem_mem hlt2)
        have hma : (mem[j]).toNat < T.length := by rw [Hl.out]; omega
        obtain ⟨ba, oa, rfl, hba, ga⟩ := (hR4.ext hx).int hma
        have kqr := kq4.ext hx
        have u1 := kqr.cell
        have u2 := kqr.lt
        generalize mem[j] = x at *
        generalize T[x.toNat] = y at *
        obtain ⟨x0, x1, x2⟩ := hmi
        have d1 : decide (x < 0) = false := decide_eq_false (by omega)
        have d2 : decide ((p.quo.length : Int) ≤ x) = false := decide_eq_false (by omega)
        have eN : ((x.toNat : Nat) : Int) = x := by omega
        clear hma
        have hN := Near.refl wr
        have hC := hN.2
        cases b
        case true =>
          go_wp2_with fail
          have hq := quiet_near hN
          refine wp_region_quiet_below (by kernel_rfl) (by kernel_rfl) ?_
          repeat (first | go_big_quiet_skip | (go_big_quiet_want; go_big_quiet_op; first | go_big_quiet_on | (apply Exists.intro; refine ⟨fun _ => ?_, ?_⟩; (focus (first | fail)); go_big_quiet_on)))
          refine wpQuiet_nil ?_
          intro w1 hw1
          clear hq
          replace hw1 := quiet_ext hw1
          replace hN := hN.step hw1
          have hC := hN.2
          go_wp2_with fail
          have hq := quiet_near hN
          refine wp_region_quiet_below (by kernel_rfl) (by kernel_rfl) ?_
          repeat (first | go_big_quiet_skip | (go_big_quiet_want; go_big_quiet_op; first | go_big_quiet_on | (apply Exists.intro; refine ⟨fun _ => ?_, ?_⟩; (focus (first | fail)); go_big_quiet_on)))
          refine wpQuiet_nil ?_
          intro w1 hw1
          clear hq
          replace hw1 := quiet_ext hw1
          replace hN := hN.step hw1
          have hC := hN.2
          go_wp2
          go_roundg (gk - 1)
          case measure => have := Hjq.out; omega
          case rel => exact ⟨j + 1, true, by have := Hjq.out; omega, by go_num, rfl, hx.trans hN.1⟩
        case false =>
          by_cases y0 : y < 0
          · have dy : decide (y < 0) = true := decide_eq_true y0
            clear y0
            go_wp2_with fail
            have hq := quiet_near hN
            refine wp_region_quiet_below (by kernel_rfl) (by kernel_rfl) ?_
            repeat (first | go_big_quiet_skip | (go_big_quiet_want; go_big_quiet_op; first | go_big_quiet_on | (apply Exists.intro; refine ⟨fun _ => ?_, ?_⟩; (focus (first | fail)); go_big_quiet_on)))
            refine wpQuiet_nil ?_
            intro w1 hw1
            clear hq
            replace hw1 := quiet_ext hw1
            replace hN := hN.step hw1
            have hC := hN.2
            go_wp2_with fail
            have hq := quiet_near hN
            refine wp_region_quiet_below (by kernel_rfl) (by kernel_rfl) ?_
            repeat (first | go_big_quiet_skip | (go_big_quiet_want; go_big_quiet_op; first | go_big_quiet_on | (apply Exists.intro; refine ⟨fun _ => ?_, ?_⟩; (focus (first | fail)); go_big_quiet_on)))
            refine wpQuiet_nil ?_
            intro w1 hw1
            clear hq
            replace hw1 := quiet_ext hw1
            replace hN := hN.step hw1
            have hC := hN.2
            go_wp2
            go_roundg (gk - 1)
            case measure => have := Hjq.out; omega
            case rel => exact ⟨j + 1, true, by have := Hjq.out; omega, by go_num, rfl, hx.trans hN.1⟩
          · have dy : decide (y < 0) = false := decide_eq_false y0
            clear y0
            by_cases y1 : q.dead < y
            · have dz : decide (q.dead < y) = true := decide_eq_true y1
              clear y1
              go_wp2_with fail
              have hq := quiet_near hN
              refine wp_region_quiet_below (by kernel_rfl) (by kernel_rfl) ?_
              repeat (first | go_big_quiet_skip | (go_big_quiet_want; go_big_quiet_op; first | go_big_quiet_on | (apply Exists.intro; refine ⟨fun _ => ?_, ?_⟩; (focus (first | fail)); go_big_quiet_on)))
              refine wpQuiet_nil ?_
              intro w1 hw1
              clear hq
              replace hw1 := quiet_ext hw1
              replace hN := hN.step hw1
              have hC := hN.2
              go_wp2_with fail
              have hq := quiet_near hN
              refine wp_region_quiet_below (by kernel_rfl) (by kernel_rfl) ?_
              repeat (first | go_big_quiet_skip | (go_big_quiet_want; go_big_quiet_op; first | go_big_quiet_on | (apply Exists.intro; refine ⟨fun _ => ?_, ?_⟩; (focus (first | fail)); go_big_quiet_on)))
              refine wpQuiet_nil ?_
              intro w1 hw1
              clear hq
              replace hw1 := quiet_ext hw1
              replace hN := hN.step hw1
              have hC := hN.2
              go_wp2
              go_roundg (gk - 1)
              case measure => have := Hjq.out; omega
              case rel => exact ⟨j + 1, true, by have := Hjq.out; omega, by go_num, rfl, hx.trans hN.1⟩
            · have dz : decide (q.dead < y) = false := decide_eq_false y1
              clear y1
              go_wp2_with fail
              have hq := quiet_near hN
              refine wp_region_quiet_below (by kernel_rfl) (by kernel_rfl) ?_
              repeat (first | go_big_quiet_skip | (go_big_quiet_want; go_big_quiet_op; first | go_big_quiet_on | (apply Exists.intro; refine ⟨fun _ => ?_, ?_⟩; (focus (first | fail)); go_big_quiet_on)))
              refine wpQuiet_nil ?_
              intro w1 hw1
              clear hq
              replace hw1 := quiet_ext hw1
              replace hN := hN.step hw1
              have hC := hN.2
              go_wp2_with fail
              have hq := quiet_near hN
              refine wp_region_quiet_below (by kernel_rfl) (by kernel_rfl) ?_
              repeat (first | go_big_quiet_skip | (go_big_quiet_want; go_big_quiet_op; first | go_big_quiet_on | (apply Exists.intro; refine ⟨fun _ => ?_, ?_⟩; (focus (first | fail)); go_big_quiet_on)))
              refine wpQuiet_nil ?_
              intro w1 hw1
              clear hq
              replace hw1 := quiet_ext hw1
              replace hN := hN.step hw1
              have hC := hN.2
              go_wp2
              go_roundg (gk - 1)
              case measure => have := Hjq.out; omega
              case rel => exact ⟨j + 1, false, by have := Hjq.out; omega, by go_num, rfl, hx.trans hN.1⟩
      · cases b
        all_goals
          go_wp2_with fail
          refine (awake_any _).mono ?_
          rintro e w5 ⟨rfl, hb5⟩
          go_wp2
          go_ret
          exact ⟨rfl, (hE4.trans hx).trans hb5⟩
  | good t Au cu Av cv G hf hm hkt hr he hu hv hl hcu hcv =>
    subst he
    obtain ⟨f2, f3⟩ := fineR_of hf
    have hok := Pln.ok_of f2
    have hL := Pln.arrQ_least hok f3
    have fe1 : p.forE q.src q.ready q.size = 0 := by unfold Pln.forE; rw [if_pos f2, Req.argF f3]; rfl
    have ft1 : p.forT q.src q.ready q.size = p.arrQ q := by unfold Pln.forT; rw [if_pos fe1]; rfl
    rw [ft1, fe1] at hfo
    obtain ⟨T, hT⟩ : ∃ T, p.arrQ q = T := ⟨_, rfl⟩
    rw [hT] at hfo hL
    have hea := early G hf hm (Req.jc hok f3) hL hr
    have Hl := Lib.hid hL.len
    have Hm := Lib.hid (fun x (hx : x ∈ mem) => memsB_in hm hx)
    have Hall := Lib.hid hea.all
    have Hfst := Lib.hid hea.first
    have hn16 := G.n16
    clear f2 f3 fe1 ft1 hT hL hr hkt hf hm G hea hu
    generalize t.1 = l at *
    go_wp2_with fail
    refine (hfo _ hE3).mono ?_
    clear hfo
    rintro e w4 ⟨A4, c4, rfl, hR4, hb4, hc4⟩
    rw [Hl.out]
    have hE4 := hE3.trans hb4
    have kq4 := kq3.ext hb4
    have hm4 := hmm.ext hE4
    have hv4 := hv.ext hb4
    clear m1 m2 m3 m4 kp3 kq3 kp2 kq2 hc4 hv
    go_wp2_with fail
    go_loopg [12, 59] mem.length (fun n late k wr => ∃ (j : Nat), j + n = mem.length ∧ k = .int .i64 j ∧ late = .bool false ∧ Ext w4 wr)
    case atStart => exact ⟨0, by omega, rfl, rfl, Ext.refl _⟩
    case round =>
      obtain ⟨j, hjq, rfl, rfl, hx⟩ := hrel
      have Hjq := Lib.hid hjq
      have hjN : j ≤ mem.length := by omega
      clear hjq
      by_cases hlt2 : j < mem.length
      · obtain ⟨bm, om, rfl, hbm3, gm⟩ := (hm4.ext hx).int hlt2
        obtain ⟨bv, ov, rfl, hbv, gv⟩ := (hv4.ext hx).int (k := j) (by rw [List.length_map]; exact hlt2)
        have hmi := Hm.out mem[j] (List.getElem_mem hlt2)
        have hma : (mem[j]).toNat < T.length := by rw [Hl.out]; omega
        obtain ⟨ba, oa, rfl, hba, ga⟩ := (hR4.ext hx).int hma
        have hal := Hall.out mem[j] (List.getElem_mem hlt2)
        have hgt : gi T mem[j] = T[(mem[j]).toNat] := by simp [gi, hma]
        have hfs : j = 0 → gi t.2 mem[j] = gi T mem[j] := fun e => by
          subst e
          exact Hfst.out hlt2
        rw [List.getElem_map] at gv
        have kqr := kq4.ext hx
        have u1 := kqr.cell
        have u2 := kqr.lt
        rw [hgt] at hal hfs
        clear hgt
        generalize gi t.2 mem[j] = z at *
        generalize mem[j] = x at *
        generalize T[x.toNat] = y at *
        obtain ⟨x0, x1, x2⟩ := hmi
        obtain ⟨y0, y1, y2⟩ := hal
        have d1 : decide (x < 0) = false := decide_eq_false (by omega)
        have d2 : decide ((p.quo.length : Int) ≤ x) = false := decide_eq_false (by omega)
        have d3 : decide (y < 0) = false := decide_eq_false (by omega)
        have d4 : decide (q.dead < y) = false := decide_eq_false (by omega)
        have d5 : decide (z < y) = false := decide_eq_false (by omega)
        have d6 : ((mem.length : Int) != (mem.length : Int)) = false := by simp
        have eN : ((x.toNat : Nat) : Int) = x := by omega
        clear hma y0 y1 y2
        have hN := Near.refl wr
        have hC := hN.2
        by_cases j0 : j = 0
        · obtain rfl := (hfs j0).symm
          have dj : ((j : Int) == 0) = true := by simpa using j0
          have d7 : (y != y) = false := by simp
          have J0 := Lib.hid j0
          clear hfs j0
          go_wp2_with fail
          have hq := quiet_near hN
          refine wp_region_quiet_below (by kernel_rfl) (by kernel_rfl) ?_
          repeat (first | go_big_quiet_skip | (go_big_quiet_want; go_big_quiet_op; first | go_big_quiet_on | (apply Exists.intro; refine ⟨fun _ => ?_, ?_⟩; (focus (first | fail)); go_big_quiet_on)))
          refine wpQuiet_nil ?_
          intro w1 hw1
          clear hq
          replace hw1 := quiet_ext hw1
          replace hN := hN.step hw1
          have hC := hN.2
          go_wp2_with fail
          have hq := quiet_near hN
          refine wp_region_quiet_below (by kernel_rfl) (by kernel_rfl) ?_
          repeat (first | go_big_quiet_skip | (go_big_quiet_want; go_big_quiet_op; first | go_big_quiet_on | (apply Exists.intro; refine ⟨fun _ => ?_, ?_⟩; (focus (first | fail)); go_big_quiet_on)))
          refine wpQuiet_nil ?_
          intro w1 hw1
          clear hq
          replace hw1 := quiet_ext hw1
          replace hN := hN.step hw1
          have hC := hN.2
          go_wp2
          go_roundg (gk - 1)
          case measure => have := Hjq.out; omega
          case rel => exact ⟨j + 1, by have := Hjq.out; omega, by go_num, rfl, hx.trans hN.1⟩
        · have dj : ((j : Int) == 0) = false := by rw [beq_eq_false_iff_ne]; omega
          clear hfs j0
          go_wp2_with fail
          have hq := quiet_near hN
          refine wp_region_quiet_below (by kernel_rfl) (by kernel_rfl) ?_
          repeat (first | go_big_quiet_skip | (go_big_quiet_want; go_big_quiet_op; first | go_big_quiet_on | (apply Exists.intro; refine ⟨fun _ => ?_, ?_⟩; (focus (first | fail)); go_big_quiet_on)))
          refine wpQuiet_nil ?_
          intro w1 hw1
          clear hq
          replace hw1 := quiet_ext hw1
          replace hN := hN.step hw1
          have hC := hN.2
          go_wp2_with fail
          have hq := quiet_near hN
          refine wp_region_quiet_below (by kernel_rfl) (by kernel_rfl) ?_
          repeat (first | go_big_quiet_skip | (go_big_quiet_want; go_big_quiet_op; first | go_big_quiet_on | (apply Exists.intro; refine ⟨fun _ => ?_, ?_⟩; (focus (first | fail)); go_big_quiet_on)))
          refine wpQuiet_nil ?_
          intro w1 hw1
          clear hq
          replace hw1 := quiet_ext hw1
          replace hN := hN.step hw1
          have hC := hN.2
          go_wp2
          go_roundg (gk - 1)
          case measure => have := Hjq.out; omega
          case rel => exact ⟨j + 1, by have := Hjq.out; omega, by go_num, rfl, hx.trans hN.1⟩
      · go_wp2_with fail
        refine (awake_any _).mono ?_
        rintro e w5 ⟨rfl, hb5⟩
        go_wp2
        go_ret
        exact ⟨rfl, (hE4.trans hx).trans hb5⟩

end Go.Proofs.Ytbgdglcnminbaaa
