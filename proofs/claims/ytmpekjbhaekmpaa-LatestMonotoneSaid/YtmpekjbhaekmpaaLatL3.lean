/- Layer 25 (latest): the walk of LatestNecessary. -/
import Derived.Test.YtmpekjbhaekmpaaLatL2
namespace Go.Proofs.Ytmpekjbhaekmpaa
set_option linter.unusedVariables false
open Go.RowKit Go.Shelf

theorem nec_arr {p : Pln} {q : Req} (h : p.chk = 0) (hq : q.okB p.quo.length = true) {c : Con} (hc : c ∈ p.cons) (hs : c.src ≠ q.dst) {late : Int} (hl : 0 ≤ late) (he : c.beginE (gi (p.fixT q) c.src + 1 + late) q.size = 0) :
    c.atE (c.beginT (gi (p.fixT q) c.src + 1 + late) q.size) q.size = 0 ∧ gi (p.fixT q) c.dst < c.arrT (c.beginT (gi (p.fixT q) c.src + 1 + late) q.size) q.size := by
  have hb : c.beginT (gi (p.fixT q) c.src + 1 + late) q.size = c.beg (gi (p.fixT q) c.src + 1 + late) := by
    unfold Con.beginT; unfold Con.beginE at he; rw [if_pos he]
  rw [hb]
  unfold Con.beginE at he
  refine ⟨he, ?_⟩
  have ha : c.arrT (c.beg (gi (p.fixT q) c.src + 1 + late)) q.size = c.beg (gi (p.fixT q) c.src + 1 + late) + c.dur q.size + c.rng := by
    unfold Con.arrT Con.aftT; rw [if_pos he]; omega
  rw [ha]
  have hf := (Pln.fix_inv h hq).2 c hc hs
  obtain ⟨h1, h2, h3, h4⟩ := Con.at_ok.1 he
  have hge : gi (p.fixT q) c.src + 1 + late ≤ c.beg (gi (p.fixT q) c.src + 1 + late) := by unfold Con.beg; split <;> omega
  have d := Con.dur_bd h1 h2.1 h2.2
  have r0 := h1.rng0
  have s0 := h1.st0
  generalize c.beg (gi (p.fixT q) c.src + 1 + late) = b at *
  by_cases hd : gi (p.fixT q) c.dst = -1
  · omega
  · apply Classical.byContradiction
    intro hn
    have := lbeg_most (c := c) (size := q.size) hd h3 h4 (by omega)
    omega

set_option maxRecDepth 100000 in
set_option maxHeartbeats 4000000 in
theorem nec_walk (Aq : Option Addr) (cq : Nat) (Ac : Option Addr) (cc : Nat) (p : Pln) (q : Req) (late : Int) (w : World) (h : PlnIn w Aq cq Ac cc p) (hby : 0 ≤ late ∧ late ≤ 65535) :
    Calls Try.prog 9 #[p.val Aq cq Ac cc, q.val, .int .u16 late] w fun e w' => e = .returned (.bool true) ∧ Ext w w' := by
  obtain ⟨W, hW, hB, hk, hkr, hlt, hltr⟩ := box2 w #[.slice Aq p.quo.length cq, .slice Ac p.cons.length cc] q.cells 25 34
  simp only [Req.cells] at hW hkr
  have hc := hk.cell
  have hcr := hkr.cell
  have hIn : PlnIn W Aq cq Ac cc p := ⟨h.q.ext hB, h.c.ext hB, h.qc, h.ck, h.qm, h.cm⟩
  have hfi := fine_any Aq cq Ac cc p q W hIn
  obtain ⟨hby0, hby1⟩ := hby
  cases hf : fineB p q
  · rw [hf] at hfi
    unfold Pln.val at hfi ⊢
    unfold Req.val at hfi ⊢
    go_enter Try.func9, Try.ntmps9
    go_wp2_with fail
    clear hW
    refine hfi.mono ?_
    clear hfi
    rintro e w1 ⟨rfl, hb1⟩
    go_wp2_with fail
    refine (awake_any _).mono ?_
    rintro e w2 ⟨rfl, hb2⟩
    go_wp2
    go_ret
    exact ⟨rfl, (hB.trans hb1).trans hb2⟩
  · rw [hf] at hfi
    obtain ⟨f1, f2, f3⟩ := fine_of hf
    have hrd := hIn.rd f1
    have hok := Pln.ok_of f2
    have hlt1 := (latT_fix f2 f3).1
    have hle1 := (latT_fix f2 f3).2
    have hinv := (Pln.fix_inv f2 f3).1
    have hnec := fun c hc hs he => nec_arr f2 f3 (c := c) hc hs hby0 he
    have f3' := f3
    simp only [Req.okB, decide_eq_true_eq] at f3'
    obtain ⟨a1, a2, a3, a4, a5, a6, a7, a8, a9, a10, a11, a12⟩ := f3'
    have h3 := fun w h => Latest_any Aq cq Ac cc p q.dst q.dead q.size w h
    simp only [hlt1, hle1] at h3
    have Hnec := Lib.hid hnec
    have Hlen := Lib.hid hinv.len
    have hml := hinv.len
    have hm64 := hok.m64
    clear hlt1 hle1 f1 f2 f3 hf a5 hnec
    unfold Pln.val at hfi h3 ⊢
    unfold Req.val at hfi ⊢
    go_enter Try.func9, Try.ntmps9
    go_wp2_with fail
    clear hW
    refine hfi.mono ?_
    clear hfi
    rintro e w1 ⟨rfl, hb1⟩
    have hk1 := hk.ext hb1
    have hkr1 := hkr.ext hb1
    replace hc := hk1.cell
    replace hcr := hkr1.cell
    go_wp2_with fail
    refine (h3 _ (hrd.ext hb1)).mono ?_
    clear h3
    rintro e w2 ⟨A2, c2, rfl, hR2, hb2, _⟩
    have hk2 := hk1.ext hb2
    have hkr2 := hkr1.ext hb2
    replace hc := hk2.cell
    replace hcr := hkr2.cell
    have hc2 := (hrd.c.ext hb1).ext hb2
    have hE2 := (hB.trans hb1).trans hb2
    obtain ⟨bm, om, rfl, hbm, hcx⟩ := hR2.int (k := q.dst.toNat) (by omega)
    clear hcx
    go_wp2
    clear hc hcr
    go_loopg [44] p.cons.length (fun n i wr => ∃ j : Nat, j + n = p.cons.length ∧ i = .int .i64 j ∧ Ext w2 wr)
    case atStart => exact ⟨0, by omega, rfl, Ext.refl _⟩
    case round =>
      obtain ⟨j, hjn, rfl, hN⟩ := hrel
      have hjl : j ≤ p.cons.length := by omega
      have Hjn := Lib.hid hjn
      clear hjn
      by_cases hlt : j < p.cons.length
      · obtain ⟨b, o, rfl, hb, c0, c1, c2, c3, c4, c5, c6⟩ := (hc2.ext hN).con hlt
        have hyc := hok.con _ (List.getElem_mem hlt)
        have hyin := List.getElem_mem hlt
        generalize hye : p.cons[j] = y at *
        have hny := Hnec.out y hyin
        clear hye hyin
        have hs0 := hyc.1.src0
        have hs1 := hyc.2.1
        have hd0 := hyc.1.dst0
        have hd1 := hyc.2.2
        obtain ⟨W2, hW2, hB2, hkb, hltW⟩ := box1 wr y.cells 45
        simp only [Con.cells] at hW2 hkb
        have hck := hkb.cell
        have hE3 := hN.trans hB2
        have hkq := hkr2.ext hE3
        have hcq := hkq.cell
        have hlq := hkq.lt
        obtain ⟨cma, hbm2⟩ := (hR2.ext hE3).gi (i := y.src) (by have := Hlen.out; omega)
        obtain ⟨cmd, _⟩ := (hR2.ext hE3).gi (i := y.dst) (by have := Hlen.out; omega)
        have hml1 : y.src < (p.fixT q).length := by have := Hlen.out; omega
        have hml2 : y.dst < (p.fixT q).length := by have := Hlen.out; omega
        have hlo1 := hinv.lo _ (gi_mem (m := p.fixT q) (i := y.src) (by omega))
        have hhi1 := hinv.hi _ (gi_mem (m := p.fixT q) (i := y.src) (by omega))
        by_cases hsd : y.src = q.dst
        · have hdd : (y.src == q.dst) = true := by simpa using hsd
          clear hny hsd
          go_wp2
          go_roundg (gk - 1)
          case measure => have := Hjn.out; omega
          case rel => exact ⟨j + 1, by have := Hjn.out; omega, by go_num, hE3⟩
        · have hdd : (y.src == q.dst) = false := by simpa using hsd
          have hny2 := hny hsd
          clear hny hsd
          have Hny := Lib.hid hny2
          clear hny2
          have hbg := Begin_any y (gi (p.fixT q) y.src + 1 + late) q.size
          unfold Con.val at hbg
          go_wp2_with fail
          clear hW2 c0 c1 c2 c3 c4 c5 c6
          have hN0 := hN
          clear hN
          have hN := Near.refl W2
          have hq := quiet_near hN
          refine wp_region_quiet_below (by kernel_rfl) (by kernel_rfl) ?_
          repeat (first | go_big_quiet_skip | (go_big_quiet_want; go_big_quiet_op; first | go_big_quiet_on | (apply Exists.intro; refine ⟨fun _ => ?_, ?_⟩; (focus (first | (go_at_call 24; exact Calls.regrown_of (hbg _)))); go_big_quiet_on)))
          refine wpQuiet_nil ?_
          intro w1 hw1
          clear hq
          replace hw1 := quiet_ext hw1
          replace hN := hN.step hw1
          have hC := hN.2
          by_cases hbe : y.beginE (gi (p.fixT q) y.src + 1 + late) q.size = 0
          · obtain ⟨ha1, ha2⟩ := Hny.out hbe
            rw [hbe]
            have har := fun w => Arrival_any y (y.beginT (gi (p.fixT q) y.src + 1 + late) q.size) q.size w
            simp only [ha1] at har
            generalize y.beginT (gi (p.fixT q) y.src + 1 + late) q.size = bt at *
            clear hbg
            have hkb2 := hkb.ext hN.1
            have hck2 := hkb2.cell
            have hkq2 := hkq.ext hN.1
            have hcq2 := hkq2.cell
            unfold Con.val at har
            go_wp2_with fail
            refine (har _).mono ?_
            clear har
            rintro e w3 ⟨rfl, hb3⟩
            have hcmd := ((hR2.ext hE3).ext (hN.1.trans hb3)).gi (i := y.dst) (by have := Hlen.out; omega)
            obtain ⟨cmd, hbm3⟩ := hcmd
            have hkb3 := hkb2.ext hb3
            have hck3 := hkb3.cell
            have hl3 := hkb3.lt
            have hle : decide (y.arrT bt q.size ≤ gi (p.fixT q) y.dst) = false := by simp; omega
            clear hck2 hcq2
            go_wp2
            go_roundg (gk - 1)
            case measure => have := Hjn.out; omega
            case rel => exact ⟨j + 1, by have := Hjn.out; omega, by go_num, hE3.trans (hN.1.trans hb3)⟩
          · have hd : (y.beginE (gi (p.fixT q) y.src + 1 + late) q.size != 0) = true := by simpa using hbe
            clear hbg
            go_wp2
            go_roundg (gk - 1)
            case measure => have := Hjn.out; omega
            case rel => exact ⟨j + 1, by have := Hjn.out; omega, by go_num, hE3.trans hN.1⟩
      · have hje : j = p.cons.length := by omega
        subst hje
        go_wp2_with fail
        refine (awake_any _).mono ?_
        rintro e w3 ⟨rfl, hb3⟩
        go_wp2
        go_ret
        exact ⟨rfl, hE2.trans (hN.trans hb3)⟩

end Go.Proofs.Ytmpekjbhaekmpaa
