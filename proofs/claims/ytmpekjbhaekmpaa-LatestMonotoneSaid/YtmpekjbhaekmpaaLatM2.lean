/- Layer 25 (latest): the walk of LatestMonotone. -/
import Derived.Test.YtmpekjbhaekmpaaLatMono
namespace Go.Proofs.Ytmpekjbhaekmpaa
set_option linter.unusedVariables false
open Go.RowKit Go.Shelf

theorem wide_latest {p wd : Pln} {q : Req} {more less : Int} (h : p.chk = 0) (hq : q.okB p.quo.length = true) (hch : wd.chk = 0) (hql : wd.quo.length = p.quo.length) (hsub : ∀ x ∈ p.cons, x ∈ wd.cons) (hm : 0 ≤ more) (hl : 0 ≤ less) (hb : q.dead + more ≤ 1099511627776) :
    ∃ M, wd.latT q.dst (q.dead + more) (max 1 (q.size - less)) = M ∧ wd.latE q.dst (q.dead + more) (max 1 (q.size - less)) = 0 ∧ M.length = p.quo.length ∧ Under p.quo.length (p.fixT q) M := by
  have ha := Req.argB (p := p) hq
  have e := ha
  simp only [Pln.argB, decide_eq_true_eq] at e
  have ha' : wd.argB q.dst (q.dead + more) (max 1 (q.size - less)) = true := decide_eq_true ⟨e.1, by rw [hql]; exact e.2.1, by omega, hb, by omega, by omega⟩
  have e1 : wd.latE q.dst (q.dead + more) (max 1 (q.size - less)) = 0 := by unfold Pln.latE; rw [if_pos hch, ha']; rfl
  refine ⟨wd.times q.dst (q.dead + more) (max 1 (q.size - less)), by unfold Pln.latT; rw [e1]; rfl, e1, ?_, ?_⟩
  · rw [(Pln.times_inv (Pln.ok_of hch) ha').1.len, hql]
  · exact Pln.times_mono (Pln.ok_of h) (Pln.ok_of hch) hql hsub ha ha' (by omega) (by omega)

set_option maxRecDepth 100000 in
set_option maxHeartbeats 4000000 in
theorem mono_walk (Aq : Option Addr) (cq : Nat) (Ac : Option Addr) (cc : Nat) (p : Pln) (q : Req) (c : Con) (more less : Int) (w : World) (h : PlnIn w Aq cq Ac cc p) (hmo : 0 ≤ more ∧ more ≤ 65535) (hle : 0 ≤ less ∧ less ≤ 65535) :
    Calls Try.prog 8 #[p.val Aq cq Ac cc, q.val, c.val, .int .u16 more, .int .u16 less] w fun e w' => e = .returned (.bool true) ∧ Ext w w' := by
  obtain ⟨W0, hW0, hB0, hk0, hkr0, hlt0, hltr0⟩ := box2 w #[.slice Aq p.quo.length cq, .slice Ac p.cons.length cc] q.cells 25 34
  have hs0 : W0.heap.size = w.heap.size + 2 := by rw [← hW0]; simp
  obtain ⟨W, hW, hB1, hkc, hltc⟩ := box1 W0 c.cells 45
  rw [hs0] at hkc hltc
  simp only [Con.cells] at hW hkc
  simp only [Req.cells] at hW0 hkr0
  have hk := hk0.ext hB1
  have hkr := hkr0.ext hB1
  have hB := hB0.trans hB1
  have hc := hk.cell
  have hcr := hkr.cell
  have hcc := hkc.cell
  have hIn : PlnIn W Aq cq Ac cc p := ⟨h.q.ext hB, h.c.ext hB, h.qc, h.ck, h.qm, h.cm⟩
  have hfi := fine_any Aq cq Ac cc p q W hIn
  obtain ⟨hmo0, hmo1⟩ := hmo
  obtain ⟨hle0, hle1⟩ := hle
  clear hk0 hkr0 hlt0 hltr0 hB0 hB1
  cases hf : fineB p q
  · rw [hf] at hfi
    unfold Pln.val at hfi ⊢
    unfold Req.val at hfi ⊢
    unfold Con.val
    go_enter Try.func8, Try.ntmps8
    go_wp2_with fail
    clear hW hW0
    refine hfi.mono ?_
    clear hfi
    rintro e w1 ⟨rfl, hb1⟩
    go_wp2_with fail
    refine (awake_any _).mono ?_
    rintro e w2 ⟨rfl, hb2⟩
    go_wp2
    go_ret
    exact ⟨rfl, (hB.trans hb1).trans hb2⟩
  · rw [hf] at hfi
    obtain ⟨f1, f2, f3⟩ := fine_of hf
    have hrd := hIn.rd f1
    have hok := Pln.ok_of f2
    have hlt1 := (latT_fix f2 f3).1
    have hle1 := (latT_fix f2 f3).2
    have f3' := f3
    simp only [Req.okB, decide_eq_true_eq] at f3'
    obtain ⟨a1, a2, a3, a4, a5, a6, a7, a8, a9, a10, a11, a12⟩ := f3'
    have F2 := Lib.hid f2
    have F3 := Lib.hid f3
    clear f1 f2 f3 hf a5
    unfold Pln.val at hfi ⊢
    unfold Req.val at hfi ⊢
    unfold Con.val
    go_enter Try.func8, Try.ntmps8
    go_wp2_with fail
    clear hW hW0
    refine hfi.mono ?_
    clear hfi
    rintro e w1 ⟨rfl, hb1⟩
    have hk1 := hk.ext hb1
    have hkr1 := hkr.ext hb1
    have hkc1 := hkc.ext hb1
    replace hc := hk1.cell
    replace hcr := hkr1.cell
    replace hcc := hkc1.cell
    by_cases hbig : 1099511627776 < q.dead + more
    · have hbd : decide (1099511627776 < q.dead + more) = true := by simpa using hbig
      go_wp2_with fail
      refine (awake_any _).mono ?_
      rintro e w2 ⟨rfl, hb2⟩
      go_wp2
      go_ret
      exact ⟨rfl, (hB.trans hb1).trans hb2⟩
    · have hbd : decide (1099511627776 < q.dead + more) = false := by simpa using hbig
      have hw := With_any Aq cq Ac cc p c w1 (hrd.ext hb1)
      unfold Con.val at hw
      unfold Pln.val at hw
      go_wp2_with fail
      refine hw.mono ?_
      clear hw
      rintro e w3 ⟨A1, c1, A2, c2, rfl, hrd3, hb3⟩
      have hkr3 := hkr1.ext hb3
      have hk3 := hk1.ext hb3
      have hcr3 := hkr3.cell
      have hc3 := hk3.cell
      have hE3 := (hB.trans hb1).trans hb3
      by_cases he : p.withE c = 0
      case' pos =>
        have hp : p.withP c = p.plus c := by unfold Pln.withP; rw [if_pos he]
        have hch : (p.plus c).chk = 0 := by
          have := he
          unfold Pln.withE at this
          rw [if_pos F2.out] at this
          exact this
        rw [hp] at hrd3
        rw [he, hp]
        obtain ⟨wd, hwd⟩ : ∃ wd, p.plus c = wd := ⟨_, rfl⟩
        have hql : wd.quo.length = p.quo.length := by rw [← hwd]; rfl
        have hsub : ∀ x ∈ p.cons, x ∈ wd.cons := by rw [← hwd]; intro x hx; exact List.mem_append_left _ hx
        rw [hwd] at hch hrd3
        rw [hwd]
        have Hql := Lib.hid hql
        have hE4 : Ext w W := hB
        clear hwd hp he hql hE4
        obtain ⟨W4, hW4, hB4, hk4, hl4⟩ := box1 w3 #[.slice A1 wd.quo.length c1, .slice A2 wd.cons.length c2] 25
        unfold Pln.val
        go_upto_region 6 with (fail)
        clear hW4
      case' neg =>
        have hp : p.withP c = ⟨[], []⟩ := by unfold Pln.withP; rw [if_neg he]
        have hd : (p.withE c != 0) = true := by simpa using he
        rw [hp]
        obtain ⟨W5, hW5, hB5, hk5, hl5⟩ := box1 w3 #[.slice A1 0 c1, .slice A2 0 c2] 25
        have hkp5 := (hk3.ext hB5).cell
        have hc5 := hk5.cell
        have hf5 := hk5.frozen
        unfold Pln.val
        go_upto_region 6 with (fail)
        obtain ⟨W4, hW4, hB4, hk4⟩ : ∃ W4, (W5.setCell ⟨w3.heap.size, 0, none⟩ (.slice Aq p.quo.length cq)).setCell ⟨w3.heap.size, 1, none⟩ (.slice Ac p.cons.length cc) = W4 ∧ Ext w3 W4 ∧ Blk W4 w3.heap.size 25 #[.slice Aq p.quo.length cq, .slice Ac p.cons.length cc] :=
          ⟨_, rfl, (hB5.setCell (Nat.le_refl _) _).setCell (Nat.le_refl _) _, (hk5.set_ 0 _).set_ 1 _⟩
        rw [hW4]
        have hch := F2.out
        have Hql := Lib.hid (rfl : p.quo.length = p.quo.length)
        have hsub : ∀ x ∈ p.cons, x ∈ p.cons := fun _ hx => hx
        replace hrd3 := (hrd.ext hb1).ext hb3
        clear hW4 hW5 hkp5 hc5 hf5 hk5 hB5 hd hp he
      all_goals
        have hcr4 := (hkr3.ext hB4).cell
        have hc4 := (hk3.ext hB4).cell
        have hcw4 := hk4.cell
        clear hcr3 hc3
        have h6 := Latest_any Aq cq Ac cc p q.dst q.dead q.size W4 ((((hrd.ext hb1).ext hb3)).ext hB4)
        simp only [hlt1, hle1] at h6
        unfold Pln.val at h6
        go_wp2_with fail
        refine h6.mono ?_
        clear h6
        rintro e w6 ⟨A6, c6, rfl, hR6, hb6, _⟩
        have hcr6 := ((hkr3.ext hB4).ext hb6).cell
        have hcw6 := (hk4.ext hb6).cell
        clear hcr4 hc4 hcw4
        obtain ⟨M, hM1, hM2, hM3, hU⟩ := wide_latest (less := less) F2.out F3.out hch (by first | rfl | exact Hql.out) (by first | exact hsub | (intro _ hx; exact hx)) hmo0 hle0 (by omega : q.dead + more ≤ 1099511627776)
        have h7 := Latest_any _ _ _ _ _ q.dst (q.dead + more) (max 1 (q.size - less)) w6 ((hrd3.ext hB4).ext hb6)
        rw [hM1, hM2] at h7
        unfold Pln.val at h7
        clear hM1 hM2
        have hlenp := (Pln.fix_inv F2.out F3.out).1.len
        have hn16 := hok.n16
        have HU := Lib.hid hU
        clear hU
        go_wp2_with fail
        refine h7.mono ?_
        clear h7
        rintro e w7 ⟨A7, c7, rfl, hR7, hb7, _⟩
        replace hR6 := hR6.ext hb7
        have hE7 := hE3.trans (hB4.trans (hb6.trans hb7))
        clear hcr6 hcw6
        obtain ⟨b6, o6, rfl, hb6', _⟩ := hR6.int (k := q.dst.toNat) (by omega)
        obtain ⟨b7, o7, rfl, hb7', _⟩ := hR7.int (k := q.dst.toNat) (by omega)
        go_wp2
        go_loopg [84] p.quo.length (fun n i wr => ∃ j : Nat, n = p.quo.length - j ∧ j ≤ p.quo.length ∧ i = .int .i64 j ∧ Ext w7 wr)
        case atStart => exact ⟨0, by omega, by omega, rfl, Ext.refl _⟩
        case round =>
          obtain ⟨j, hjn, hjl, rfl, hNw⟩ := hrel
          have Hjn := Lib.hid hjn
          clear hjn
          by_cases hlt : j < p.quo.length
          · obtain ⟨t6, hl6⟩ := (hR6.ext hNw).gi (i := (j : Int)) (by omega)
            obtain ⟨t7, hl7⟩ := (hR7.ext hNw).gi (i := (j : Int)) (by omega)
            simp only [Int.toNat_natCast] at t6 t7
            have hle9 := HU.out (j : Int) (by omega) (by omega)
            have hd9 : decide (gi M (j : Int) < gi (p.fixT q) (j : Int)) = false := by simp; omega
            have hj6 : (j : Int) < (p.fixT q).length := by omega
            have hj7 : (j : Int) < M.length := by omega
            have hN := Near.refl wr
            go_wp2
            have hq := quiet_near hN
            refine wp_region_quiet_below (by kernel_rfl) (by kernel_rfl) ?_
            repeat (first | go_big_quiet_skip | (go_big_quiet_want; go_big_quiet_op; first | go_big_quiet_on | (apply Exists.intro; refine ⟨fun _ => ?_, ?_⟩; (focus (first | fail)); go_big_quiet_on)))
            refine wpQuiet_nil ?_
            intro w1 hw1
            clear hq
            replace hw1 := quiet_ext hw1
            replace hN := hN.step hw1
            have hC := hN.2
            go_wp2
            go_roundg (p.quo.length - (j + 1))
            case measure => have := Hjn.out; omega
            case rel => exact ⟨j + 1, rfl, by omega, by go_num, hNw.trans hN.1⟩
          · have hnlt : ¬ ((j : Int) < p.quo.length) := by omega
            go_wp2_with fail
            refine (awake_any _).mono ?_
            rintro e w5 ⟨rfl, hb5⟩
            go_wp2
            go_ret
            exact ⟨rfl, hE7.trans (hNw.trans hb5)⟩

end Go.Proofs.Ytmpekjbhaekmpaa
