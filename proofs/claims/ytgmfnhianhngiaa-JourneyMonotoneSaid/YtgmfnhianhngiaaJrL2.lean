/- Layer 24 (journey): the walk of JourneyMonotone. -/
import Derived.Test.YtgmfnhianhngiaaJrM1
namespace Go.Proofs.Ytgmfnhianhngiaa
set_option linter.unusedVariables false
set_option linter.unusedSimpArgs false
open Go.RowKit Go.Shelf

theorem fineQ_of {p : Pln} {q : Req} (h : fineQ p q = true) : p.chk = 0 ∧ q.okB p.quo.length = true := by
  simpa [fineQ] using h
/-- Behind the statement that adds the contact. -/
def WideR (w : World) (g : Nat) (Aq : Option Addr) (cq : Nat) (p : Pln) (c : Con) (wx : World) : Prop :=
  ∃ b d, Blk wx g 25 #[.slice Aq p.quo.length cq, .slice (some ⟨b, 0, none⟩) (p.cons.length + 1) d] ∧ Rd ECon wx (some ⟨b, 0, none⟩) (p.cons ++ [c]) ∧ p.cons.length + 1 ≤ d ∧ Ext w wx ∧ b < wx.heap.size

set_option maxRecDepth 100000 in
set_option maxHeartbeats 4000000 in
theorem mono_walk (Aq : Option Addr) (cq : Nat) (Ac : Option Addr) (cc : Nat) (p : Pln) (q : Req) (later more : Int) (c : Con) (w : World) (h : PlnIn w Aq cq Ac cc p) (hla : 0 ≤ later ∧ later ≤ 255) (hmo : 0 ≤ more ∧ more ≤ 255) :
    Calls Try.prog 4 #[p.val Aq cq Ac cc, q.val, .int .u8 later, .int .u8 more, c.val] w fun e w' => e = .returned (.bool true) ∧ Ext w w' := by
  obtain ⟨i0, hi0, hz0, hz1, hz2⟩ := info_parts info_con
  obtain ⟨W0, hW0, hB0, hk0, hkr0, hlt0, hltr0⟩ := box2 w #[.slice Aq p.quo.length cq, .slice Ac p.cons.length cc] q.cells 25 34
  have hs0 : W0.heap.size = w.heap.size + 2 := by rw [← hW0]; simp
  obtain ⟨W, hW, hB1, hkc, hltc⟩ := box1 W0 c.cells 36
  rw [hs0] at hkc hltc
  simp only [Con.cells] at hW hkc
  simp only [Req.cells] at hW0 hkr0
  have hk := hk0.ext hB1
  have hkr := hkr0.ext hB1
  have hB := hB0.trans hB1
  have hc := hk.cell
  have hcr := hkr.cell
  have hcc := hkc.cell
  have hIn : PlnIn W Aq cq Ac cc p := ⟨h.q.ext hB, h.c.ext hB, h.qc, h.ck, h.qm, h.cm⟩
  have hgr := great24_any Aq cq Ac cc p W hIn.le.1 hIn.le.2
  obtain ⟨hla0, hla1⟩ := hla
  obtain ⟨hmo0, hmo1⟩ := hmo
  clear hk0 hkr0 hlt0 hltr0 hB0 hB1
  cases hg : p.gr24
  case' true =>
    rw [hg] at hgr
    unfold Pln.val at hgr ⊢
    unfold Req.val Con.val
    go_enter Try.func4, Try.ntmps4
    go_wp2_with fail
    clear hW hW0
    refine hgr.mono ?_
    clear hgr
    rintro e w1 ⟨rfl, hb1⟩
    go_wp2_with fail
    refine (awake_any _).mono ?_
    rintro e w2 ⟨rfl, hb2⟩
    go_wp2
    go_ret
    exact ⟨rfl, (hB.trans hb1).trans hb2⟩
  rw [hg] at hgr
  have hrd := hIn.rd hg
  have hcq := fun w h => rCheckRequest_any Aq cq Ac cc p q w h
  cases hf : fineQ p q
  case' false =>
    rw [hf] at hcq
    unfold Pln.val at hgr hcq ⊢
    unfold Req.val at hcq ⊢
    unfold Con.val
    go_enter Try.func4, Try.ntmps4
    go_wp2_with fail
    clear hW hW0
    refine hgr.mono ?_
    clear hgr
    rintro e w1 ⟨rfl, hb1⟩
    have hk1 := hk.ext hb1
    have hkr1 := hkr.ext hb1
    replace hc := hk1.cell
    replace hcr := hkr1.cell
    go_wp2_with fail
    refine (hcq _ (hrd.ext hb1)).mono ?_
    clear hcq
    rintro e w2 ⟨rfl, hb2⟩
    go_wp2_with fail
    refine (awake_any _).mono ?_
    rintro e w3 ⟨rfl, hb3⟩
    go_wp2
    go_ret
    exact ⟨rfl, (hB.trans hb1).trans (hb2.trans hb3)⟩
  rw [hf] at hcq
  obtain ⟨f2, f3⟩ := fineQ_of hf
  have hok := Pln.ok_of f2
  have hn16 := hok.n16
  have f3' := f3
  simp only [Req.okB, decide_eq_true_eq] at f3'
  obtain ⟨a1, a2, a3, a4, a5, a6, a7, a8, a9, a10, a11, a12⟩ := f3'
  have F2 := Lib.hid f2
  have F3 := Lib.hid f3
  clear f2 f3 hf hg a5
  unfold Pln.val at hgr hcq ⊢
  unfold Req.val at hcq ⊢
  unfold Con.val
  go_enter Try.func4, Try.ntmps4
  go_wp2_with fail
  clear hW hW0
  refine hgr.mono ?_
  clear hgr
  rintro e w1 ⟨rfl, hb1⟩
  have hk1 := hk.ext hb1
  have hkr1 := hkr.ext hb1
  have hkc1 := hkc.ext hb1
  replace hc := hk1.cell
  replace hcr := hkr1.cell
  replace hcc := hkc1.cell
  go_wp2_with fail
  refine (hcq _ (hrd.ext hb1)).mono ?_
  clear hcq
  rintro e w2 ⟨rfl, hb2⟩
  have hk2 := hk1.ext hb2
  have hkr2 := hkr1.ext hb2
  have hkc2 := hkc1.ext hb2
  replace hc := hk2.cell
  replace hcr := hkr2.cell
  replace hcc := hkc2.cell
  have hE2 := (hB.trans hb1).trans hb2
  by_cases hbig : 1099511627776 < q.ready + later
  · have hbd : decide (1099511627776 < q.ready + later) = true := decide_eq_true hbig
    go_wp2_with fail
    refine (awake_any _).mono ?_
    rintro e w3 ⟨rfl, hb3⟩
    go_wp2
    go_ret
    exact ⟨rfl, hE2.trans hb3⟩
  · have hbd : decide (1099511627776 < q.ready + later) = false := decide_eq_false hbig
    by_cases hbig2 : 65536 < q.size + more
    · have hbd2 : decide (65536 < q.size + more) = true := decide_eq_true hbig2
      go_wp2_with fail
      refine (awake_any _).mono ?_
      rintro e w3 ⟨rfl, hb3⟩
      go_wp2
      go_ret
      exact ⟨rfl, hE2.trans hb3⟩
    · have hbd2 : decide (65536 < q.size + more) = false := decide_eq_false hbig2
      have haf := Req.argF F3.out
      have haf2 : p.argF q.src (q.ready + later) (q.size + more) = true := by
        simp only [Pln.argF, decide_eq_true_eq]; omega
      have e1 : p.forE q.src q.ready q.size = 0 := by unfold Pln.forE; rw [if_pos F2.out, haf]; rfl
      have e2 : p.forE q.src (q.ready + later) (q.size + more) = 0 := by unfold Pln.forE; rw [if_pos F2.out, haf2]; rfl
      have t1 : p.forT q.src q.ready q.size = p.arrs q.src q.ready q.size := by unfold Pln.forT; rw [if_pos e1]
      have t2 : p.forT q.src (q.ready + later) (q.size + more) = p.arrs q.src (q.ready + later) (q.size + more) := by unfold Pln.forT; rw [if_pos e2]
      have l1 := (Pln.arrs_least hok haf).len
      have l2 := (Pln.arrs_least hok haf2).len
      have U1 : ∀ i : Int, 0 ≤ i → i < p.quo.length → 0 ≤ gi (p.arrs q.src (q.ready + later) (q.size + more)) i → 0 ≤ gi (p.arrs q.src q.ready q.size) i ∧ gi (p.arrs q.src q.ready q.size) i ≤ gi (p.arrs q.src (q.ready + later) (q.size + more)) i :=
        fun i h0 h1 hg => Pln.arrs_mono hok hok rfl (fun _ hx => hx) haf2 haf (by omega) (by omega) h0 h1 hg
      have h3 := fun w h => Foremost_any Aq cq Ac cc p q.src q.ready q.size w h
      have h4 := fun w h => Foremost_any Aq cq Ac cc p q.src (q.ready + later) (q.size + more) w h
      rw [t1, e1] at h3
      rw [t2, e2] at h4
      obtain ⟨T, hT⟩ : ∃ T, p.arrs q.src q.ready q.size = T := ⟨_, rfl⟩
      obtain ⟨M, hM⟩ : ∃ M, p.arrs q.src (q.ready + later) (q.size + more) = M := ⟨_, rfl⟩
      rw [hT] at h3 U1 l1
      rw [hM] at h4 U1 l2
      have HT := Lib.hid hT
      have HM := Lib.hid hM
      have HU1 := Lib.hid U1
      have Hl1 := Lib.hid l1
      have Hl2 := Lib.hid l2
      unfold Pln.val at h3 h4
      clear hT hM U1 t1 t2 e1 e2 haf2
      go_wp2_with fail
      refine (h3 _ ((hrd.ext hb1).ext hb2)).mono ?_
      clear h3
      rintro e w3 ⟨A3, c3, rfl, hR3, hb3, _⟩
      have hk3 := hk2.ext hb3
      have hkr3 := hkr2.ext hb3
      have hkc3 := hkc2.ext hb3
      replace hc := hk3.cell
      replace hcr := hkr3.cell
      replace hcc := hkc3.cell
      rw [Hl1.out]
      go_wp2_with fail
      refine (h4 _ (((hrd.ext hb1).ext hb2).ext hb3)).mono ?_
      clear h4
      rintro e w4 ⟨A4, c4, rfl, hR4, hb4, _⟩
      have hk4 := hk3.ext hb4
      have hkr4 := hkr3.ext hb4
      have hkc4 := hkc3.ext hb4
      replace hc := hk4.cell
      replace hcr := hkr4.cell
      replace hcc := hkc4.cell
      rw [Hl2.out]
      have hE4 := (hE2.trans hb3).trans hb4
      obtain ⟨W5, hW5, hB5, hk5, hl5⟩ := box1 w4 #[.slice Aq p.quo.length cq, .slice Ac p.cons.length cc] 25
      go_upto_region 8 with (fail)
      clear hW5
      have hE5 := hE4.trans hB5
      go_cut [] from 95 to 101 (fun wx => WideR w4 w4.heap.size Aq cq p c wx)
      case first =>
        have hR5 := ((((hrd.ext hb1).ext hb2).ext hb3).ext hb4).c.ext hB5
        have kp5 := hk4.ext hB5
        have kc5 := hkc4.ext hB5
        have hcp5 := kp5.cell
        have hcc5 := kc5.cell
        have hcw5 := hk5.cell
        have hlp5 := kp5.lt
        have hlc5 := kc5.lt
        have hlw5 := hk5.lt
        have hm64 := hok.m64
        clear hc hcr hcc
        go_region_law (first
          | (refine step_push (by rfl) _ _ _ (by rfl) W5.heap.size 36 i0 _ 56 Try.underlying23 hi0 hz0 hz1 hz2 (by rfl) v2 (by rfl) (hv2.ext ((Ext.refl _).alloc _)) w2.heap.size c (by rfl) (Blk.new w2 _ _) (by simp only [maxLen]; omega) (by omega) (by simp; omega) ?_; intro v6 w6 hv6 hg6 hat6; have hx6 := ext_grown (hx2.alloc _) (hv2.ext ((Ext.refl _).alloc _)) (Nat.le_refl _) hg6; have hf6 := (hk5.ext hx6).frozen; have hl6 := (hk5.ext hx6).lt; have hc6 := (hk5.ext hx6).cell; obtain ⟨A6, d6, rfl, hR6⟩ := hv6.form; have hd6 := hv6.cap)
          | (refine step_push (by rfl) _ _ _ (by rfl) W5.heap.size 36 i0 _ 56 Try.underlying23 hi0 hz0 hz1 hz2 (by rfl) v2 (by rfl) hv2 W5.heap.size c (by rfl) ((Blk.new W5 _ _).ext ((Ext.refl _).drew.trans hb2)) (by simp only [maxLen]; omega) (by omega) hxs ?_; intro v6 w6 hv6 hg6 hat6; have hx6 := ext_grown hx2 hv2 (Nat.le_refl _) hg6; have hf6 := (hk5.ext hx6).frozen; have hl6 := (hk5.ext hx6).lt; have hc6 := (hk5.ext hx6).cell; obtain ⟨A6, d6, rfl, hR6⟩ := hv6.form; have hd6 := hv6.cap)
          | (go_simp; go_at_call 16; refine (cloneCon_any Ac cc p.cons _ (by first | exact hR5 | exact hR5.ext ((Ext.refl _).drew) | exact hR5.ext (((Ext.refl _).alloc _).drew)) (by omega)).mono ?_; rintro e w2 ⟨v2, rfl, hv2, hb2⟩; replace hv2 : Owns ECon w2 W5.heap.size 36 v2 p.cons := hv2.mono (by first | exact Nat.le_refl _ | (simp; done)); have hx2 : Ext W5 w2 := (by first | exact (Ext.refl _).drew.trans hb2 | exact ((Ext.refl _).alloc _).drew.trans hb2); have hc2 := (kc5.ext hx2).cell; have hcp2 := (hk5.ext hx2).cell; have hfp2 := (hk5.ext hx2).frozen; have hxs := hx2.size; have hl2 := (hk5.ext hx2).lt; have hcq2 := (kp5.ext hx2).cell; have hlc2 := (kc5.ext hx2).lt; have hlp2 := (kp5.ext hx2).lt))
        all_goals
          go_wp2_with fail
          go_meet
          have hk6 := hk5.ext hx6
          have hE6 := hB5.trans hx6
          simp only [List.length_append, List.length_cons, List.length_nil] at hd6
          obtain ⟨b6, rfl, hb6⟩ := hv6.some_ (by simp)
          have hl6b := (hv6.block (g := b6) rfl).2
          exact ⟨b6, d6, hk6.set_ 1 _, hv6.rd_set hlw5 _ _, by omega, hE6.setCell (Nat.le_refl _) _, by simpa [World.setCell] using hl6b⟩
      case rest =>
        obtain ⟨bA, d, r1, r2, r3, r4, r5⟩ := hcut
        have hk6 := r1.cell
        have kr6 := hkr4.ext r4
        have hcr6 := kr6.cell
        have hlr6 := kr6.lt
        have hl6 := r1.lt
        have hrd4 := (((hrd.ext hb1).ext hb2).ext hb3).ext hb4
        have hm64 := hok.m64
        have hrdw : PlnRd wc Aq cq (some ⟨bA, 0, none⟩) d (p.plus c) :=
          ⟨hrd4.q.ext r4, r2, hrd4.qm, by show (p.cons ++ [c]).length ≤ _; simp; omega, hrd4.qc, by show (p.cons ++ [c]).length ≤ _; simp; exact r3⟩
        have h6 := Foremost_any Aq cq (some ⟨bA, 0, none⟩) d (p.plus c) q.src q.ready q.size wc hrdw
        have hlen : (p.plus c).cons.length = p.cons.length + 1 := by simp [Pln.plus]
        have hqlen : (p.plus c).quo.length = p.quo.length := rfl
        unfold Pln.val at h6
        rw [hlen, hqlen] at h6
        clear hlen hqlen hc hcr hcc
        go_wp2_with fail
        refine h6.mono ?_
        clear h6
        rintro e w7 ⟨A7, c7, rfl, hR7, hb7, hcap7⟩
        have hE7 := hE4.trans (r4.trans hb7)
        have hR3' := (hR3.ext hb4).ext (r4.trans hb7)
        have hR4' := hR4.ext (r4.trans hb7)
        clear hk6 hcr6
        obtain ⟨b3, o3, rfl, hb3l, _⟩ := hR3'.int (k := 0) (by have := Hl1.out; omega)
        obtain ⟨b4, o4, rfl, hb4l, _⟩ := hR4'.int (k := 0) (by have := Hl2.out; omega)
        by_cases hg0 : (p.plus c).forE q.src q.ready q.size = 0
        case' pos =>
          have hfe := hg0
          unfold Pln.forE at hfe
          have hch2 : (p.plus c).chk = 0 := by
            apply Classical.byContradiction
            intro hh
            rw [if_neg hh] at hfe; omega
          rw [if_pos hch2] at hfe
          have haf3 : (p.plus c).argF q.src q.ready q.size = true := by
            cases hx : (p.plus c).argF q.src q.ready q.size
            · rw [hx] at hfe; exact absurd hfe (by decide)
            · rfl
          have t3 : (p.plus c).forT q.src q.ready q.size = (p.plus c).arrs q.src q.ready q.size := by unfold Pln.forT; rw [if_pos hg0]
          have U2 : ∀ i : Int, 0 ≤ i → i < p.quo.length → 0 ≤ gi T i → 0 ≤ gi ((p.plus c).arrs q.src q.ready q.size) i ∧ gi ((p.plus c).arrs q.src q.ready q.size) i ≤ gi T i := fun i i0 i1 hg => by
            have := Pln.arrs_mono (p := p) (p' := p.plus c) hok (Pln.ok_of hch2) rfl (fun x hx => List.mem_append_left _ hx) haf haf3 (Int.le_refl _) (Int.le_refl _) i0 i1 (by rw [HT.out]; exact hg)
            rw [HT.out] at this; exact this
          have l3 := (Pln.arrs_least (Pln.ok_of hch2) haf3).len
          rw [t3, hg0]
          rw [t3] at hR7 hcap7
          obtain ⟨B, hBe⟩ : ∃ B, (p.plus c).arrs q.src q.ready q.size = B := ⟨_, rfl⟩
          rw [hBe] at U2 l3 hR7 hcap7 ⊢
          have Hl3 := Lib.hid (show B.length = p.quo.length from l3)
          have HU2 := Lib.hid U2
          obtain ⟨b7, o7, rfl, hb7l, hx7⟩ := hR7.int (k := 0) (by have := Hl3.out; omega)
          clear hx7
          rw [Hl3.out]
          clear hfe t3 hg0 hBe U2 l3 hch2 haf3
        case' neg =>
          have hd : ((p.plus c).forE q.src q.ready q.size == 0) = false := by simpa using hg0
          clear hg0
          obtain ⟨EE, hEE⟩ : ∃ EE, (p.plus c).forE q.src q.ready q.size = EE := ⟨_, rfl⟩
          rw [hEE] at hd ⊢
          clear hEE
          obtain ⟨B, hBe⟩ : ∃ B, (p.plus c).forT q.src q.ready q.size = B := ⟨_, rfl⟩
          rw [hBe] at hR7 hcap7 ⊢
          clear hBe
        all_goals
          go_wp2_with fail
          go_loopg [115] p.quo.length (fun n i wr => ∃ j : Nat, j + n = p.quo.length ∧ i = .int .i64 j ∧ Ext w7 wr)
          case atStart => exact ⟨0, by omega, rfl, Ext.refl _⟩
          case round =>
            obtain ⟨k, hkn, rfl, hF⟩ := hrel
            have Hkn := Lib.hid hkn
            by_cases hlt : k < p.quo.length
            · obtain ⟨htk, hb3w⟩ := (hR3'.ext hF).gi (i := (k : Int)) (by have := Hl1.out; omega)
              obtain ⟨hmk, hb4w⟩ := (hR4'.ext hF).gi (i := (k : Int)) (by have := Hl2.out; omega)
              have hu1 := HU1.out (k : Int) (by omega) (by omega)
              try (have hu2 := HU2.out (k : Int) (by omega) (by omega))
              try (obtain ⟨hbk, hb7w⟩ := (hR7.ext hF).gi (i := (k : Int)) (by have := Hl3.out; omega))
              simp only [Int.toNat_natCast] at htk hmk
              try simp only [Int.toNat_natCast] at hbk
              clear hkn
              by_cases h0 : 0 ≤ gi M (k : Int)
              all_goals
                by_cases h1 : 0 ≤ gi T (k : Int)
                all_goals
                  first
                    | (have hdM : decide (0 ≤ gi M (k : Int)) = true := decide_eq_true h0)
                    | (have hdM : decide (0 ≤ gi M (k : Int)) = false := decide_eq_false h0)
                  first
                    | (have hdT : decide (0 ≤ gi T (k : Int)) = true := decide_eq_true h1)
                    | (have hdT : decide (0 ≤ gi T (k : Int)) = false := decide_eq_false h1)
                  try (have hd2 : decide (gi M (k : Int) < gi T (k : Int)) = false := decide_eq_false (by have := hu1 h0; omega))
                  try (have hd3 : decide (gi T (k : Int) < 0) = false := decide_eq_false (by have := hu1 h0; omega))
                  try (have hd4 : decide (gi B (k : Int) < 0) = false := decide_eq_false (by have := hu2 h1; omega))
                  try (have hd5 : decide (gi T (k : Int) < gi B (k : Int)) = false := decide_eq_false (by have := hu2 h1; omega))
                  first
                    | (exfalso; have := hu1 h0; omega)
                    | (clear hu1 h0 h1
                       try clear hu2
                       go_wp2
                       go_roundg (gk - 1)
                       case measure => have := Hkn.out; omega
                       case rel => exact ⟨k + 1, by have := Hkn.out; omega, by go_num, hF⟩)
            · go_wp2_with fail
              refine (awake_any _).mono ?_
              rintro e w5 ⟨rfl, hb5⟩
              go_wp2
              go_ret
              exact ⟨rfl, hE7.trans (hF.trans hb5)⟩

end Go.Proofs.Ytgmfnhianhngiaa
