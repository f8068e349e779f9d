/- Layer 25 (latest): the walk of LatestSuffixes. -/
import Derived.Test.YtmpekjbhaekmpaaLatL3
import Derived.BigRegion
namespace Go.Proofs.Ytmpekjbhaekmpaa
set_option linter.unusedVariables false
open Go.RowKit Go.Shelf

theorem LPath.head {n : Nat} {cons : List Con} {m : List Int} {dest size x : Int} {y : Hp} {l : List Hp} (hc : Cons n cons) (h : LPath cons m dest size x (y :: l)) :
    ∃ c, 0 ≤ y.con ∧ y.con.toNat < cons.length ∧ cons[y.con.toNat]? = some c ∧ c ∈ cons ∧ lans m size x c = true ∧ c.src = x ∧ x ≠ dest ∧ 0 ≤ x ∧ x < n ∧ y = hopOf y.con.toNat c (gi m x) size ∧ LPath cons m dest size c.dst l := by
  cases h with
  | @step _ i c _ h1 h2 h3 =>
    obtain ⟨g1, g2, g3, g4, g5⟩ := findC_some h2
    have g2' := g2
    simp only [lans, Bool.and_eq_true, beq_iff_eq] at g2
    have hk := hc c g1
    have e : (hopOf i c (gi m x) size).con.toNat = i := by simp [hopOf]
    refine ⟨c, by simp [hopOf], by rw [e]; omega, by rw [e]; exact g5, g1, g2', g2.1, h1, ?_, ?_, by rw [e], h3⟩
    · have := hk.1.src0; omega
    · have := hk.2.1; omega

theorem LPath.suffix {n : Nat} {cons : List Con} {m : List Int} {dest size a : Int} {l : List Hp} (hc : Cons n cons) (hsz : 1 ≤ size ∧ size ≤ 65536) (h : LPath cons m dest size a l) : 0 ≤ gi m a → ∀ k, (hk : k + 1 < l.length) →
    ∃ (x : Int) (c : Con), 0 ≤ x ∧ x < n ∧ x ≠ dest ∧ LPath cons m dest size x (l.drop (k + 1)) ∧ 0 ≤ l[k].arr ∧ l[k].arr ≤ gi m x ∧ 0 ≤ l[k + 1].con ∧ l[k + 1].con.toNat < cons.length ∧ cons[l[k + 1].con.toNat]? = some c ∧ c.src = x := by
  induction h with
  | done => intro _ k hk; simp at hk
  | @step a i c l h1 h2 h3 ih =>
    intro h0 k hk
    obtain ⟨g1, g2, g3, g4, g5⟩ := findC_some h2
    obtain ⟨e1, e2, e3, e4, e5, e6, e7, e8⟩ := lans_fits hc hsz g1 g2 h0
    have d := Con.dur_bd (hc c g1).1 hsz.1 hsz.2
    have r0 := (hc c g1).1.rng0
    cases k with
    | zero =>
      cases l with
      | nil => simp at hk
      | cons y l =>
        obtain ⟨c', f1, f2, f3, f4, f5, f6, f7, f8, f9, f10, f11⟩ := LPath.head hc h3
        refine ⟨c.dst, c', e6, e7, f7, h3, ?_, ?_, f1, f2, f3, f6⟩
        · show (0 : Int) ≤ gi m a + c.dur size + c.rng
          omega
        · exact e5
    | succ k =>
      obtain ⟨x, c', f⟩ := ih (by omega) k (by simpa using hk)
      exact ⟨x, c', f⟩

set_option maxRecDepth 100000 in
set_option maxHeartbeats 4000000 in
theorem suf_walk (Aq : Option Addr) (cq : Nat) (Ac : Option Addr) (cc : Nat) (p : Pln) (q : Req) (w : World) (h : PlnIn w Aq cq Ac cc p) :
    Calls Try.prog 5 #[p.val Aq cq Ac cc, q.val] w fun e w' => e = .returned (.bool true) ∧ Ext w w' := by
  obtain ⟨i0, hi0, hz0, hz1, hz2⟩ := info_parts info_hop
  obtain ⟨W, hW, hB, hk, hkr, hlt, hltr⟩ := box2 w #[.slice Aq p.quo.length cq, .slice Ac p.cons.length cc] q.cells 25 34
  simp only [Req.cells] at hW hkr
  have hc := hk.cell
  have hcr := hkr.cell
  have hIn : PlnIn W Aq cq Ac cc p := ⟨h.q.ext hB, h.c.ext hB, h.qc, h.ck, h.qm, h.cm⟩
  have hfi := fine_any Aq cq Ac cc p q W hIn
  cases hf : fineB p q
  · rw [hf] at hfi
    unfold Pln.val at hfi ⊢
    unfold Req.val at hfi ⊢
    go_enter Try.func5, Try.ntmps5
    go_wp2_with fail
    clear hW
    refine hfi.mono ?_
    clear hfi
    rintro e w1 ⟨rfl, hb1⟩
    go_wp2_with fail
    refine (awake_any _).mono ?_
    rintro e w2 ⟨rfl, hb2⟩
    go_wp2
    go_ret
    exact ⟨rfl, (hB.trans hb1).trans hb2⟩
  · rw [hf] at hfi
    obtain ⟨f1, f2, f3⟩ := fine_of hf
    have hrd := hIn.rd f1
    have hok := Pln.ok_of f2
    have hE := ofE_fine f2 f3
    have hinv := (Pln.fix_inv f2 f3).1
    have hhi : ∀ x : Int, 0 ≤ x → x < p.quo.length → gi (p.fixT q) x ≤ q.dead := fun x h0 h1 => hinv.hi _ (gi_mem (by rw [hinv.len]; omega))
    have f3' := f3
    simp only [Req.okB, decide_eq_true_eq] at f3'
    obtain ⟨a1, a2, a3, a4, a5, a6, a7, a8, a9, a10, a11, a12⟩ := f3'
    have h2 := fun w h => Find_any Aq cq Ac cc p q w h
    have F2 := Lib.hid f2
    have F3 := Lib.hid f3
    have HE := Lib.hid hE
    have hm64 := hok.m64
    clear hE f1 f2 f3 hf a5
    by_cases hr : gi (p.fixT q) q.src < q.ready
    · have e18 : p.ofE q = 18 := by rw [HE.out, if_pos hr]
      have E18 := Lib.hid e18
      clear e18
      unfold Pln.val at hfi h2 ⊢
      unfold Req.val at hfi h2 ⊢
      go_enter Try.func5, Try.ntmps5
      go_wp2_with fail
      clear hW
      refine hfi.mono ?_
      clear hfi
      rintro e w1 ⟨rfl, hb1⟩
      have hk1 := hk.ext hb1
      have hkr1 := hkr.ext hb1
      replace hc := hk1.cell
      replace hcr := hkr1.cell
      go_wp2_with fail
      refine (h2 _ (hrd.ext hb1)).mono ?_
      clear h2
      rintro e w3 ⟨l3, ⟨A3, c3, rfl, hR3, hb3, _⟩, hl3, hp3⟩
      rw [E18.out] at hp3 ⊢
      have hp3' : l3 = [] := hp3
      subst hp3'
      clear hp3
      go_wp2_with fail
      refine (awake_any _).mono ?_
      rintro e w5 ⟨rfl, hb5⟩
      go_wp2
      go_ret
      exact ⟨rfl, (hB.trans hb1).trans (hb3.trans hb5)⟩
    · have e0 : p.ofE q = 0 := by rw [HE.out, if_neg hr]
      have hrr : q.ready ≤ gi (p.fixT q) q.src := by omega
      clear hr
      have E0 := Lib.hid e0
      clear e0
      unfold Pln.val at hfi h2 ⊢
      unfold Req.val at hfi h2 ⊢
      go_enter Try.func5, Try.ntmps5
      go_wp2_with fail
      clear hW
      refine hfi.mono ?_
      clear hfi
      rintro e w1 ⟨rfl, hb1⟩
      have hk1 := hk.ext hb1
      have hkr1 := hkr.ext hb1
      replace hc := hk1.cell
      replace hcr := hkr1.cell
      go_wp2_with fail
      refine (h2 _ (hrd.ext hb1)).mono ?_
      clear h2
      rintro e w3 ⟨l3, ⟨A3, c3, rfl, hR3, hb3, hcap3⟩, hl3, hp3⟩
      rw [E0.out] at hp3 ⊢
      have hp3' : LPath p.cons (p.fixT q) q.dst q.size q.src l3 := hp3
      have hsuf := LPath.suffix hok.con ⟨a6, a7⟩ hp3' (by omega)
      have Hsuf := Lib.hid hsuf
      have hk3 := hk1.ext hb3
      have hkr3 := hkr1.ext hb3
      have hpc3 := (hrd.c.ext hb1).ext hb3
      have hE3 := (hB.trans hb1).trans hb3
      have hrd3 := (hrd.ext hb1).ext hb3
      clear hp3 hp3' hc hcr hsuf
      go_wp2
      go_loopg [7] l3.length (fun n i wr => ∃ k : Nat, n = l3.length - k ∧ k ≤ l3.length ∧ i = .int .i64 ((k : Int) + 1) ∧ Ext w3 wr)
      case atStart => exact ⟨0, by omega, by omega, rfl, Ext.refl _⟩
      case round =>
        obtain ⟨k, hkn, hkl, rfl, hNw⟩ := hrel
        have Hkn := Lib.hid hkn
        clear hkn
        by_cases hlt : k + 1 < l3.length
        · have hlti : (k : Int) + 1 < l3.length := by omega
          obtain ⟨x, c, s1, s2, s3, s4, s5, s6, s7, s8, s9, s10⟩ := Hsuf.out k hlt
          obtain ⟨b, o, rfl, hb, d0, d1, d2, d3⟩ := (hR3.ext hNw).hp hlt
          obtain ⟨b', o', e', hb', f0, f1, f2, f3⟩ := (hR3.ext hNw).hp (k := k) (by omega)
          injection e' with e'
          injection e' with e1 e2
          subst e1 e2
          have S4 := Lib.hid s4
          clear s4 d1 d2 d3 f0 f1 f2 hb'
          generalize hy : l3[k + 1] = y at *
          generalize hz : l3[k] = z at *
          clear hy hz
          obtain ⟨bc, oc, rfl, hbc, g0, g1, g2, g3, g4, g5, g6⟩ := (hpc3.ext hNw).con s8
          have hcx : p.cons[y.con.toNat].src = x := by
            rw [List.getElem?_eq_getElem s8] at s9
            injection s9 with s9
            rw [s9]; exact s10
          rw [hcx] at g0
          clear hcx s9 g1 g2 g3 g4 g5 g6
          have hkq := hkr3.ext hNw
          have hcq := hkq.cell
          have hkp := hk3.ext hNw
          have hcp := hkp.cell
          have hlq := hkq.lt
          have hlp := hkp.lt
          have hd1 : decide (y.con < 0) = false := by simp; omega
          have hd2 : decide ((p.cons.length : Int) ≤ y.con) = false := by simp; omega
          have hyl : y.con < p.cons.length := by omega
          have hN := Near.refl wr
          go_wp2
          have hq := quiet_near hN
          refine wp_region_quiet_below (by kernel_rfl) (by kernel_rfl) ?_
          repeat (first | go_big_quiet_skip | (go_big_quiet_want; go_big_quiet_op; first | go_big_quiet_on | (apply Exists.intro; refine ⟨fun _ => ?_, ?_⟩; (focus (first | fail)); go_big_quiet_on)))
          refine wpQuiet_nil ?_
          intro w1 hw1
          clear hq
          replace hw1 := quiet_ext hw1
          replace hN := hN.step hw1
          have hC := hN.2
          have hge : wr.heap.size ≤ w1.heap.size := hN.1.size
          obtain ⟨W2, hW2, hB2, hkb, hltW⟩ := box1 w1 q.cells 34
          simp only [Req.cells] at hW2 hkb
          replace hN := hN.step hB2
          have hC2 := hN.2
          have hc3 := hkb.cell
          have hf3 := hkb.frozen
          go_wp2_with fail
          clear hW2
          have hge2 : wr.heap.size ≤ w1.heap.size := hge
          go_region
          obtain ⟨W3, hW3, hN3, hkr4⟩ : ∃ W3, ((W2.setCell ⟨w1.heap.size, 0, none⟩ (.int .i64 x)).setCell ⟨w1.heap.size, 3, none⟩ (.int .i64 z.arr)).drew = W3 ∧ Near wr W3 ∧ Blk W3 w1.heap.size 34 #[.int .i64 x, .int .i64 q.dst, .int .i64 q.size, .int .i64 z.arr, .int .i64 q.dead, .int .i64 q.prio, .bool q.cust] :=
            ⟨_, rfl, ((hN.set hge _).set hge _).drew, (hkb.set_ 0 _).set_ 3 _⟩
          rw [hW3]
          have hsx : q.dst ≠ x := fun e => s3 e.symm
          have hok2 : Req.okB { src := x, dst := q.dst, size := q.size, ready := z.arr, dead := q.dead, prio := q.prio, cust := q.cust } p.quo.length = true := decide_eq_true ⟨s1, s2, a3, a4, s3, a6, a7, s5, show z.arr ≤ q.dead from by have := hhi x s1 s2; omega, a10, a11, a12⟩
          have hE2 := ofE_fine F2.out hok2
          have hfx : p.fixT { src := x, dst := q.dst, size := q.size, ready := z.arr, dead := q.dead, prio := q.prio, cust := q.cust } = p.fixT q := rfl
          have e00 : p.ofE { src := x, dst := q.dst, size := q.size, ready := z.arr, dead := q.dead, prio := q.prio, cust := q.cust } = 0 := by rw [hE2, hfx]; exact if_neg (show ¬ gi (p.fixT q) x < z.arr by omega)
          have h4 := fun w h => Find_any Aq cq (some ⟨bc, oc, none⟩) cc p { src := x, dst := q.dst, size := q.size, ready := z.arr, dead := q.dead, prio := q.prio, cust := q.cust } w h
          have E00 := Lib.hid e00
          clear hE2 hfx e00 hW3 hc3 hf3 hkb hC2 hN hB2 hltW hge2 hcq hcp d0 g0 hC hw1 hge hok2
          unfold Pln.val at h4
          unfold Req.val at h4
          have hk4 := hkp.ext hN3.1
          have hc4 := hk4.cell
          have hcr4 := hkr4.cell
          have hl4 := hkr4.lt
          have hlp4 := hk4.lt
          go_wp2_with fail
          refine (h4 _ ((hrd3.ext hNw).ext hN3.1)).mono ?_
          clear h4
          rintro e w7 ⟨l7, ⟨A7, c7, rfl, hR7, hb7, hcap7⟩, hl7, hp7⟩
          rw [E00.out] at hp7 ⊢
          have heq : l7 = l3.drop (k + 1) := LPath.unique (show LPath p.cons (p.fixT q) q.dst q.size x l7 from hp7) S4.out
          subst heq
          clear hp7
          have hct1 : ∀ w, (Instr.slice 35 (.slice (some ⟨b, o, none⟩) l3.length c3) (some (.int .i64 ((k : Int) + 1))) none none).run Try.prog w = .ok (.slice (cutA (some ⟨b, o, none⟩) c3 (k + 1) 4) (l3.length - (k + 1)) (c3 - (k + 1))) w := fun w => run_cut (k := k + 1) Try.underlying35 hi0 hz1 (by omega) w
          have hct2 : ∀ w, (Instr.sliceAt 35 (.slice (some ⟨b, o, none⟩) l3.length c3) (some (.int .i64 ((k : Int) + 1))) none none).run Try.prog w = .ok (.slice (cutA (some ⟨b, o, none⟩) c3 (k + 1) 4) (l3.length - (k + 1)) (c3 - (k + 1))) w := fun w => run_cutAt (k := k + 1) Try.underlying35 hi0 hz1 (by omega) w
          have hlen7 : (l3.drop (k + 1)).length = l3.length - (k + 1) := List.length_drop
          rw [hlen7]
          have hcut := ((hR3.ext hNw).ext hN3.1).ext hb7 |>.cut (k := k + 1) (by omega) hcap3
          have hsm := sameHops_ex A7 (cutA (some ⟨b, o, none⟩) c3 (k + 1) 4) c7 (c3 - (k + 1)) (l3.drop (k + 1)) w7 hR7 hcut hl7
          rw [hlen7] at hsm
          clear hlen7 hcut hcr4 hc4
          go_wp2_with fail
          refine hsm.mono ?_
          rintro e w8 ⟨rfl, hb8⟩
          go_wp2
          go_roundg (l3.length - (k + 1))
          case measure => have := Hkn.out; omega
          case rel => exact ⟨k + 1, rfl, by omega, by go_num, hNw.trans (hN3.1.trans (hb7.trans hb8))⟩
        · have hnlt : ¬ ((k : Int) + 1 < l3.length) := by omega
          go_wp2_with fail
          refine (awake_any _).mono ?_
          rintro e w5 ⟨rfl, hb5⟩
          go_wp2
          go_ret
          exact ⟨rfl, hE3.trans (hNw.trans hb5)⟩

end Go.Proofs.Ytmpekjbhaekmpaa
