
/- Layer 35 (multicast): the chapter's example, walked. · Layer 35 (multicast): awake. · Layer 35 (multicast): the sizes; what comes in. -/
import Derived.Test.YtbgdglcnminbaaaGreatStAC
import Derived.Test.YtbgdglcnminbaaaGreatJrE
namespace Go.Proofs.YtbgdglcnminbaaaGreat
set_option linter.unusedVariables false
set_option linter.unusedSimpArgs false
open Go.RowKit Go.Shelf

set_option maxHeartbeats 4000000 in
theorem exc_any (a b c : Int) (w : World) (h0 : 0 ≤ c) (h1 : c ≤ 1000) : Calls Tryz.prog 43 #[.int .i64 a, .int .i64 b, .int .i64 c] w fun e w' => e = .returned (.agg #[.int .i64 a, .int .i64 b, .int .i64 c, .int .i64 (c + 50), .int .i64 24, .int .i64 2, .int .i64 0]) ∧ Ext w w' := by
  obtain ⟨W, hW, hB, hk, hlt⟩ := box1 w #[.int .i64 0, .int .i64 0, .int .i64 0, .int .i64 0, .int .i64 0, .int .i64 0, .int .i64 0] 67
  have hc := hk.cell
  have hf := hk.frozen
  obtain ⟨w7, hw7, hz7, hE7⟩ : ∃ w7, W.setCells w.heap.size 0 [.int .i64 a, .int .i64 b, .int .i64 c, .int .i64 (c + 50), .int .i64 24, .int .i64 2, .int .i64 0] = w7 ∧ Blk w7 w.heap.size 67 #[.int .i64 a, .int .i64 b, .int .i64 c, .int .i64 (c + 50), .int .i64 24, .int .i64 2, .int .i64 0] ∧ Ext w w7 :=
    ⟨_, rfl, hk.setCells_ [.int .i64 a, .int .i64 b, .int .i64 c, .int .i64 (c + 50), .int .i64 24, .int .i64 2, .int .i64 0] 0, ext_setCells hB (by omega) 0 _⟩
  simp only [World.setCells, Nat.zero_add, Nat.reduceAdd] at hw7
  go_enter Tryz.func43, Tryz.ntmps43
  go_wp2
  have hc7 := hz7.cell
  refine bodyPost_ret (v := .agg #[.int .i64 a, .int .i64 b, .int .i64 c, .int .i64 (c + 50), .int .i64 24, .int .i64 2, .int .i64 0]) (by rw [results_cell1 rfl]; simp [asAddr, Result.andThen, hc7, go_sem]) rfl ?_
  exact ⟨rfl, hE7⟩
theorem results_ccs {fn : Func} {p q r : Tmp} {t u : TypeId} (h : fn.results = #[.cell p t, .cell q u, .tmp r]) (tmps : Array Value) (P : Program) (w : World) :
    (results fn tmps).run P w =
      ((asAddr (tmps.getD p undef)).run P w).andThen fun a w1 => ((loadVar t a).run P w1).andThen fun x w2 =>
      ((asAddr (tmps.getD q undef)).run P w2).andThen fun a w1 => ((loadVar u a).run P w1).andThen fun y w2 => .ok (.tuple #[x, y, tmps.getD r undef]) w2 := by
  simp only [results, h]
  simp [Sem.run_bind, Result.andThen]
theorem ex_cons : (ECon.all exP.cons).toArray = #[.int .i64 1, .int .i64 3, .int .i64 10, .int .i64 60, .int .i64 24, .int .i64 2, .int .i64 0, .int .i64 0, .int .i64 1, .int .i64 5, .int .i64 55, .int .i64 24, .int .i64 2, .int .i64 0, .int .i64 1, .int .i64 2, .int .i64 0, .int .i64 50, .int .i64 24, .int .i64 2, .int .i64 0] := by kernel_rfl
theorem Blk.fars : ∀ (vs : List Value) {w : World} {g g' : Nat} {t : TypeId} {cs : Array Value} (_ : Blk w g t cs) (_ : g ≠ g') (o : Nat), Blk (w.setCells g' o vs) g t cs
  | [], _, _, _, _, _, h, _, _ => h
  | v :: vs, _, _, g', _, _, h, hn, o => Blk.fars vs (h.far (p := ⟨g', o, none⟩) hn v) hn (o + 1)
set_option maxRecDepth 100000 in
set_option maxHeartbeats 4000000 in
theorem example_any (w : World) : Calls Tryz.prog 21 #[] w fun e w' => ∃ Aq Ac Am, e = .returned (.tuple #[.agg #[.slice Aq 4 4, .slice Ac 3 3, .slice none 0 0, .slice none 0 0], exQ.val, .slice Am 2 2]) ∧ PlnRd w' Aq 4 Ac 3 exP ∧ Rd EInt w' Am [2, 3] ∧ Ext w w' := by
  have h1 := fun w => exc_any 1 3 10 w (by omega) (by omega)
  have h2 := fun w => exc_any 0 1 5 w (by omega) (by omega)
  have h3 := fun w => exc_any 1 2 0 w (by omega) (by omega)
  simp only [Int.reduceAdd] at h1 h2 h3
  obtain ⟨W0, hW0, hB0, hkt, hkq, hlt, hlq⟩ := box2 w #[.slice none 0 0, .slice none 0 0, .slice none 0 0, .slice none 0 0] #[.int .i64 0, .int .i64 0, .int .i64 0, .int .i64 0, .int .i64 0, .int .i64 0, .bool false] 29 31
  obtain ⟨W1, hW1, hB1, hk1, hl1⟩ := box1 W0 #[.int .i64 9, .int .i64 9, .int .i64 9, .int .i64 9] 3
  go_enter Tryz.func21, Tryz.ntmps21
  go_wp2_with fail
  clear hW0 hW1
  refine (h1 _).mono ?_
  rintro e w2 ⟨rfl, hb2⟩
  go_wp2_with fail
  refine (h2 _).mono ?_
  rintro e w3 ⟨rfl, hb3⟩
  go_wp2_with fail
  refine (h3 _).mono ?_
  rintro e w4 ⟨rfl, hb4⟩
  clear h1 h2 h3
  obtain ⟨W5, hW5, hB5, hk5, hl5⟩ := box1 w4 #[.int .i64 1, .int .i64 3, .int .i64 10, .int .i64 60, .int .i64 24, .int .i64 2, .int .i64 0, .int .i64 0, .int .i64 1, .int .i64 5, .int .i64 55, .int .i64 24, .int .i64 2, .int .i64 0, .int .i64 1, .int .i64 2, .int .i64 0, .int .i64 50, .int .i64 24, .int .i64 2, .int .i64 0] 67
  obtain ⟨Wz, hWz, hBz, hkz, hlz⟩ := box1 W5 #[.slice none 0 0, .slice none 0 0, .slice none 0 0, .slice none 0 0] 29
  have cz := hkz.cell
  have fz := hkz.frozen
  obtain ⟨W6, hW6, hk6, hB6⟩ : ∃ W6, Wz.setCells W5.heap.size 0 [.slice (some ⟨W0.heap.size, 0, none⟩) 4 4, .slice (some ⟨w4.heap.size, 0, none⟩) 3 3, .slice none 0 0, .slice none 0 0] = W6 ∧ Blk W6 W5.heap.size 29 #[.slice (some ⟨W0.heap.size, 0, none⟩) 4 4, .slice (some ⟨w4.heap.size, 0, none⟩) 3 3, .slice none 0 0, .slice none 0 0] ∧ Ext W5 W6 :=
    ⟨_, rfl, hkz.setCells_ [.slice (some ⟨W0.heap.size, 0, none⟩) 4 4, .slice (some ⟨w4.heap.size, 0, none⟩) 3 3, .slice none 0 0, .slice none 0 0] 0, ext_setCells hBz (by omega) 0 _⟩
  simp only [World.setCells, Nat.zero_add, Nat.reduceAdd] at hW6
  obtain ⟨W7, hW7, hB7, hk7, hl7⟩ := box1 W6 #[.int .i64 2, .int .i64 3] 3
  have b24 := (hb2.trans hb3).trans hb4
  have b57 := (hB5.trans hB6).trans hB7
  have hk1' := (hk1.ext b24).ext b57
  have hk5' := (hk5.ext hB6).ext hB7
  have hkt' := ((hkt.ext hB1).ext b24).ext b57
  have hkq' := ((hkq.ext hB1).ext b24).ext b57
  have c6 := hk6.cell
  have c6' := (hk6.ext hB7).cell
  have f1 := hkt'.frozen
  have f2 := hkq'.frozen
  have l1 := hkt'.lt
  have l2 := hkq'.lt
  have c3 := hkt'.cell
  have hE7 := (((hB0.trans hB1).trans b24)).trans b57
  have hn1 : W0.heap.size ≠ w.heap.size := by omega
  have z0 := hB1.size
  have z1 := b24.size
  have z2 := b57.size
  have hn2 : w4.heap.size ≠ w.heap.size := by omega
  have hn3 : w.heap.size + 1 ≠ w.heap.size := by omega
  have hn4 : w.heap.size ≠ w.heap.size + 1 := by omega
  have hn5 : W0.heap.size ≠ w.heap.size + 1 := by omega
  have hn6 : w4.heap.size ≠ w.heap.size + 1 := by omega
  have hn7 : W6.heap.size ≠ w.heap.size := by have := hB5.size; have := hB6.size; omega
  have hn8 : W6.heap.size ≠ w.heap.size + 1 := by have := hB5.size; have := hB6.size; omega
  obtain ⟨w8, hw8, hz8, hq8, hE8, y1, y5, y7⟩ : ∃ w8, W7.setCells w.heap.size 0 [.slice (some ⟨W0.heap.size, 0, none⟩) 4 4, .slice (some ⟨w4.heap.size, 0, none⟩) 3 3, .slice none 0 0, .slice none 0 0] = w8 ∧ Blk w8 w.heap.size 29 #[.slice (some ⟨W0.heap.size, 0, none⟩) 4 4, .slice (some ⟨w4.heap.size, 0, none⟩) 3 3, .slice none 0 0, .slice none 0 0] ∧ Blk w8 (w.heap.size + 1) 31 _ ∧ Ext w w8 ∧ Blk w8 W0.heap.size 3 _ ∧ Blk w8 w4.heap.size 67 _ ∧ Blk w8 W6.heap.size 3 _ :=
    ⟨_, rfl, hkt'.setCells_ [.slice (some ⟨W0.heap.size, 0, none⟩) 4 4, .slice (some ⟨w4.heap.size, 0, none⟩) 3 3, .slice none 0 0, .slice none 0 0] 0, hkq'.fars _ hn3 0, ext_setCells hE7 (by omega) 0 _, hk1'.fars _ hn1 0, hk5'.fars _ hn2 0, hk7.fars _ hn7 0⟩
  simp only [World.setCells, Nat.zero_add, Nat.reduceAdd] at hw8
  have c4 := hq8.cell
  have f4 := hq8.frozen
  obtain ⟨w9, hw9, hz9, hq9, hE9, x1, x5, x7⟩ : ∃ w9, w8.setCells (w.heap.size + 1) 0 [.int .i64 0, .int .i64 3, .int .i64 16, .int .i64 0, .int .i64 100, .int .i64 0, .bool false] = w9 ∧ Blk w9 (w.heap.size + 1) 31 #[.int .i64 0, .int .i64 3, .int .i64 16, .int .i64 0, .int .i64 100, .int .i64 0, .bool false] ∧ Blk w9 w.heap.size 29 _ ∧ Ext w w9 ∧ Blk w9 W0.heap.size 3 _ ∧ Blk w9 w4.heap.size 67 _ ∧ Blk w9 W6.heap.size 3 _ :=
    ⟨_, rfl, hq8.setCells_ [.int .i64 0, .int .i64 3, .int .i64 16, .int .i64 0, .int .i64 100, .int .i64 0, .bool false] 0, hz8.fars _ hn4 0, ext_setCells hE8 (by omega) 0 _, y1.fars _ hn5 0, y5.fars _ hn6 0, y7.fars _ hn8 0⟩
  simp only [World.setCells, Nat.zero_add, Nat.reduceAdd] at hw9
  clear y1 y5 y7 hk1' hk5' hn1 hn2 hn3 hn4 hn5 hn6 hn7 hn8 z0 z1 z2
  go_wp2
  have c9 := hz9.cell
  have c10 := hq9.cell
  refine bodyPost_ret (v := .tuple #[.agg #[.slice (some ⟨W0.heap.size, 0, none⟩) 4 4, .slice (some ⟨w4.heap.size, 0, none⟩) 3 3, .slice none 0 0, .slice none 0 0], .agg #[.int .i64 0, .int .i64 3, .int .i64 16, .int .i64 0, .int .i64 100, .int .i64 0, .bool false], .slice (some ⟨W6.heap.size, 0, none⟩) 2 2]) (by rw [results_ccs rfl]; simp [asAddr, Result.andThen, c9, c10, go_sem]) rfl ?_
  exact ⟨_, _, _, rfl, ⟨rd_blk (l := [9, 9, 9, 9]) (e := 3) x1, rd_blk (l := exP.cons) (e := 67) (by rw [ex_cons]; exact x5), by simp [exP], by simp [exP], by simp [exP], by simp [exP]⟩, rd_blk (l := [2, 3]) (e := 3) x7, hE9⟩

end Go.Proofs.YtbgdglcnminbaaaGreat

namespace Go.Proofs.YtbgdglcnminbaaaGreat
set_option linter.unusedVariables false
set_option linter.unusedSimpArgs false
open Go.RowKit Go.Shelf

theorem ex_grow_call (Aq Ac Am : Option Addr) (w : World) (h : PlnRd w Aq 4 Ac 3 exP) (hm : Rd EInt w Am [2, 3]) :
    Calls Tryz.prog 7 #[.agg #[.slice Aq 4 4, .slice Ac 3 3, .slice none 0 0, .slice none 0 0], .agg #[.int .i64 0, .int .i64 3, .int .i64 16, .int .i64 0, .int .i64 100, .int .i64 0, .bool false], .slice Am 2 2] w fun e w' => ∃ A c B d, e = .returned (.tuple #[.slice A 3 c, .slice B 2 d, .int .i64 0]) ∧ Rd EBr w' A exB ∧ Rd EInt w' B [11, 13] ∧ Ext w w' := by
  have h1 := Grow_any Aq 4 Ac 3 exP none 0 [] none 0 0 exQ Am 2 [2, 3] 0 w h Rd.nil hm (by decide) (tabC_nil Aq 4 Ac 3 exP w h exP_chk)
  refine Calls.mono h1 (fun e w' hh => ?_)
  obtain ⟨hE, ⟨_, r, hr, hs⟩ | ⟨hn, _⟩⟩ := hh
  · obtain rfl := ex_grow hr
    obtain ⟨u, v, rfl, hu, hv, _⟩ := hs
    obtain ⟨A, c, rfl, hA⟩ := hu.form
    obtain ⟨B, d, rfl, hB⟩ := hv.form
    exact ⟨A, c, B, d, rfl, hA, hB, hE⟩
  · exact (hn ⟨rfl, exF, exM⟩).elim
theorem ex_brs : (EBr.all exB).toArray = #[.int .i64 1, .int .i64 5, .int .i64 6, .int .i64 8, .int .i64 (-1), .int .i64 2, .int .i64 8, .int .i64 9, .int .i64 11, .int .i64 0, .int .i64 0, .int .i64 10, .int .i64 11, .int .i64 13, .int .i64 0] := by kernel_rfl

set_option maxRecDepth 100000 in
set_option maxHeartbeats 4000000 in
theorem awake_any (w : World) :
    Calls Tryz.prog 6 #[] w fun e w' => e = .returned (.bool true) ∧ Ext w w' := by
  have hex := example_any w
  unfold Req.val at hex
  simp only [exQ] at hex
  go_enter Tryz.func6, Tryz.ntmps6
  go_wp2_with fail
  refine hex.mono ?_
  clear hex
  rintro e w1 ⟨Aq, Ac, Am, rfl, hp, hm, hb1⟩
  go_wp2_with fail
  refine (ex_grow_call _ _ _ _ (hp.ext ?hb) (hm.ext ?hb)).mono ?_
  case hb => exact ((Ext.refl _).alloc _).alloc _
  rintro e w2 ⟨A, c, B, d, rfl, hA, hB, hb2⟩
  have hE2 := hb1.trans ((((Ext.refl w1).alloc _).alloc _).trans hb2)
  obtain ⟨W3, hW3, hB3, hk3, hl3⟩ := box1 w2 #[.int .i64 1, .int .i64 5, .int .i64 6, .int .i64 8, .int .i64 (-1), .int .i64 2, .int .i64 8, .int .i64 9, .int .i64 11, .int .i64 0, .int .i64 0, .int .i64 10, .int .i64 11, .int .i64 13, .int .i64 0] 57
  have hR3 : Rd EBr W3 (some ⟨w2.heap.size, 0, none⟩) exB := rd_blk (l := exB) (e := 57) (by rw [ex_brs]; exact hk3)
  go_wp2_with fail
  refine (sameBrs_ex A (some ⟨w2.heap.size, 0, none⟩) c 3 exB W3 (hA.ext hB3) hR3 (by decide)).mono ?_
  rintro e w4 ⟨rfl, hb4⟩
  obtain ⟨W5, hW5, hB5, hk5, hl5⟩ := box1 w4 #[.int .i64 11, .int .i64 13] 3
  go_wp2_with fail
  refine (equalInt_ex B (some ⟨w4.heap.size, 0, none⟩) d 2 [11, 13] W5 (((hB.ext hB3).ext hb4).ext hB5) (rd_blk (l := [11, 13]) hk5) (by simp)).mono ?_
  rintro e w6 ⟨rfl, hb6⟩
  go_wp2
  go_ret
  exact ⟨rfl, (((hE2.trans hB3).trans hb4).trans hB5).trans hb6⟩

end Go.Proofs.YtbgdglcnminbaaaGreat

namespace Go.Proofs.YtbgdglcnminbaaaGreat
set_option linter.unusedVariables false
set_option linter.unusedSimpArgs false
open Go.RowKit Go.Shelf

/-- What is known of a plan that came in. -/
structure PlnIn (w : World) (Aq : Option Addr) (cq : Nat) (Ac : Option Addr) (cc : Nat) (p : Pln) : Prop where
  q : Rd EInt w Aq p.quo
  c : Rd ECon w Ac p.cons
  qc : p.quo.length ≤ cq
  ck : p.cons.length ≤ cc
  qm : cq ≤ maxLen
  cm : cc ≤ maxLen
theorem PlnIn.ext {w w' : World} {Aq : Option Addr} {cq : Nat} {Ac : Option Addr} {cc : Nat} {p : Pln} (h : PlnIn w Aq cq Ac cc p) (hb : Ext w w') : PlnIn w' Aq cq Ac cc p := ⟨h.q.ext hb, h.c.ext hb, h.qc, h.ck, h.qm, h.cm⟩
theorem PlnIn.le {w : World} {Aq : Option Addr} {cq : Nat} {Ac : Option Addr} {cc : Nat} {p : Pln} (h : PlnIn w Aq cq Ac cc p) : p.quo.length ≤ 9223372036854775807 ∧ p.cons.length ≤ 9223372036854775807 := by
  have h1 := h.qc
  have h2 := h.ck
  have h3 := h.qm
  have h4 := h.cm
  unfold maxLen at h3 h4
  omega
def Pln.gr27 (p : Pln) : Bool := decide (6 < p.quo.length ∨ 10 < p.cons.length)
def Pln.gr35 (p : Pln) (nb nh nm : Nat) : Bool := decide (6 < p.quo.length ∨ 10 < p.cons.length ∨ 30 < nb ∨ 20 < nh ∨ 20 < nm)
theorem PlnIn.rd {w : World} {Aq : Option Addr} {cq : Nat} {Ac : Option Addr} {cc : Nat} {p : Pln} (h : PlnIn w Aq cq Ac cc p) {nb nh nm : Nat} (hg : p.gr35 nb nh nm = false) : PlnRd w Aq cq Ac cc p ∧ nb ≤ 30 ∧ nh ≤ 20 ∧ nm ≤ 20 := by
  simp only [Pln.gr35, decide_eq_false_iff_not] at hg
  exact ⟨⟨h.q, h.c, by omega, by omega, h.qc, h.ck⟩, by omega, by omega, by omega⟩
theorem greatP_any (Aq : Option Addr) (cq : Nat) (Ac : Option Addr) (cc : Nat) (p : Pln) (w : World) (hq : p.quo.length ≤ 9223372036854775807) (hcn : p.cons.length ≤ 9223372036854775807) :
    Calls Tryz.prog 42 #[p.val Aq cq Ac cc] w fun e w' => e = .returned (.bool p.gr27) ∧ Ext w w' := by
  obtain ⟨W, hW, hB, hk, hlt⟩ := box1 w #[.slice Aq p.quo.length cq, .slice Ac p.cons.length cc] 25
  have hc := hk.cell
  have hl0 := hk.lt
  unfold Pln.val
  go_enter Tryz.func42, Tryz.ntmps42
  go_wp2
  all_goals go_ret
  all_goals refine ⟨ret_bool ?_, hB⟩
  all_goals clear hc hk hW hB hlt hl0
  all_goals rw [Bool.eq_iff_iff]
  all_goals simp_all [Pln.gr27]
  all_goals omega
theorem great27_any (Aq : Option Addr) (cq : Nat) (Ac : Option Addr) (cc : Nat) (p : Pln) (Al : Option Addr) (nb cb : Nat) (w : World) (hq : p.quo.length ≤ 9223372036854775807) (hcn : p.cons.length ≤ 9223372036854775807) (hb : nb ≤ 9223372036854775807) :
    Calls Tryz.prog 20 #[p.val Aq cq Ac cc, .slice Al nb cb] w fun e w' => e = .returned (.bool (p.gr27 || decide (30 < nb))) ∧ Ext w w' := by
  obtain ⟨W, hW, hB, hk, hlt⟩ := box1 w #[.slice Aq p.quo.length cq, .slice Ac p.cons.length cc] 25
  have hc := hk.cell
  have hl0 := hk.lt
  have hgp := greatP_any Aq cq Ac cc p W hq hcn
  unfold Pln.val at hgp ⊢
  cases hg : p.gr27
  case true =>
    rw [hg] at hgp
    go_enter Tryz.func20, Tryz.ntmps20
    go_wp2_with fail
    clear hW
    refine hgp.mono ?_
    rintro e w1 ⟨rfl, hb1⟩
    go_wp2
    go_ret
    exact ⟨rfl, hB.trans hb1⟩
  case false =>
    rw [hg] at hgp
    by_cases h30 : 30 < nb
    · have d : decide ((30 : Int) < (nb : Int)) = true := decide_eq_true (by omega)
      have HD := Lib.hid (decide_eq_true h30)
      go_enter Tryz.func20, Tryz.ntmps20
      go_wp2_with fail
      clear hW
      refine hgp.mono ?_
      rintro e w1 ⟨rfl, hb1⟩
      go_wp2
      go_ret
      exact ⟨by first | rw [HD.out]; rfl | simp [h30], hB.trans hb1⟩
    · have d : decide ((30 : Int) < (nb : Int)) = false := decide_eq_false (by omega)
      go_enter Tryz.func20, Tryz.ntmps20
      go_wp2_with fail
      clear hW
      refine hgp.mono ?_
      rintro e w1 ⟨rfl, hb1⟩
      go_wp2
      go_ret
      exact ⟨by simp [h30], hB.trans hb1⟩
theorem great35_any (Aq : Option Addr) (cq : Nat) (Ac : Option Addr) (cc : Nat) (p : Pln) (Al : Option Addr) (nb cb : Nat) (Ah : Option Addr) (nh ch : Nat) (Am : Option Addr) (nm cm : Nat) (w : World) (hq : p.quo.length ≤ 9223372036854775807) (hcn : p.cons.length ≤ 9223372036854775807) (hb : nb ≤ 9223372036854775807) (hh : nh ≤ 9223372036854775807) (hm : nm ≤ 9223372036854775807) :
    Calls Tryz.prog 5 #[.agg #[.slice Aq p.quo.length cq, .slice Ac p.cons.length cc, .slice Al nb cb, .slice Ah nh ch], .slice Am nm cm] w fun e w' => e = .returned (.bool (p.gr35 nb nh nm)) ∧ Ext w w' := by
  obtain ⟨W, hW, hB, hk, hlt⟩ := box1 w #[.slice Aq p.quo.length cq, .slice Ac p.cons.length cc, .slice Al nb cb, .slice Ah nh ch] 29
  have hc := hk.cell
  have hl0 := hk.lt
  have hgp := great27_any Aq cq Ac cc p Al nb cb W hq hcn hb
  have HG := Lib.hid (show p.gr35 nb nh nm = ((p.gr27 || decide (30 < nb)) || (decide (20 < nh) || decide (20 < nm))) by
    unfold Pln.gr35 Pln.gr27
    rw [Bool.eq_iff_iff]
    simp only [decide_eq_true_eq, Bool.or_eq_true]
    omega)
  generalize (p.gr27 || decide (30 < nb)) = g at *
  unfold Pln.val at hgp
  cases g
  case true =>
    go_enter Tryz.func5, Tryz.ntmps5
    go_wp2_with fail
    clear hW
    refine hgp.mono ?_
    rintro e w1 ⟨rfl, hb1⟩
    go_wp2
    go_ret
    exact ⟨by rw [HG.out]; rfl, hB.trans hb1⟩
  case false =>
    by_cases h20 : 20 < nh
    · have d : decide ((20 : Int) < (nh : Int)) = true := decide_eq_true (by omega)
      have d2 := Lib.hid (decide_eq_true h20)
      clear h20
      go_enter Tryz.func5, Tryz.ntmps5
      go_wp2_with fail
      clear hW
      refine hgp.mono ?_
      rintro e w1 ⟨rfl, hb1⟩
      have c1 := (hk.ext hb1).cell
      have c2 := (hk.ext hb1).lt
      go_wp2
      go_ret
      exact ⟨by rw [HG.out, d2.out]; rfl, hB.trans hb1⟩
    · have d : decide ((20 : Int) < (nh : Int)) = false := decide_eq_false (by omega)
      have d2 := Lib.hid (decide_eq_false h20)
      by_cases h21 : 20 < nm
      · have d3 : decide ((20 : Int) < (nm : Int)) = true := decide_eq_true (by omega)
        have d4 := Lib.hid (decide_eq_true h21)
        clear h20 h21
        go_enter Tryz.func5, Tryz.ntmps5
        go_wp2_with fail
        clear hW
        refine hgp.mono ?_
        rintro e w1 ⟨rfl, hb1⟩
        have c1 := (hk.ext hb1).cell
        have c2 := (hk.ext hb1).lt
        go_wp2
        go_ret
        exact ⟨by rw [HG.out, d2.out, d4.out]; rfl, hB.trans hb1⟩
      · have d3 : decide ((20 : Int) < (nm : Int)) = false := decide_eq_false (by omega)
        have d4 := Lib.hid (decide_eq_false h21)
        clear h20 h21
        go_enter Tryz.func5, Tryz.ntmps5
        go_wp2_with fail
        clear hW
        refine hgp.mono ?_
        rintro e w1 ⟨rfl, hb1⟩
        have c1 := (hk.ext hb1).cell
        have c2 := (hk.ext hb1).lt
        go_wp2
        go_ret
        exact ⟨by rw [HG.out, d2.out, d4.out]; rfl, hB.trans hb1⟩
end Go.Proofs.YtbgdglcnminbaaaGreat
