/- Layer 25 (latest): plan.With. -/
import Derived.Test.YtmpekjbhaekmpaaLatL5
import Derived.Shelf.Slices.Clone
import Derived.Deep.AppendLies
import Derived.Deep.CutRange
import Derived.Laws.ResultCell
namespace Go.Proofs.Ytmpekjbhaekmpaa
set_option linter.unusedVariables false
open Go.RowKit Go.Shelf

theorem Owns.made_con (w : World) (base : Nat) (e : TypeId) (hb : base ≤ w.heap.size) : Owns ECon (w.alloc (.cells #[] e)) base e (.slice (some ⟨w.heap.size, 0, none⟩) 0 0) [] := Owns.made w base e hb

set_option maxHeartbeats 1000000 in
theorem cloneCon_any (A : Option Addr) (c : Nat) (l : List Con) (w : World) (hA : Rd ECon w A l) (hmax : l.length ≤ 1000000) :
    Calls Try.prog 39 #[.slice A l.length c] w fun e w' => ∃ v, e = .returned v ∧ Owns ECon w' w.heap.size 45 v l ∧ Ext w w' := by
  obtain ⟨i0, hi0, hz0, hz1, hz2⟩ := info_parts info_con
  have q22 : ∀ (w : World) (a : Option Addr) (n c n' c' : Nat), (binOp .eql 23 (.slice a n c) (.slice none n' c')).run Try.prog w = .ok (.bool a.isNone) w := fun w a n c n' c' => Lib.run_eql_slice_nil w _ _ a n c n' c' Try.underlying23
  cases A with
  | none =>
    have hl : l = [] := by
      cases l with
      | nil => rfl
      | cons x l => obtain ⟨b, o, h, _⟩ := hA.at (k := 0) (by simp); cases h
    subst hl
    go_enter Try.func39, Try.ntmps39
    go_wp2
    go_ret
    exact ⟨_, rfl, Owns.none_ _ _, Ext.refl _⟩
  | some a =>
    go_enter Try.func39, Try.ntmps39
    go_wp2_with (at_builtin; refine wpList_cat rfl (.tmp 5) (.tmp 6) _ rfl w.heap.size 45 i0 _ 56 Try.underlying23 hi0 hz0 hz1 hz2 rfl (.slice (some ⟨w.heap.size, 0, none⟩) 0 0) rfl (Owns.made w w.heap.size _ (Nat.le_refl _)) c _ rfl rfl (hA.ext ((Ext.refl _).alloc _)) (by simp [maxLen]; omega) (by simp; omega) (by simp) ?_; intro v6 w6 hv6 hg6 hat6)
    go_ret
    exact ⟨_, rfl, hv6, ext_grown ((Ext.refl w).alloc _) (Owns.made (E := ECon) w w.heap.size _ (Nat.le_refl _)) (Nat.le_refl _) hg6⟩

theorem Owns.rd_set {α : Type} {E : Elt α} {w : World} {base g0 : Nat} {e : TypeId} {A : Option Addr} {n c : Nat} {l : List α} (h : Owns E w base e (.slice A n c) l) (hg : g0 < base) (o : Nat) (u : Value) : Rd E (w.setCell ⟨g0, o, none⟩ u) A l := by
  have hl := h.len
  have hr := h.rd
  rcases h.2 with ⟨e1, e2⟩ | ⟨g, cap, cur, e1, _⟩
  · injection e1 with e1 e3
    subst e1
    have hz : l = [] := List.eq_nil_of_length_eq_zero (by omega)
    subst hz
    exact Rd.nil
  · injection e1 with e1
    subst e1
    have hb := h.block (g := g) rfl
    exact Rd.keptg hr (grown_setCell (World.grownBy.refl w _) o u) (by omega)
theorem Owns.some_ {α : Type} {E : Elt α} {w : World} {base : Nat} {e : TypeId} {A : Option Addr} {n c : Nat} {l : List α} (h : Owns E w base e (.slice A n c) l) (hl : 0 < l.length) : ∃ b, A = some ⟨b, 0, none⟩ ∧ base ≤ b := by
  have hn := h.len
  rcases h.2 with ⟨e1, e2⟩ | ⟨g, cap, cur, e1, _⟩
  · injection e1 with e1 e3
    omega
  · injection e1 with e1
    subst e1
    exact ⟨g, rfl, (h.block (g := g) rfl).1⟩
def Pln.plus (p : Pln) (c : Con) : Pln := ⟨p.quo, p.cons ++ [c]⟩
def Pln.withE (p : Pln) (c : Con) : Int := if p.chk = 0 then (p.plus c).chk else 1
def Pln.withP (p : Pln) (c : Con) : Pln := if p.withE c = 0 then p.plus c else ⟨[], []⟩
/-- What With returns. -/
def WithP (p : Pln) (c : Con) (w : World) (e : Ending) (w' : World) : Prop :=
  ∃ A1 c1 A2 c2, e = .returned (.tuple #[(p.withP c).val A1 c1 A2 c2, .int .i64 (p.withE c)]) ∧ PlnRd w' A1 c1 A2 c2 (p.withP c) ∧ Ext w w'
/-- Behind the statement that adds the contact. -/
def WithR (w : World) (Aq : Option Addr) (cq : Nat) (p : Pln) (c : Con) (wx : World) : Prop :=
  ∃ A d, Blk wx w.heap.size 25 #[.slice Aq p.quo.length cq, .slice A (p.cons.length + 1) d] ∧ Blk wx (w.heap.size + 2) 25 #[.slice none 0 0, .slice none 0 0] ∧ Rd ECon wx A (p.cons ++ [c]) ∧ p.cons.length + 1 ≤ d ∧ Ext w wx ∧ ∃ b, A = some ⟨b, 0, none⟩ ∧ w.heap.size + 2 < b

set_option maxRecDepth 100000 in
set_option maxHeartbeats 4000000 in
theorem With_any (Aq : Option Addr) (cq : Nat) (Ac : Option Addr) (cc : Nat) (p : Pln) (c : Con) (w : World) (h : PlnRd w Aq cq Ac cc p) :
    Calls Try.prog 23 #[p.val Aq cq Ac cc, c.val] w (WithP p c w) := by
  obtain ⟨i0, hi0, hz0, hz1, hz2⟩ := info_parts info_con
  obtain ⟨W0, hW0, hB0, hk0, hkc0, hlt0, hltc0⟩ := box2 w #[.slice Aq p.quo.length cq, .slice Ac p.cons.length cc] c.cells 25 45
  have hs0 : W0.heap.size = w.heap.size + 2 := by rw [← hW0]; simp
  obtain ⟨W, hW, hB, hz, hltz⟩ := box1 W0 #[.slice none 0 0, .slice none 0 0] 25
  rw [hs0] at hz hltz
  simp only [Con.cells] at hW0 hkc0
  have hk := hk0.ext hB
  have hkc := hkc0.ext hB
  have hck := pcheck_any Aq cq Ac cc p W ((h.ext hB0).ext hB)
  have hc := hk.cell
  have hcc := hkc.cell
  have hE := hB0.trans hB
  clear hk0 hkc0 hlt0 hltc0 hB0 hB
  by_cases h0 : p.chk = 0
  · rw [h0] at hck
    unfold Pln.val at hck ⊢
    unfold Con.val
    go_enter Try.func23, Try.ntmps23
    go_wp2_with fail
    clear hW hW0
    refine hck.mono ?_
    clear hck
    rintro e w1 ⟨rfl, hb1⟩
    have hk1 := hk.ext hb1
    have hkc1 := hkc.ext hb1
    have hz1' := hz.ext hb1
    replace hc := hk1.cell
    replace hcc := hkc1.cell
    go_upto_region 3 with (fail)
    go_cut [] from 11 to 17 (fun wx => WithR w Aq cq p c wx)
    case first =>
      have hR1 := (((h.c.ext hE).ext hb1))
      have hl1 := hk1.lt
      have hlc1 := hkc1.lt
      have hE1 := hE.trans hb1
      have hm64 := (Pln.ok_of h0).m64
      have hsz1 := hE1.size
      go_region_law (first
        | (refine step_push (by rfl) _ _ _ (by rfl) w1.heap.size 45 i0 _ 56 Try.underlying23 hi0 hz0 hz1 hz2 (by rfl) v2 (by rfl) (hv2.ext ((Ext.refl _).alloc _)) w2.heap.size c (by rfl) (Blk.new w2 _ _) (by simp only [maxLen]; omega) (by omega) (by simp; omega) ?_; intro v6 w6 hv6 hg6 hat6; have hx6 := ext_grown (hx2.alloc _) (hv2.ext ((Ext.refl _).alloc _)) (Nat.le_refl _) hg6; have hf6 := (hk1.ext hx6).frozen; have hl6 := (hk1.ext hx6).lt; have hc6 := (hk1.ext hx6).cell; obtain ⟨A6, d6, rfl, hR6⟩ := hv6.form; have hd6 := hv6.cap)
        | (refine step_push (by rfl) _ _ _ (by rfl) w1.heap.size 45 i0 _ 56 Try.underlying23 hi0 hz0 hz1 hz2 (by rfl) v2 (by rfl) hv2 w1.heap.size c (by rfl) ((Blk.new w1 _ _).ext ((Ext.refl _).drew.trans hb2)) (by simp only [maxLen]; omega) (by omega) hxs ?_; intro v6 w6 hv6 hg6 hat6; have hx6 := ext_grown hx2 hv2 (Nat.le_refl _) hg6; have hf6 := (hk1.ext hx6).frozen; have hl6 := (hk1.ext hx6).lt; have hc6 := (hk1.ext hx6).cell; obtain ⟨A6, d6, rfl, hR6⟩ := hv6.form; have hd6 := hv6.cap)
        | (go_simp; go_at_call 39; refine (cloneCon_any Ac cc p.cons _ (by first | exact hR1 | exact hR1.ext ((Ext.refl _).drew) | exact hR1.ext (((Ext.refl _).alloc _).drew)) (by omega)).mono ?_; rintro e w2 ⟨v2, rfl, hv2, hb2⟩; replace hv2 : Owns ECon w2 w1.heap.size 45 v2 p.cons := hv2.mono (by first | exact Nat.le_refl _ | (simp; done)); have hx2 : Ext w1 w2 := (by first | exact (Ext.refl _).drew.trans hb2 | exact ((Ext.refl _).alloc _).drew.trans hb2); have hc2 := (hkc1.ext hx2).cell; have hcp2 := (hk1.ext hx2).cell; have hfp2 := (hk1.ext hx2).frozen; have hxs := hx2.size; have hl2 := (hk1.ext hx2).lt))
      all_goals
        go_wp2_with fail
        go_meet
        have hk6 := hk1.ext hx6
        have hz6 := hz1'.ext hx6
        have hE6 := hE1.trans hx6
        simp only [List.length_append, List.length_cons, List.length_nil] at hd6
        exact ⟨A6, d6, hk6.set_ 1 _, hz6.keptg (grown_setCell (World.grownBy.refl w6 _) _ _) (by omega), hv6.rd_set hl1 _ _, by omega, hE6.setCell (Nat.le_refl _) _, by obtain ⟨b, hb, hb2⟩ := hv6.some_ (by simp); have := hz1'.lt; exact ⟨b, hb, by omega⟩⟩
    case rest =>
      obtain ⟨A, d, r1, r2, r3, r4, r5, bA, rfl, hbA⟩ := hcut
      have hcw := r1.cell
      have hrd : PlnRd wc Aq cq (some ⟨bA, 0, none⟩) d (p.plus c) := by
        have hok := Pln.ok_of h0
        have hm := hok.m64
        exact ⟨h.q.ext r5, r3, h.qm, by show (p.cons ++ [c]).length ≤ _; simp; omega, h.qc, by show (p.cons ++ [c]).length ≤ _; simp; exact r4⟩
      have hck2 := pcheck_any Aq cq (some ⟨bA, 0, none⟩) d (p.plus c) wc hrd
      have hlen : (p.plus c).cons.length = p.cons.length + 1 := by simp [Pln.plus]
      unfold Pln.val at hck2
      rw [hlen] at hck2
      have hl3 := r1.lt
      have hl4 := r2.lt
      by_cases h1 : (p.plus c).chk = 0
      · rw [h1] at hck2
        go_wp2_with fail
        refine hck2.mono ?_
        clear hck2
        rintro e w5 ⟨rfl, hb5⟩
        have hz5 := r2.ext hb5
        have hk5 := r1.ext hb5
        have hc5 := hk5.cell
        have hcz5 := hz5.cell
        have hfz5 := hz5.frozen
        have hl5 := hk5.lt
        have hlz5 := hz5.lt
        have he : p.withE c = 0 := by unfold Pln.withE; rw [if_pos h0]; exact h1
        have hp : p.withP c = p.plus c := by unfold Pln.withP; rw [if_pos he]
        go_wp2

        obtain ⟨w7, hw7, hz7, hg7, hE7⟩ : ∃ w7, (w5.setCell ⟨w.heap.size + 2, 0, none⟩ (.slice Aq p.quo.length cq)).setCell ⟨w.heap.size + 2, 1, none⟩ (.slice (some ⟨bA, 0, none⟩) (p.cons.length + 1) d) = w7 ∧ Blk w7 (w.heap.size + 2) 25 #[(.slice Aq p.quo.length cq), (.slice (some ⟨bA, 0, none⟩) (p.cons.length + 1) d)] ∧ w5.grownBy w7 (some (w.heap.size + 2)) ∧ Ext w w7 :=
          ⟨_, rfl, (hz5.set_ 0 _).set_ 1 _, grown_setCell (grown_setCell (World.grownBy.refl w5 _) _ _) _ _, ((r5.trans hb5).setCell (by simp) _).setCell (by simp) _⟩
        rw [hw7]
        have hc7 := hz7.cell
        refine bodyPost_ret (v := .tuple #[.agg #[(.slice Aq p.quo.length cq), (.slice (some ⟨bA, 0, none⟩) (p.cons.length + 1) d)], .int .i64 0]) (by rw [results_cell_tmp rfl]; simp [asAddr, Result.andThen, hc7, go_sem]) rfl ?_
        refine ⟨Aq, cq, some ⟨bA, 0, none⟩, d, ?_, ?_, hE7⟩
        · rw [hp, he]; unfold Pln.val; rw [hlen]; rfl
        · rw [hp]
          exact ⟨h.q.ext hE7, (r3.ext hb5).keptg hg7 (by omega), hrd.qm, hrd.cm, hrd.qc, hrd.cc⟩
      · have hd : ((p.plus c).chk != 0) = true := by simpa using h1
        go_wp2_with fail
        refine hck2.mono ?_
        clear hck2
        rintro e w5 ⟨rfl, hb5⟩
        have hz5 := r2.ext hb5
        have hcz5 := hz5.cell
        have hfz5 := hz5.frozen
        have hlz5 := hz5.lt
        have he : p.withE c = (p.plus c).chk := by unfold Pln.withE; rw [if_pos h0]
        have hp : p.withP c = ⟨[], []⟩ := by unfold Pln.withP; rw [he, if_neg h1]
        go_wp2
        obtain ⟨w7, hw7, hz7, hg7, hE7⟩ : ∃ w7, (w5.setCell ⟨w.heap.size + 2, 0, none⟩ (.slice none 0 0)).setCell ⟨w.heap.size + 2, 1, none⟩ (.slice none 0 0) = w7 ∧ Blk w7 (w.heap.size + 2) 25 #[(.slice none 0 0), (.slice none 0 0)] ∧ w5.grownBy w7 (some (w.heap.size + 2)) ∧ Ext w w7 :=
          ⟨_, rfl, (hz5.set_ 0 _).set_ 1 _, grown_setCell (grown_setCell (World.grownBy.refl w5 _) _ _) _ _, ((r5.trans hb5).setCell (by simp) _).setCell (by simp) _⟩
        rw [hw7]
        have hc7 := hz7.cell
        refine bodyPost_ret (v := .tuple #[.agg #[(.slice none 0 0), (.slice none 0 0)], .int .i64 (p.plus c).chk]) (by rw [results_cell_tmp rfl]; simp [asAddr, Result.andThen, hc7, go_sem]) rfl ?_
        refine ⟨none, 0, none, 0, ?_, ?_, hE7⟩
        · rw [hp, he]; rfl
        · rw [hp]; exact ⟨Rd.nil, Rd.nil, by simp, by simp, by simp, by simp⟩
  · have hd : (p.chk != 0) = true := by simpa using h0
    have he : p.withE c = 1 := by unfold Pln.withE; rw [if_neg h0]
    have hp : p.withP c = ⟨[], []⟩ := by unfold Pln.withP; rw [he, if_neg (by omega)]
    unfold Pln.val at hck ⊢
    unfold Con.val
    go_enter Try.func23, Try.ntmps23
    go_wp2_with fail
    clear hW hW0
    refine hck.mono ?_
    clear hck
    rintro e w1 ⟨rfl, hb1⟩
    have hz5 := hz.ext hb1
    have hcz5 := hz5.cell
    have hfz5 := hz5.frozen
    have hlz5 := hz5.lt
    go_wp2
    obtain ⟨w7, hw7, hz7, hg7, hE7⟩ : ∃ w7, (w1.setCell ⟨w.heap.size + 2, 0, none⟩ (.slice none 0 0)).setCell ⟨w.heap.size + 2, 1, none⟩ (.slice none 0 0) = w7 ∧ Blk w7 (w.heap.size + 2) 25 #[(.slice none 0 0), (.slice none 0 0)] ∧ w1.grownBy w7 (some (w.heap.size + 2)) ∧ Ext w w7 :=
      ⟨_, rfl, (hz5.set_ 0 _).set_ 1 _, grown_setCell (grown_setCell (World.grownBy.refl w1 _) _ _) _ _, ((hE.trans hb1).setCell (by simp) _).setCell (by simp) _⟩
    rw [hw7]
    have hc7 := hz7.cell
    refine bodyPost_ret (v := .tuple #[.agg #[(.slice none 0 0), (.slice none 0 0)], .int .i64 1]) (by rw [results_cell_tmp rfl]; simp [asAddr, Result.andThen, hc7, go_sem]) rfl ?_
    refine ⟨none, 0, none, 0, ?_, ?_, hE7⟩
    · rw [hp, he]; rfl
    · rw [hp]; exact ⟨Rd.nil, Rd.nil, by simp, by simp, by simp, by simp⟩

end Go.Proofs.Ytmpekjbhaekmpaa
