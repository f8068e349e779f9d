
/- Layer 24 (journey): the reference's start, arrivals, Foremost. -/
import Derived.Test.YtifopbkhflpbfaaGreatJrW2
namespace Go.Proofs.YtifopbkhflpbfaaGreat
set_option linter.unusedVariables false
open Go.RowKit Go.Shelf

theorem Rd.of_owns {α : Type} {E : Elt α} {w : World} {base : Nat} {e : TypeId} {v : Value} {l : List α} (h : Owns E w base e v l) : ∃ A c, v = .slice A l.length c ∧ Rd E w A l ∧ l.length ≤ c := by
  obtain ⟨A, c, rfl, hr⟩ := h.form
  exact ⟨A, c, rfl, hr, h.cap⟩
/-- The first k times at the start. -/
def startL (src t0 : Int) (k : Nat) : List Int := (List.range k).map fun i : Nat => if (i : Int) = src then t0 else -1
theorem startL_len (src t0 : Int) (k : Nat) : (startL src t0 k).length = k := by simp [startL]
theorem startL_succ (src t0 : Int) (k : Nat) : startL src t0 (k + 1) = startL src t0 k ++ [if (k : Int) = src then t0 else -1] := by simp [startL, List.range_succ]
theorem startL_eq {src t0 : Int} {N : Nat} (h0 : 0 ≤ src) (h1 : src < N) : startL src t0 N = lstart N src t0 := by
  apply gi_ext (by rw [startL_len, lstart_len])
  intro i i0 i1
  rw [startL_len] at i1
  rw [lstart_gi h0 h1 i0 i1]
  have h2 : i.toNat < N := by omega
  unfold gi startL
  rw [List.getD_eq_getElem?_getD]
  simp only [List.getElem?_map, List.getElem?_range h2, Option.map_some, Option.getD_some]
  rw [Int.toNat_of_nonneg i0]

set_option maxRecDepth 100000 in
set_option maxHeartbeats 4000000 in
theorem rstart_any (Aq : Option Addr) (cq : Nat) (Ac : Option Addr) (cc : Nat) (p : Pln) (src t0 : Int) (w : World) (hn16 : p.quo.length ≤ 16) :
    Calls Tryz.prog 72 #[p.val Aq cq Ac cc, .int .i64 src, .int .i64 t0] w fun e w' => ∃ v, e = .returned v ∧ Owns EInt w' w.heap.size 3 v (startL src t0 p.quo.length) ∧ Ext w w' := by
  obtain ⟨i0, hi0, hz0, hz1, hz2⟩ := info_parts info_int
  obtain ⟨W1, hW1, hB1, hk1, hl1⟩ := box1 w #[.slice Aq p.quo.length cq, .slice Ac p.cons.length cc] 25
  obtain ⟨W2, hW2, hB2, hkx2, hl2⟩ := box1 W1 #[] 3
  have hown0 := Owns.made (E := EInt) W1 W1.heap.size 3 (by omega)
  rw [hW2] at hown0
  have hk2 := hk1.ext hB2
  have hc2 := hk2.cell
  have hl3 := hk2.lt
  have hE2 := hB1.trans hB2
  unfold Pln.val
  go_enter Tryz.func72, Tryz.ntmps72
  go_wp2_with fail
  clear hW1 hW2
  go_loopg [7, 8] p.quo.length (fun q u i wr => ∃ j : Nat, j + q = p.quo.length ∧ i = .int .i64 j ∧ Owns EInt wr W1.heap.size 3 u (startL src t0 j) ∧ Ext W1 wr)
  case atStart => exact ⟨0, by omega, rfl, hown0, hB2⟩
  case round =>
    obtain ⟨j, hjq, rfl, hu, hN⟩ := hrel
    have hkr := hk1.ext hN
    have hcr := hkr.cell
    have hlr := hkr.lt
    have hjl : j ≤ p.quo.length := by omega
    have Hjq := Lib.hid hjq
    have Hlen := Lib.hid (startL_len src t0 j)
    have Hsu := Lib.hid (startL_succ src t0 j)
    clear hjq hc2
    have hsz := hN.size
    by_cases hlt : j < p.quo.length
    · by_cases hjs : (j : Int) = src
      · have hd : ((j : Int) == src) = true := by simpa using hjs
        have Hjs := Lib.hid hjs
        clear hjs
        go_wp2_with (at_builtin; refine wpList_push rfl (.tmp 20) (.tmp 22) _ (by rfl) W1.heap.size 3 i0 _ 8 Tryz.underlying22 hi0 hz0 hz1 hz2 (by rfl) u7 (by rfl) (hu.ext ((Ext.refl _).alloc _)) wr.heap.size t0 (by rfl) (Blk.new wr _ _) (by have := Hlen.out; simp only [maxLen]; omega) (by have := Hlen.out; omega) (by simp; omega) ?_; intro v6 w6 hv6 hg6 hat6)
        have hx6 := ext_grown (hN.alloc _) (hu.ext ((Ext.refl _).alloc _)) (Nat.le_refl _) hg6
        go_roundg (gk - 1)
        case measure => have := Hjq.out; omega
        case rel => exact ⟨j + 1, by have := Hjq.out; omega, by go_num, by rw [Hsu.out, if_pos Hjs.out]; exact hv6, hx6⟩
      · have hd : ((j : Int) == src) = false := by simpa using hjs
        have Hjs := Lib.hid hjs
        clear hjs
        go_wp2_with (at_builtin; refine wpList_push rfl (.tmp 24) (.tmp 25) _ (by rfl) W1.heap.size 3 i0 _ 8 Tryz.underlying22 hi0 hz0 hz1 hz2 (by rfl) u7 (by rfl) (hu.ext ((Ext.refl _).alloc _)) wr.heap.size (-1) (by rfl) (Blk.new wr _ _) (by have := Hlen.out; simp only [maxLen]; omega) (by have := Hlen.out; omega) (by simp; omega) ?_; intro v6 w6 hv6 hg6 hat6)
        have hx6 := ext_grown (hN.alloc _) (hu.ext ((Ext.refl _).alloc _)) (Nat.le_refl _) hg6
        go_roundg (gk - 1)
        case measure => have := Hjq.out; omega
        case rel => exact ⟨j + 1, by have := Hjq.out; omega, by go_num, by rw [Hsu.out, if_neg Hjs.out]; exact hv6, hx6⟩
    · have he : j = p.quo.length := by omega
      subst he
      go_wp2
      go_ret
      exact ⟨_, rfl, hu.mono (by omega), hB1.trans hN⟩

theorem rnds_len (cons : List Con) (n : Int) (m : List Int) : ∀ k, (rnds cons n m k).length = m.length
  | 0 => rfl
  | k + 1 => by
    show (rnd cons n _).length = _
    unfold rnd
    rw [rfold_len, rnds_len cons n m k]

set_option maxRecDepth 100000 in
set_option maxHeartbeats 4000000 in
theorem rarrivals_any (Aq : Option Addr) (cq : Nat) (Ac : Option Addr) (cc : Nat) (p : Pln) (src t0 n : Int) (w : World) (h : PlnRd w Aq cq Ac cc p) (hok : p.Ok) (ha : p.argF src t0 n = true) :
    Calls Tryz.prog 43 #[p.val Aq cq Ac cc, .int .i64 src, .int .i64 t0, .int .i64 n] w fun e w' => ∃ v, e = .returned v ∧ Owns EInt w' w.heap.size 3 v (p.arrs src t0 n) ∧ Ext w w' := by
  obtain ⟨W1, hW1, hB1, hk1, hl1⟩ := box1 w #[.slice Aq p.quo.length cq, .slice Ac p.cons.length cc] 25
  have ha2 := ha
  simp only [Pln.argF, decide_eq_true_eq] at ha2
  obtain ⟨a1, a2, a3, a4, a5, a6⟩ := ha2
  have hn16 := hok.n16
  have hst := rstart_any Aq cq Ac cc p src t0 W1 hn16
  rw [startL_eq a1 a2] at hst
  have hc1 := hk1.cell
  have hro := fun Am cm m w h hm hml => rround_any Aq cq Ac cc p n Am cm m w h hok ⟨a5, a6⟩ hm hml
  have Hlen := fun k => Lib.hid (rnds_len p.cons n (lstart p.quo.length src t0) k)
  have Hl0 := Lib.hid (lstart_len p.quo.length src t0)
  have Hst := Lib.hid hst
  have Hro := Lib.hid hro
  clear hst hro
  unfold Pln.val
  go_enter Tryz.func43, Tryz.ntmps43
  go_wp2_with fail
  clear hW1
  have hst := Hst.out
  unfold Pln.val at hst
  refine hst.mono ?_
  clear hst
  rintro e w2 ⟨v2, rfl, hv2, hb2⟩
  have hk2 := hk1.ext hb2
  have hE2 := hB1.trans hb2
  have hc2 := hk2.cell
  have hl2 := hk2.lt
  go_wp2_with fail
  go_loopg [9, 10] p.quo.length (fun q u i wr => ∃ j : Nat, j + q = p.quo.length ∧ i = .int .i64 j ∧ Owns EInt wr W1.heap.size 3 u (rnds p.cons n (lstart p.quo.length src t0) j) ∧ Ext w2 wr)
  case atStart => exact ⟨0, by omega, rfl, hv2, Ext.refl _⟩
  case round =>
    obtain ⟨j, hjq, rfl, hu, hN⟩ := hrel
    have hkr := hk2.ext hN
    have hcr := hkr.cell
    have hlr := hkr.lt
    have hjl : j ≤ p.quo.length := by omega
    have Hjq := Lib.hid hjq
    clear hjq hc2
    by_cases hlt : j < p.quo.length
    · obtain ⟨Am, cm, rfl, hR, hcap⟩ := Rd.of_owns hu
      have hro := Hro.out Am cm _ wr (h.ext (hE2.trans hN)) hR (by rw [(Hlen j).out, Hl0.out])
      unfold Pln.val at hro
      have hsz := (hb2.trans hN).size
      go_wp2_with fail
      refine hro.mono ?_
      clear hro
      rintro e w3 ⟨v3, rfl, hv3, hb3⟩
      go_wp2_with fail
      go_roundg (gk - 1)
      case measure => have := Hjq.out; omega
      case rel => exact ⟨j + 1, by have := Hjq.out; omega, by go_num, hv3.mono (by omega), hN.trans hb3⟩
    · have he : j = p.quo.length := by omega
      subst he
      go_wp2
      go_ret
      exact ⟨_, rfl, hu.mono (by omega), hE2.trans hN⟩

set_option maxRecDepth 100000 in
set_option maxHeartbeats 4000000 in
theorem rForemost_any (Aq : Option Addr) (cq : Nat) (Ac : Option Addr) (cc : Nat) (p : Pln) (src t0 n : Int) (w : World) (h : PlnRd w Aq cq Ac cc p) :
    Calls Tryz.prog 28 #[p.val Aq cq Ac cc, .int .i64 src, .int .i64 t0, .int .i64 n] w (RetA EInt w (p.forT src t0 n) (p.forE src t0 n)) := by
  obtain ⟨W, hW, hB, hk, hlt⟩ := box1 w #[.slice Aq p.quo.length cq, .slice Ac p.cons.length cc] 25
  have hc := hk.cell
  have hqm := h.qm
  have hW2 := Lib.hid hW
  have hpc := rpcheck_any Aq cq Ac cc p W (h.ext hB)
  by_cases h0 : p.chk = 0
  · have hok := Pln.ok_of h0
    cases ha : p.argF src t0 n
    · have HE := Lib.hid (show p.forE src t0 n = 2 by unfold Pln.forE; rw [if_pos h0, ha]; rfl)
      have HT := Lib.hid (show p.forT src t0 n = [] by unfold Pln.forT; rw [HE.out]; rfl)
      simp only [Pln.argF, decide_eq_false_iff_not] at ha
      have Ha := Lib.hid ha
      rw [h0] at hpc
      have H0 := Lib.hid h0
      clear ha h0
      unfold Pln.val at hpc ⊢
      go_enter Tryz.func28, Tryz.ntmps28
      go_wp2_with fail
      clear hW
      refine hpc.mono ?_
      rintro e w1 ⟨rfl, hb1⟩
      have hc1 := (hk.ext hb1).cell
      clear hpc
      go_wp2_with fail
      all_goals first
        | (go_ret2; rw [HE.out, HT.out]; exact ⟨some ⟨w1.heap.size, 0, none⟩, 0, rfl, (Owns.made (E := EInt) w1 w1.heap.size 3 (Nat.le_refl _)).rd, (hB.trans hb1).alloc _, Nat.le_refl _⟩)
        | (exfalso; apply Ha.out; (try simp_all); (try omega))
    · have HE := Lib.hid (show p.forE src t0 n = 0 by unfold Pln.forE; rw [if_pos h0, ha]; rfl)
      have HT := Lib.hid (show p.forT src t0 n = p.arrs src t0 n by unfold Pln.forT; rw [HE.out]; rfl)
      have ha2 := ha
      simp only [Pln.argF, decide_eq_true_eq] at ha2
      obtain ⟨a1, a2, a3, a4, a5, a6⟩ := ha2
      have Ha := Lib.hid ha
      rw [h0] at hpc
      have H0 := Lib.hid h0
      clear ha h0
      unfold Pln.val at hpc ⊢
      go_enter Tryz.func28, Tryz.ntmps28
      go_wp2_with fail
      clear hW
      refine hpc.mono ?_
      rintro e w1 ⟨rfl, hb1⟩
      have hc1 := (hk.ext hb1).cell
      clear hpc
      go_wp2_with fail
      refine (rarrivals_any Aq cq Ac cc p src t0 n w1 ((h.ext hB).ext hb1) hok Ha.out).mono ?_
      rintro e w2 ⟨v, rfl, hv, hb2⟩
      obtain ⟨A2, c2, rfl, hR2⟩ := hv.form
      go_wp2
      go_ret2
      rw [HE.out, HT.out]
      exact ⟨A2, c2, rfl, hR2, (hB.trans hb1).trans hb2, hv.cap⟩
  · have HE := Lib.hid (show p.forE src t0 n = 1 by unfold Pln.forE; rw [if_neg h0])
    have HT := Lib.hid (show p.forT src t0 n = [] by unfold Pln.forT; rw [HE.out]; rfl)
    have hd : (p.chk != 0) = true := by simpa using h0
    have H0 := Lib.hid h0
    clear h0
    unfold Pln.val at hpc ⊢
    go_enter Tryz.func28, Tryz.ntmps28
    go_wp2_with fail
    clear hW
    refine hpc.mono ?_
    rintro e w1 ⟨rfl, hb1⟩
    go_wp2
    go_ret2
    rw [HE.out, HT.out]
    exact ⟨some ⟨w1.heap.size, 0, none⟩, 0, rfl, (Owns.made (E := EInt) w1 w1.heap.size 3 (Nat.le_refl _)).rd, (hB.trans hb1).alloc _, Nat.le_refl _⟩

end Go.Proofs.YtifopbkhflpbfaaGreat
