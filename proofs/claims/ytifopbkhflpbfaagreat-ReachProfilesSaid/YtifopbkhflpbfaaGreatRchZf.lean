
/- Layer 26 (reach): the reference's Fastest. -/
import Derived.Test.YtifopbkhflpbfaaGreatRchZp
import Derived.Test.YtifopbkhflpbfaaGreatRchFp
import Derived.Laws.ResultCell
import Derived.BigRegion
namespace Go.Proofs.YtifopbkhflpbfaaGreat
set_option linter.unusedVariables false
set_option linter.unusedSimpArgs false
open Go.RowKit Go.Shelf
attribute [local go_sem] Oper.semAt_some

section
variable {p : Pln} {src dst n : Int}
theorem Chn.lvl_til (h : PA p src dst n) {l : List Stp} {t : Int} (hc : Chn p src dst n l t) {i : Nat} (hi : i < l.length) (h1 : i + 1 < (lvl l t).length) (h2 : i < (lvl l t).length) : (lvl l t)[i + 1].tm = l[i].til + 1 ∧ (lvl l t)[i].val = l[i].val := by
  have hn : l ≠ [] := fun e => by rw [e] at hi; simp at hi
  have hx := hc.next h i l[i] (List.getElem?_eq_getElem hi)
  rw [lvl_at hn hi]
  refine ⟨?_, rfl⟩
  by_cases e : i + 1 < l.length
  · rw [lvl_at hn e]
    exact hx.1 _ (List.getElem?_eq_getElem e)
  · have e2 : i + 1 = l.length := by omega
    have e3 : (lvl l t)[i + 1]? = (lvl l t)[l.length]? := by rw [e2]
    have hl : l.length < (lvl l t).length := by omega
    rw [List.getElem?_eq_getElem h1, List.getElem?_eq_getElem hl, lvl_last hn] at e3
    injection e3 with e3
    rw [e3]
    exact hx.2 e2
end
theorem bestS_take {l : List Stp} {i : Nat} (hi : i < l.length) (h1 : 1 ≤ i) : bestS (l.take (i + 1)) = bstp (bestS (l.take i)) l[i] := by
  rw [List.take_succ_eq_append_getElem hi, bestS_snoc]
  intro e
  have : (l.take i).length = 0 := by rw [e]; rfl
  rw [List.length_take] at this
  omega
theorem bestS_take1 {l : List Stp} (h : 0 < l.length) : bestS (l.take 1) = (l[0].til, l[0].val) := by
  cases l with
  | nil => simp at h
  | cons x l => rfl

set_option maxRecDepth 100000 in
set_option maxHeartbeats 4000000 in
theorem rFastest_any (Aq : Option Addr) (cq : Nat) (Ac : Option Addr) (cc : Nat) (p : Pln) (src dst n : Int) (w : World) (h : PlnRd w Aq cq Ac cc p) :
    Calls Tryz.prog 9 #[p.val Aq cq Ac cc, .int .i64 src, .int .i64 dst, .int .i64 n] w (FstR p src dst n w) := by
  obtain ⟨W, hW, hB, hk, hlt⟩ := box1 w #[.slice Aq p.quo.length cq, .slice Ac p.cons.length cc] 25
  obtain ⟨W2, hW2, hB2, hk2, hlt2⟩ := box1 W #[.int .i64 0, .int .i64 0] 33
  have hc := (hk.ext hB2).cell
  have hL := rProfile_any Aq cq Ac cc p src dst n W2 (h.ext (hB.trans hB2))
  unfold Pln.val at hL ⊢
  go_enter Tryz.func9, Tryz.ntmps9
  go_wp2_with fail
  clear hW hW2
  refine hL.mono ?_
  clear hL
  rintro e w1 ⟨A, c, out, b, er, rfl, hR, hx, hp⟩
  have hk3 := hk2.ext hx
  have c3 := hk3.cell
  have f3 := hk3.frozen
  have l3 := hk3.lt
  have hE1 := (hB.trans hB2).trans hx
  have hwW : w.heap.size ≤ W.heap.size := hB.size
  by_cases h0 : er = 0
  case' neg =>
    have HE := Lib.hid (show fstE out er = er by unfold fstE; rw [if_neg h0])
    have HB := Lib.hid (show fstB out b er = (0, 0) by unfold fstB; rw [if_neg h0])
    have d0 : (er != 0) = true := by simpa using h0
    clear h0
    obtain ⟨w7, hw7, hz7, hE7⟩ : ∃ w7, ((w1.setCell ⟨W.heap.size, 0, none⟩ (.int .i64 0)).setCell ⟨W.heap.size, 1, none⟩ (.int .i64 0)) = w7 ∧ Blk w7 W.heap.size 33 #[.int .i64 0, .int .i64 0] ∧ Ext w w7 :=
      ⟨_, rfl, (hk3.setCells_ [.int .i64 0, .int .i64 0] 0), (ext_setCells hE1 hB.size 0 [.int .i64 0, .int .i64 0])⟩
    go_wp2
    have hc7 := hz7.cell
    refine bodyPost_ret (v := .tuple #[.agg #[.int .i64 0, .int .i64 0], .int .i64 er]) (by rw [results_cell_tmp rfl]; simp [asAddr, Result.andThen, hc7, go_sem]) rfl ?_
    exact ⟨out, b, er, by rw [HE.out, HB.out], hE7, hp⟩
  subst h0
  by_cases h1 : out.length = 0
  case' pos =>
    obtain rfl : out = [] := List.eq_nil_of_length_eq_zero h1
    have HE := Lib.hid (show fstE [] 0 = 18 from rfl)
    have HB := Lib.hid (show fstB [] b 0 = (0, 0) from rfl)
    simp only [List.length_nil]
    clear h1
    obtain ⟨w7, hw7, hz7, hE7⟩ : ∃ w7, ((w1.setCell ⟨W.heap.size, 0, none⟩ (.int .i64 0)).setCell ⟨W.heap.size, 1, none⟩ (.int .i64 0)) = w7 ∧ Blk w7 W.heap.size 33 #[.int .i64 0, .int .i64 0] ∧ Ext w w7 :=
      ⟨_, rfl, (hk3.setCells_ [.int .i64 0, .int .i64 0] 0), (ext_setCells hE1 hB.size 0 [.int .i64 0, .int .i64 0])⟩
    go_wp2
    have hc7 := hz7.cell
    refine bodyPost_ret (v := .tuple #[.agg #[.int .i64 0, .int .i64 0], .int .i64 18]) (by rw [results_cell_tmp rfl]; simp [asAddr, Result.andThen, hc7, go_sem]) rfl ?_
    exact ⟨[], b, 0, by rw [HE.out, HB.out], hE7, hp⟩
  have hp2 := hp
  unfold LevP at hp2
  have hout : out ≠ [] := fun e => h1 (by rw [e]; rfl)
  split at hp2
  case' isFalse hrv => exact absurd hp2.2.1 hout
  rename_i hrv
  split at hp2
  case' isTrue hne => exact absurd hp2.2.1 hout
  rename_i hne
  rcases hp2 with ⟨he4, _⟩ | ⟨-, l, t, hch, hst, hll, rfl, rfl⟩
  · omega
  have hPA := Pln.rv_pa hrv hne
  have hln : l ≠ [] := fun e => hout (by unfold lvl; rw [if_pos e])
  have hlen := lvl_len (t := t) hln
  have hpos : 0 < l.length := List.length_pos_iff.2 hln
  have hvals := fun (i : Nat) (hi : i < l.length) => hch.vals hPA l[i] (List.getElem_mem hi)
  have HT := Lib.hid (fun (i : Nat) (hi : i < l.length) => hch.lvl_til hPA hi (by omega) (by omega))
  have HV := Lib.hid (fun (i : Nat) (hi : i < l.length) => (show 0 ≤ l[i].til ∧ l[i].til ≤ 1099511627776 ∧ 0 ≤ l[i].val ∧ l[i].val ≤ 1099511627776 by have := hvals i hi; omega))
  have HE := Lib.hid (show fstE (lvl l t) 0 = 0 by unfold fstE; rw [if_pos rfl, if_neg hout])
  have HB := Lib.hid (show fstB (lvl l t) (bestS l) 0 = bestS l by unfold fstB; rw [if_pos rfl, if_neg hout])
  have Hln := Lib.hid hlen
  obtain ⟨N, hN⟩ : ∃ N, l.length = N + 1 := ⟨l.length - 1, by omega⟩
  have hNm : N ≤ 1000 := by omega
  have HN := Lib.hid hN
  have HR := Lib.hid hR
  have e1 := HT.out 0 hpos
  have e2 := HV.out 0 hpos
  obtain ⟨bb, o, rfl, hbl, x0, x1⟩ := hR.lev (k := 0) (by omega)
  obtain ⟨b', o', hA, hbl', y0, y1⟩ := hR.lev (k := 1) (by omega)
  injection hA with hA
  injection hA with hA hA2
  subst hA hA2
  rw [e1.1] at y0
  rw [e1.2] at x1
  simp only [Nat.zero_mul, Nat.add_zero, Nat.one_mul, Nat.zero_add] at x0 x1 y0 y1
  have hb1 := Lib.hid (bestS_take1 hpos)
  rw [hlen, hN]
  have dN : ((N : Int) + 1 + 1 == 0) = false := by simp only [beq_eq_false_iff_ne]; omega
  clear h1 hout hrv hne hst hvals hN hR x0 y1 e1 hln
  generalize l[0].til = u0 at *
  generalize l[0].val = v0 at *
  go_wp2_with fail
  go_region
  obtain ⟨w2, hw2, hkb2, hx2⟩ : ∃ w2, (w1.alloc (.cells #[.int .i64 u0, .int .i64 v0] 33)).drew = w2 ∧ Blk w2 w1.heap.size 33 #[.int .i64 (bestS (l.take 1)).1, .int .i64 (bestS (l.take 1)).2] ∧ Ext w1 w2 :=
    ⟨_, rfl, by rw [hb1.out]; exact (Blk.new w1 _ _).ext ((Ext.refl _).drew), ((Ext.refl _).alloc _).drew⟩
  rw [hw2]
  clear hw2 y0 x1 c3 f3 hc
  go_wp2_with fail
  go_loopg [13] N (fun q k wr => ∃ i : Nat, i + q = N + 1 ∧ 1 ≤ i ∧ k = .int .i64 i ∧ Blk wr w1.heap.size 33 #[.int .i64 (bestS (l.take i)).1, .int .i64 (bestS (l.take i)).2] ∧ Ext w1 wr)
  case atStart => exact ⟨1, by omega, by omega, rfl, hkb2, hx2⟩
  case round =>
    obtain ⟨i, hiq, hi1, rfl, hkb, hxr⟩ := hrel
    have Hiq := Lib.hid hiq
    have hiN : i ≤ N + 1 := by omega
    clear hiq
    have hlb := hkb.lt
    have hbb : 0 ≤ (bestS (l.take i)).1 ∧ (bestS (l.take i)).1 ≤ 1099511627776 ∧ 0 ≤ (bestS (l.take i)).2 ∧ (bestS (l.take i)).2 ≤ 1099511627776 := by
      have hne : l.take i ≠ [] := fun e => by
        have : (l.take i).length = 0 := by rw [e]; rfl
        rw [List.length_take] at this
        omega
      obtain ⟨s, hs, e⟩ := (bestS_law hne).2
      obtain ⟨j, hj, rfl⟩ := List.mem_take_iff_getElem.1 hs
      rw [e]
      exact HV.out j (by omega)
    by_cases hlt2 : i < N + 1
    · have hil : i < l.length := by rw [HN.out]; exact hlt2
      have e1 := HT.out i hil
      have e2 := HV.out i hil
      have hR := HR.out.ext hxr
      obtain ⟨b', o', hA, hbl', x0, x1⟩ := hR.lev (k := i) (by omega)
      injection hA with hA
      injection hA with hA hA2
      subst hA hA2
      obtain ⟨b', o', hA, hbl'', y0, y1⟩ := hR.lev (k := i + 1) (by omega)
      injection hA with hA
      injection hA with hA hA2
      subst hA hA2
      rw [e1.1] at y0
      rw [e1.2] at x1
      have hbt : bestS (l.take (i + 1)) = if l[i].val - l[i].til < (bestS (l.take i)).2 - (bestS (l.take i)).1 then (l[i].til, l[i].val) else bestS (l.take i) := bestS_take hil hi1
      have Hbt := Lib.hid hbt
      clear hbt e1 x0 y1 hR
      generalize l[i].til = u at *
      generalize l[i].val = v at *
      generalize bestS (l.take i) = bi at *
      obtain ⟨b1, b2⟩ := bi
      dsimp only at hkb hbb Hbt
      have hi2 : (i : Int) ≤ 1000 := by omega
      go_wp2_with fail
      go_region
      obtain ⟨w5, hw5, hk5, hn5, hx5⟩ : ∃ w5, (wr.alloc (.cells #[.int .i64 u, .int .i64 v] 33)).drew = w5 ∧ Blk w5 w1.heap.size 33 #[.int .i64 b1, .int .i64 b2] ∧ Blk w5 wr.heap.size 33 #[.int .i64 u, .int .i64 v] ∧ Ext w1 w5 :=
        ⟨_, rfl, hkb.ext (((Ext.refl _).alloc _).drew), (Blk.new wr _ _).ext ((Ext.refl _).drew), (hxr.alloc _).drew⟩
      rw [hw5]
      clear hw5 x1 y0
      have hc5 := hk5.cell
      have hf5 := hk5.frozen
      have hcn := hn5.cell
      have hl5 := hk5.lt
      have hln5 := hn5.lt
      have hne5 : ¬ wr.heap.size = w1.heap.size := by omega
      by_cases hless : v - u < b2 - b1
      · have dl : decide (v - u < b2 - b1) = true := decide_eq_true hless
        have HX := Lib.hid (show bestS (l.take (i + 1)) = (u, v) by rw [Hbt.out, if_pos hless])
        clear hless
        obtain ⟨w6, hw6, hk6, hx6⟩ : ∃ w6, ((w5.setCell ⟨w1.heap.size, 0, none⟩ (.int .i64 u)).setCell ⟨w1.heap.size, 1, none⟩ (.int .i64 v)) = w6 ∧ Blk w6 w1.heap.size 33 #[.int .i64 u, .int .i64 v] ∧ Ext w1 w6 :=
          ⟨_, rfl, (hk5.setCells_ [.int .i64 u, .int .i64 v] 0), (ext_setCells hx5 (Nat.le_refl _) 0 [.int .i64 u, .int .i64 v])⟩
        go_wp2
        go_roundg (gk - 1)
        case measure => have := Hiq.out; omega
        case rel => exact ⟨i + 1, by have := Hiq.out; omega, by omega, by go_num, by rw [HX.out]; exact hk6, hx6⟩
      · have dl : decide (v - u < b2 - b1) = false := decide_eq_false hless
        have HX := Lib.hid (show bestS (l.take (i + 1)) = (b1, b2) by rw [Hbt.out, if_neg hless])
        clear hless
        go_wp2
        go_roundg (gk - 1)
        case measure => have := Hiq.out; omega
        case rel => exact ⟨i + 1, by have := Hiq.out; omega, by omega, by go_num, by rw [HX.out]; exact hk5, hx5⟩
    · have he : i = N + 1 := by omega
      subst he
      have htt : l.take (N + 1) = l := by rw [← HN.out]; exact List.take_length
      rw [htt] at hkb hbb
      clear htt hlt2 hiN Hiq
      have hkr := hk3.ext hxr
      have hcr := hkr.cell
      have hfr := hkr.frozen
      have hlr := hkr.lt
      have hcb := hkb.cell
      have hne5 : ¬ W.heap.size = w1.heap.size := by omega
      have hp3 := Lib.hid hp
      generalize hbe : bestS l = bi at *
      obtain ⟨b1, b2⟩ := bi
      dsimp only at hkb hbb hcb
      obtain ⟨w7, hw7, hz7, hE7⟩ : ∃ w7, ((wr.setCell ⟨W.heap.size, 0, none⟩ (.int .i64 b1)).setCell ⟨W.heap.size, 1, none⟩ (.int .i64 b2)) = w7 ∧ Blk w7 W.heap.size 33 #[.int .i64 b1, .int .i64 b2] ∧ Ext w w7 :=
        ⟨_, rfl, (hkr.setCells_ [.int .i64 b1, .int .i64 b2] 0), (ext_setCells (hE1.trans hxr) hB.size 0 [.int .i64 b1, .int .i64 b2])⟩
      go_wp2
      have hc7 := hz7.cell
      refine bodyPost_ret (v := .tuple #[.agg #[.int .i64 b1, .int .i64 b2], .int .i64 0]) (by rw [results_cell_tmp rfl]; simp [asAddr, Result.andThen, hc7, go_sem]) rfl ?_
      exact ⟨lvl l t, (b1, b2), 0, by rw [HE.out, HB.out], hE7, hp3.out⟩

end Go.Proofs.YtifopbkhflpbfaaGreat
