
/- Layer 35 (multicast): branches, bookings, holds as plain data. · Layer 35 (multicast): the walks of the two CheckRequest. · Layer 35 (multicast): times, start, the members. -/
import Derived.Test.YtmaengcmhopmbaaGreatPlnA
import Derived.Test.YtmaengcmhopmbaaGreatPlnW
import Derived.Test.YtmaengcmhopmbaaGreatRows
import Derived.Laws.ResultCell
namespace Go.Proofs.YtmaengcmhopmbaaGreat
set_option linter.unusedVariables false
open Go.RowKit

/-- A branch of a tree. -/
structure Br where
  con : Int
  beg : Int
  en : Int
  arr : Int
  par : Int
def Br.cells (b : Br) : List Value := [.int .i64 b.con, .int .i64 b.beg, .int .i64 b.en, .int .i64 b.arr, .int .i64 b.par]
def Br.val (b : Br) : Value := .agg #[.int .i64 b.con, .int .i64 b.beg, .int .i64 b.en, .int .i64 b.arr, .int .i64 b.par]
def Br.hop (b : Br) : Hp := ⟨b.con, b.beg, b.en, b.arr⟩
def EBr : Elt Br := ⟨Br.cells, 5, fun _ => rfl, by omega, fun x u hu => by simp [Br.cells] at hu; rcases hu with h | h | h | h | h <;> subst h <;> rfl⟩
theorem Rd.br {w : World} {A : Option Addr} {l : List Br} (h : Rd EBr w A l) {k : Nat} (hk : k < l.length) : ∃ b o, A = some ⟨b, o, none⟩ ∧ b < w.heap.size ∧
    w.cell? ⟨b, o + k * 5, none⟩ = some (.int .i64 l[k].con) ∧ w.cell? ⟨b, o + k * 5 + 1, none⟩ = some (.int .i64 l[k].beg) ∧ w.cell? ⟨b, o + k * 5 + 2, none⟩ = some (.int .i64 l[k].en) ∧ w.cell? ⟨b, o + k * 5 + 3, none⟩ = some (.int .i64 l[k].arr) ∧ w.cell? ⟨b, o + k * 5 + 4, none⟩ = some (.int .i64 l[k].par) := by
  obtain ⟨b, o, rfl, hb, hc⟩ := h.at hk
  exact ⟨b, o, rfl, hb, hc 0 _ rfl, hc 1 _ rfl, hc 2 _ rfl, hc 3 _ rfl, hc 4 _ rfl⟩

/-- Whether a plan and a request are valid. -/
def fineR (p : Pln) (q : Req) : Bool := decide (p.chk = 0) && q.okB p.quo.length
theorem fineR_of {p : Pln} {q : Req} (h : fineR p q = true) : p.chk = 0 ∧ q.okB p.quo.length = true := by
  simpa [fineR] using h
/-- Whether a list is one of members. -/
def memsB (N : Nat) (src : Int) (l : List Int) : Bool := decide (∀ (i : Nat) (h : i < l.length), 0 ≤ l[i] ∧ l[i] < N ∧ l[i] ≠ src ∧ ∀ (_ : 0 < i), l[i - 1] < l[i])

end Go.Proofs.YtmaengcmhopmbaaGreat

namespace Go.Proofs.YtmaengcmhopmbaaGreat
set_option linter.unusedVariables false
set_option linter.unusedSimpArgs false
open Go.RowKit Go.Shelf

/-- What a CheckRequest returns: 0 exactly where the request is valid. -/
def ReqR (p : Pln) (q : Req) (w : World) (e : Ending) (w' : World) : Prop := ∃ k : Int, e = .returned (.int .i64 k) ∧ (k = 0 ↔ fineR p q = true) ∧ Ext w w'

set_option maxRecDepth 100000 in
set_option maxHeartbeats 4000000 in
theorem tCheckRequest_any (Aq : Option Addr) (cq : Nat) (Ac : Option Addr) (cc : Nat) (p : Pln) (q : Req) (w : World) (h : PlnRd w Aq cq Ac cc p) :
    Calls Tryz.prog 5 #[p.val Aq cq Ac cc, q.val] w (ReqR p q w) := by
  obtain ⟨W, hW, hB, hk, hk2, hlt, hlt2⟩ := box2 w #[.slice Aq p.quo.length cq, .slice Ac p.cons.length cc] q.cells 25 27
  simp only [Req.cells] at hW hk2
  have hc := hk.cell
  have hc2 := hk2.cell
  have hn := h.qm
  have hpc := pcheck_any Aq cq Ac cc p W (h.ext hB)
  by_cases h0 : p.chk = 0
  · rw [h0] at hpc
    have HF := Lib.hid (show fineR p q = q.okB p.quo.length by simp [fineR, h0])
    clear h0
    cases hq : q.okB p.quo.length
    · have hq2 := hq
      simp only [Req.okB, decide_eq_false_iff_not] at hq2
      have Hq := Lib.hid hq2
      have Hq3 := Lib.hid hq
      clear hq hq2
      unfold Pln.val at hpc ⊢
      unfold Req.val
      go_enter Tryz.func5, Tryz.ntmps5
      go_wp2_with fail
      clear hW
      refine hpc.mono ?_
      clear hpc
      rintro e w1 ⟨rfl, hb1⟩
      have hk21 := hk2.ext hb1
      have hc2 := hk21.cell
      have hl2 := hk21.lt
      go_wp2
      all_goals go_ret
      all_goals first
        | (refine ⟨_, rfl, ?_, hB.trans hb1⟩; rw [HF.out, Hq3.out]; constructor <;> intro h9 <;> (first | cases h9 | (exfalso; revert h9; decide)); done)
        | (exfalso; apply Hq.out; clear hc hc2 hk hk2 hk21 hB hb1 Hq Hq3 HF h; (try simp_all); (try omega); done)
    · have hq2 := hq
      simp only [Req.okB, decide_eq_true_eq] at hq2
      obtain ⟨a1, a2, a3, a4, a5, a6, a7, a8, a9, a10, a11, a12⟩ := hq2
      have ad : (q.src == q.dst) = false := by simpa using a5
      have Hq3 := Lib.hid hq
      clear hq a5
      unfold Pln.val at hpc ⊢
      unfold Req.val
      go_enter Tryz.func5, Tryz.ntmps5
      go_wp2_with fail
      clear hW
      refine hpc.mono ?_
      clear hpc
      rintro e w1 ⟨rfl, hb1⟩
      have hk21 := hk2.ext hb1
      have hc2 := hk21.cell
      have hl2 := hk21.lt
      go_wp2
      go_ret
      exact ⟨0, rfl, by rw [HF.out, Hq3.out]; simp, hB.trans hb1⟩
  · have hd : (p.chk != 0) = true := by simpa using h0
    have HF := Lib.hid (show fineR p q = false by simp [fineR, h0])
    clear h0
    unfold Pln.val at hpc ⊢
    unfold Req.val
    go_enter Tryz.func5, Tryz.ntmps5
    go_wp2_with fail
    clear hW
    refine hpc.mono ?_
    clear hpc
    rintro e w1 ⟨rfl, hb1⟩
    go_wp2
    go_ret
    exact ⟨1, rfl, by rw [HF.out]; decide, hB.trans hb1⟩

end Go.Proofs.YtmaengcmhopmbaaGreat

namespace Go.Proofs.YtmaengcmhopmbaaGreat
set_option linter.unusedVariables false
set_option linter.unusedSimpArgs false
open Go.RowKit
attribute [local go_sem] Oper.semAt_some

theorem results_cell1 {fn : Func} {p : Tmp} {ty : TypeId} (h : fn.results = #[.cell p ty]) (tmps : Array Value) (P : Program) (w : World) :
    (results fn tmps).run P w = ((asAddr (tmps.getD p undef)).run P w).andThen fun a w₁ => (loadVar ty a).run P w₁ := by
  simp only [results, h]
  simp [Sem.run_bind, Result.andThen]
/-- The cells of an array of numbers. -/
def arrV (l : List Int) : Array Value := (l.map (Value.int .i64)).toArray
theorem arrV_get {l : List Int} {i : Nat} (h : i < l.length) : (arrV l)[i]? = some (.int .i64 (gi l (i : Int))) := by
  unfold arrV
  rw [gi_get h]
  simp [h]
theorem arrV_set {l : List Int} {i : Nat} (v : Int) : (arrV l).setIfInBounds i (.int .i64 v) = arrV (l.set i v) := by
  unfold arrV
  apply Array.ext_getElem?
  intro k
  simp only [Array.getElem?_setIfInBounds, List.getElem?_toArray, List.size_toArray, List.length_map, List.getElem?_map, List.getElem?_set]
  by_cases e : i = k
  · subst e
    by_cases h : i < l.length <;> simp [h]
  · simp [e]
theorem arrV_size (l : List Int) : (arrV l).size = l.length := by simp [arrV]
theorem arrSets_all {l l' : List Int} (h : l'.length = l.length) : arrSets (arrV l) 0 (l'.map (Value.int .i64)) = arrV l' := by
  apply Array.ext_getElem?
  intro q
  rw [arrSets_get _ _ _ _ (by rw [arrV_size, List.length_map]; omega), List.length_map]
  by_cases hq : q < l'.length
  · rw [if_pos (by omega), Nat.sub_zero]
    simp [arrV]
  · rw [if_neg (by omega), Array.getElem?_eq_none (by rw [arrV_size]; omega), Array.getElem?_eq_none (by rw [arrV_size]; omega)]
/-- A whole array is written. -/
theorem Blk.whole {w : World} {g : Nat} {t : TypeId} {l : List Int} (h : Blk w g t (arrV l)) {l' : List Int} (hl : l'.length = l.length) : Blk (w.setCells g 0 (l'.map (Value.int .i64))) g t (arrV l') := by
  have := h.setCells_ (l'.map (Value.int .i64)) 0
  rw [arrSets_all hl] at this
  exact this
theorem list16 : ∀ {l : List Int}, l.length = 16 → ∃ x0 x1 x2 x3 x4 x5 x6 x7 x8 x9 x10 x11 x12 x13 x14 x15, l = [x0, x1, x2, x3, x4, x5, x6, x7, x8, x9, x10, x11, x12, x13, x14, x15]
  | [x0, x1, x2, x3, x4, x5, x6, x7, x8, x9, x10, x11, x12, x13, x14, x15], _ => ⟨_, _, _, _, _, _, _, _, _, _, _, _, _, _, _, _, rfl⟩
/-- The times of a tree without branches. -/
def startL (q : Req) : List Int := (List.replicate 16 (-1)).set q.src.toNat q.ready
theorem startL_len (q : Req) : (startL q).length = 16 := by simp [startL]

theorem fillA_step {j : Nat} (h : j < 16) (v u : Int) : (List.replicate j v ++ List.replicate (16 - j) u).set j v = List.replicate (j + 1) v ++ List.replicate (16 - (j + 1)) u := by
  match j, h with
  | 0, _ | 1, _ | 2, _ | 3, _ | 4, _ | 5, _ | 6, _ | 7, _ | 8, _ | 9, _ | 10, _ | 11, _ | 12, _ | 13, _ | 14, _ | 15, _ => rfl
  | j + 16, h => omega
theorem fillA_len {j : Nat} (h : j ≤ 16) (v u : Int) : (List.replicate j v ++ List.replicate (16 - j) u).length = 16 := by
  simp; omega

end Go.Proofs.YtmaengcmhopmbaaGreat
