/- Layer 35 (multicast): branches, bookings, holds as plain data. · Layer 35 (multicast): the walks of the two CheckRequest. · Layer 35 (multicast): times, start, the members. -/
import Derived.Test.YtemkpimngbbpkaaGreatRows
import Derived.Laws.ResultCell
import Derived.Test.YtemkpimngbbpkaaGreatQs01
import Derived.Test.YtemkpimngbbpkaaGreatQs03
namespace Go.Proofs.YtemkpimngbbpkaaGreat
set_option linter.unusedVariables false
set_option linter.unusedSimpArgs false
section
open Go.RowKit
structure Br where
 con : Int
 beg : Int
 en : Int
 arr : Int
 par : Int
def Br.cells (b : Br) : List Value := [.int .i64 b.con, .int .i64 b.beg, .int .i64 b.en, .int .i64 b.arr, .int .i64 b.par]
def EBr : Elt Br := ⟨Br.cells, 5, fun _ => rfl, by omega, fun x u hu => by simp [Br.cells] at hu; rcases hu with h | h | h | h | h <;> subst h <;> rfl⟩
theorem Rd.br {w : World} {A : Option Addr} {l : List Br} (h : Rd EBr w A l) {k : Nat} (hk : k < l.length) : ∃ b o, A = some ⟨b, o, none⟩ /\ b < w.heap.size /\
 w.cell? ⟨b, o + k * 5, none⟩ = some (.int .i64 l[k].con) /\ w.cell? ⟨b, o + k * 5 + 1, none⟩ = some (.int .i64 l[k].beg) /\ w.cell? ⟨b, o + k * 5 + 2, none⟩ = some (.int .i64 l[k].en) /\ w.cell? ⟨b, o + k * 5 + 3, none⟩ = some (.int .i64 l[k].arr) /\ w.cell? ⟨b, o + k * 5 + 4, none⟩ = some (.int .i64 l[k].par) := by
 obtain ⟨b, o, rfl, hb, hc⟩ := h.at hk
 exact ⟨b, o, rfl, hb, hc 0 _ rfl, hc 1 _ rfl, hc 2 _ rfl, hc 3 _ rfl, hc 4 _ rfl⟩
def fineR (p : Pln) (q : Req) : Bool := decide (p.chk = 0) && q.okB p.quo.length
theorem fineR_of {p : Pln} {q : Req} (h : fineR p q = true) : p.chk = 0 /\ q.okB p.quo.length = true := by
 simpa [fineR] using h
def memsB (N : Nat) (src : Int) (l : List Int) : Bool := decide (∀ (i : Nat) (h : i < l.length), 0 <= l[i] /\ l[i] < N /\ l[i] ≠ src /\ ∀ (_ : 0 < i), l[i - 1] < l[i])
end
section
open Go.RowKit Go.Shelf
def ReqR (p : Pln) (q : Req) (w : World) (e : Ending) (w' : World) : Prop := ∃ k : Int, e = .returned (.int .i64 k) /\ (k = 0 ↔ fineR p q = true) /\ Ext w w'
set_option maxRecDepth 100000 in
set_option maxHeartbeats 4000000 in
theorem tCheckRequest_any (Aq : Option Addr) (cq : Nat) (Ac : Option Addr) (cc : Nat) (p : Pln) (q : Req) (w : World) (h : PlnRd w Aq cq Ac cc p) :
 Calls Tryz.prog 79 #[p.val Aq cq Ac cc, q.val] w (ReqR p q w) := by
 obtain ⟨W, hW, hB, hk, hk2, hlt, hlt2⟩ := box2 w #[.slice Aq p.quo.length cq, .slice Ac p.cons.length cc] q.cells 68 85
 simp only [Req.cells] at hW hk2
 have hc := hk.cell
 have hc2 := hk2.cell
 have hn := h.qm
 have hpc := pcheck_any Aq cq Ac cc p W (h.ext hB)
 by_cases h0 : p.chk = 0
 ·rw [h0] at hpc
  have HF := Lib.hid (show fineR p q = q.okB p.quo.length by simp [fineR, h0])
  clear h0
  cases hq : q.okB p.quo.length
  ·have hq2 := hq
   simp only [Req.okB, decide_eq_false_iff_not] at hq2
   have Hq := Lib.hid hq2
   have Hq3 := Lib.hid hq
   clear hq hq2
   unfold Pln.val at hpc ⊢
   unfold Req.val
   go_enter Tryz.func79, Tryz.ntmps79
   go_wp2_with fail
   clear hW
   refine hpc.mono ?_
   clear hpc
   rintro e w1 ⟨rfl, hb1⟩
   have hk21 := hk2.ext hb1
   have hc2 := hk21.cell
   have hl2 := hk21.lt
   go_wp2
   all_goals go_ret
   all_goals first
    | (refine ⟨_, rfl, ?_, hB.trans hb1⟩; rw [HF.out, Hq3.out]; constructor <;> intro h9 <;> (first | cases h9 | (exfalso; revert h9; decide)); done)
    | (exfalso; apply Hq.out; clear hc hc2 hk hk2 hk21 hB hb1 Hq Hq3 HF h; (try simp_all); (try omega); done)
  ·have hq2 := hq
   simp only [Req.okB, decide_eq_true_eq] at hq2
   obtain ⟨a1, a2, a3, a4, a5, a6, a7, a8, a9, a10, a11, a12⟩ := hq2
   have ad : (q.src == q.dst) = false := by simpa using a5
   have Hq3 := Lib.hid hq
   clear hq a5
   unfold Pln.val at hpc ⊢
   unfold Req.val
   go_enter Tryz.func79, Tryz.ntmps79
   go_wp2_with fail
   clear hW
   refine hpc.mono ?_
   clear hpc
   rintro e w1 ⟨rfl, hb1⟩
   have hk21 := hk2.ext hb1
   have hc2 := hk21.cell
   have hl2 := hk21.lt
   go_wp2
   go_ret
   exact ⟨0, rfl, by rw [HF.out, Hq3.out]; simp, hB.trans hb1⟩
 ·have hd : (p.chk != 0) = true := by simpa using h0
  have HF := Lib.hid (show fineR p q = false by simp [fineR, h0])
  clear h0
  unfold Pln.val at hpc ⊢
  unfold Req.val
  go_enter Tryz.func79, Tryz.ntmps79
  go_wp2_with fail
  clear hW
  refine hpc.mono ?_
  clear hpc
  rintro e w1 ⟨rfl, hb1⟩
  go_wp2
  go_ret
  exact ⟨1, rfl, by rw [HF.out]; decide, hB.trans hb1⟩
end
section
open Go.RowKit
attribute [local go_sem] Oper.semAt_some
theorem results_cell1 {fn : Func} {p : Tmp} {ty : TypeId} (h : fn.results = #[.cell p ty]) (tmps : Array Value) (P : Program) (w : World) :
 (results fn tmps).run P w = ((asAddr (tmps.getD p undef)).run P w).andThen fun a w₁ => (loadVar ty a).run P w₁ := by
 simp only [results, h]
 simp [Sem.run_bind, Result.andThen]
def arrV (l : List Int) : Array Value := (l.map (Value.int .i64)).toArray
theorem arrV_get {l : List Int} {i : Nat} (h : i < l.length) : (arrV l)[i]? = some (.int .i64 (gi l (i : Int))) := by
 unfold arrV
 rw [gi_get h]
 simp [h]
theorem arrV_set {l : List Int} {i : Nat} (v : Int) : (arrV l).setIfInBounds i (.int .i64 v) = arrV (l.set i v) := by
 unfold arrV
 apply Array.ext_getElem?
 intro k
 simp only [Array.getElem?_setIfInBounds, List.getElem?_toArray, List.size_toArray, List.length_map, List.getElem?_map, List.getElem?_set]
 by_cases e : i = k
 ·subst e
  by_cases h : i < l.length <;> simp [h]
 ·simp [e]
theorem arrV_size (l : List Int) : (arrV l).size = l.length := by simp [arrV]
theorem arrSets_all {l l' : List Int} (h : l'.length = l.length) : arrSets (arrV l) 0 (l'.map (Value.int .i64)) = arrV l' := by
 apply Array.ext_getElem?
 intro q
 rw [arrSets_get _ _ _ _ (by rw [arrV_size, List.length_map]; omega), List.length_map]
 by_cases hq : q < l'.length
 ·rw [if_pos (by omega), Nat.sub_zero]
  simp [arrV]
 ·rw [if_neg (by omega), Array.getElem?_eq_none (by rw [arrV_size]; omega), Array.getElem?_eq_none (by rw [arrV_size]; omega)]
theorem Blk.whole {w : World} {g : Nat} {t : TypeId} {l : List Int} (h : Blk w g t (arrV l)) {l' : List Int} (hl : l'.length = l.length) : Blk (w.setCells g 0 (l'.map (Value.int .i64))) g t (arrV l') := by
 have := h.setCells_ (l'.map (Value.int .i64)) 0
 rw [arrSets_all hl] at this
 exact this
theorem list16 : ∀ {l : List Int}, l.length = 16 -> ∃ x0 x1 x2 x3 x4 x5 x6 x7 x8 x9 x10 x11 x12 x13 x14 x15, l = [x0, x1, x2, x3, x4, x5, x6, x7, x8, x9, x10, x11, x12, x13, x14, x15]
 | [x0, x1, x2, x3, x4, x5, x6, x7, x8, x9, x10, x11, x12, x13, x14, x15], _ => ⟨_, _, _, _, _, _, _, _, _, _, _, _, _, _, _, _, rfl⟩
def startL (q : Req) : List Int := (List.replicate 16 (-1)).set q.src.toNat q.ready
theorem startL_len (q : Req) : (startL q).length = 16 := by simp [startL]
theorem fillA_step {j : Nat} (h : j < 16) (v u : Int) : (List.replicate j v ++ List.replicate (16 - j) u).set j v = List.replicate (j + 1) v ++ List.replicate (16 - (j + 1)) u := by
 match j, h with
 | 0, _ | 1, _ | 2, _ | 3, _ | 4, _ | 5, _ | 6, _ | 7, _ | 8, _ | 9, _ | 10, _ | 11, _ | 12, _ | 13, _ | 14, _ | 15, _ => rfl
 | j + 16, h => omega
theorem fillA_len {j : Nat} (h : j <= 16) (v u : Int) : (List.replicate j v ++ List.replicate (16 - j) u).length = 16 := by
 simp; omega
set_option maxRecDepth 100000 in
set_option maxHeartbeats 4000000 in
theorem start_any (q : Req) (w : World) (h0 : 0 <= q.src) (h1 : q.src < 16) :
 Calls Tryz.prog 81 #[q.val] w fun e w' => e = .returned (.agg (arrV (startL q))) /\ Ext w w' := by
 obtain ⟨W, hW, hB, hk, hlt⟩ := box1 w q.cells 85
 simp only [Req.cells] at hW hk
 have hc := hk.cell
 obtain ⟨W2, hW2, hB2, hk2, hlt2⟩ := box1 W (arrV (List.replicate 16 0)) 175
 obtain ⟨W3, hW3, hB3, hk3, hlt3⟩ := box1 W2 (arrV (List.replicate 16 0)) 175
 simp only [arrV, List.replicate, List.map_cons, List.map_nil] at hW2 hW3
 unfold Req.val
 go_enter Tryz.func81, Tryz.ntmps81
 go_wp2_with fail
 go_loopg [5] 16 (fun q k wr => ∃ j : Nat, j + q = 16 /\ k = .int .i64 j /\ Blk wr W2.heap.size 175 (arrV (List.replicate j (-1) ++ List.replicate (16 - j) 0)) /\ Ext W2 wr)
 case atStart => exact ⟨0, by omega, rfl, hk3, hB3⟩
 case round =>
  obtain ⟨j, hjq, rfl, hkb, hx⟩ := hrel
  have Hjq := Lib.hid hjq
  have hjN : j <= 16 := by omega
  clear hjq
  have hfl := fillA_len hjN (-1) 0
  by_cases hlt2 : j < 16
  ·have hcell := (hkb.cell j).trans (arrV_get (by rw [hfl]; exact hlt2))
   have hfz := hkb.frozen
   have hgl := hkb.lt
   have hset := hkb.set_ j (.int .i64 (-1))
   rw [arrV_set, fillA_step hlt2] at hset
   have hxs : Ext W2 (wr.setCell ⟨W2.heap.size, j, none⟩ (.int .i64 (-1))) := hx.setCell (Nat.le_refl _) _
   clear hfl
   generalize gi _ (j : Int) = y at hcell
   go_wp2
   go_roundg (gk - 1)
   case measure => have := Hjq.out; omega
   case rel => exact ⟨j + 1, by have := Hjq.out; omega, by go_num, hset, hxs⟩
  ·have he : j = 16 := by omega
   subst he
   have hsn : q.src.toNat < 16 := by omega
   have hcell := (hkb.cell q.src.toNat).trans (arrV_get (by rw [hfl]; exact hsn))
   have hfz := hkb.frozen
   have hgl := hkb.lt
   have hset := hkb.set_ q.src.toNat (.int .i64 q.ready)
   rw [arrV_set] at hset
   have hsl : (List.replicate 16 (-1) ++ List.replicate (16 - 16) 0).set q.src.toNat q.ready = startL q := by simp [startL]
   rw [hsl] at hset
   have hE2 := (hB.trans hB2).trans hx
   have hk4 := (hk.ext hB2).ext hx
   have hkr := hk2.ext hx
   obtain ⟨w5, hw5, hk5, hx5, hkr5⟩ : ∃ w5, wr.setCell ⟨W2.heap.size, q.src.toNat, none⟩ (.int .i64 q.ready) = w5 /\ Blk w5 W2.heap.size 175 (arrV (startL q)) /\ Ext w w5 /\ Blk w5 W.heap.size 175 (arrV (List.replicate 16 0)) :=
    ⟨_, rfl, hset, hE2.setCell (by have := hB.size; have := hB2.size; show w.heap.size <= W2.heap.size; omega) _, hkr.far (by simp; omega) _⟩
   obtain ⟨x0, x1, x2, x3, x4, x5, x6, x7, x8, x9, x10, x11, x12, x13, x14, x15, hxs⟩ := list16 (startL_len q)
   have Hxs := Lib.hid hxs
   rw [hxs] at hk5
   have hk5' : Blk w5 W2.heap.size 175 #[.int .i64 x0, .int .i64 x1, .int .i64 x2, .int .i64 x3, .int .i64 x4, .int .i64 x5, .int .i64 x6, .int .i64 x7, .int .i64 x8, .int .i64 x9, .int .i64 x10, .int .i64 x11, .int .i64 x12, .int .i64 x13, .int .i64 x14, .int .i64 x15] := hk5
   have hkr5' : Blk w5 W.heap.size 175 #[.int .i64 0, .int .i64 0, .int .i64 0, .int .i64 0, .int .i64 0, .int .i64 0, .int .i64 0, .int .i64 0, .int .i64 0, .int .i64 0, .int .i64 0, .int .i64 0, .int .i64 0, .int .i64 0, .int .i64 0, .int .i64 0] := hkr5
   replace hc := hk4.cell
   have hl4 := hk4.lt
   have hc5 := hk5'.cell
   have hl5 := hk5'.lt
   have hcr5 := hkr5'.cell
   have hfr5 := hkr5'.frozen
   have hlr5 := hkr5'.lt
   have hne1 : ¬ W2.heap.size = w.heap.size := by have := hB.size; have := hB2.size; omega
   have hne2 : ¬ W2.heap.size = W.heap.size := by have := hB2.size; omega
   obtain ⟨w6, hw6, hk6, hx6⟩ : ∃ w6, w5.setCells W.heap.size 0 ([x0, x1, x2, x3, x4, x5, x6, x7, x8, x9, x10, x11, x12, x13, x14, x15].map (Value.int .i64)) = w6 /\ Blk w6 W.heap.size 175 (arrV [x0, x1, x2, x3, x4, x5, x6, x7, x8, x9, x10, x11, x12, x13, x14, x15]) /\ Ext w w6 :=
    ⟨_, rfl, hkr5.whole rfl, ext_setCells hx5 hB.size 0 _⟩
   simp only [List.map_cons, List.map_nil, World.setCells, Nat.zero_add, Nat.reduceAdd] at hw6
   have hk6' : Blk w6 W.heap.size 175 #[.int .i64 x0, .int .i64 x1, .int .i64 x2, .int .i64 x3, .int .i64 x4, .int .i64 x5, .int .i64 x6, .int .i64 x7, .int .i64 x8, .int .i64 x9, .int .i64 x10, .int .i64 x11, .int .i64 x12, .int .i64 x13, .int .i64 x14, .int .i64 x15] := hk6
   clear hk6
   generalize gi _ ((q.src.toNat : Nat) : Int) = y at hcell
   clear hxs hk5 hkr5 hset hsl hkr hk2 hk3 hkb hfl
   go_wp2
   have hc6 := hk6'.cell
   refine bodyPost_ret (v := .agg #[.int .i64 x0, .int .i64 x1, .int .i64 x2, .int .i64 x3, .int .i64 x4, .int .i64 x5, .int .i64 x6, .int .i64 x7, .int .i64 x8, .int .i64 x9, .int .i64 x10, .int .i64 x11, .int .i64 x12, .int .i64 x13, .int .i64 x14, .int .i64 x15]) (by rw [results_cell1 rfl]; simp [asAddr, Result.andThen, hc6, go_sem]) rfl ?_
   exact ⟨by rw [Hxs.out]; rfl, hx6⟩
end
end Go.Proofs.YtemkpimngbbpkaaGreat
