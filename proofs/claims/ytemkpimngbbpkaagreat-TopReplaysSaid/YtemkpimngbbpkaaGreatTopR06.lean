/- Layer 24 (journey): the walks of hop (the program's and the reference's). · Layer 24 (journey): the reference's round, start, arrivals. · Layer 24 (journey): the walk of the frontier's next. · Layer 24 (journey): the iterator over the hops from a node. · A function whose plain loop holds a range over a function: the blocks for the deferred calls pile up. · Security: what makes a bundle valid: the small checks. · Security: block.Check. · Security: bundle.checkId. · Update: what makes a change valid. -/
import Derived.Laws.ResultCell
import Derived.Laws.IdiomCopy
import Derived.Deep.AppendLies
import Derived.Deep.RegionLaw
import Derived.Deep.CutRange
import Derived.BigRegion
import Derived.Laws.StructEq
import Derived.LaidEql
import Derived.Test.YtemkpimngbbpkaaGreatTopR01
import Derived.Test.YtemkpimngbbpkaaGreatTopR02
import Derived.Test.YtemkpimngbbpkaaGreatTopR03
import Derived.Test.YtemkpimngbbpkaaGreatTopR05
namespace Go.Proofs.YtemkpimngbbpkaaGreat
set_option linter.unusedVariables false
set_option linter.unusedSimpArgs false
set_option linter.unusedVariables false
open Go.RowKit Go.Shelf

end Go.Proofs.YtemkpimngbbpkaaGreat

namespace Go.Proofs.YtemkpimngbbpkaaGreat
set_option linter.unusedVariables false
set_option linter.unusedSimpArgs false
set_option linter.unusedVariables false
open Go.RowKit Go.Shelf

theorem info_int : (Tryz.prog.info? 3).map (fun i => (i.zero, i.size, i.bytes)) = some (some (.int .i64 0), 1, 8) := by kernel_rfl
/-- Behind the statement 'h, ok := hop(..)'. -/
def HopR (w : World) (i : Nat) (c : Con) (t n : Int) (h ok : Value) (w' : World) : Prop :=
  ∃ B, h = .pointer (some ⟨B, 0, none⟩) ∧ w.heap.size ≤ B ∧ ok = .bool (decide (earr c t n ≠ -1)) ∧ Blk w' B 94 (hopR i c t n).cells.toArray ∧ Ext w w'

theorem HopR.no {w w' : World} {i : Nat} {c : Con} {t n : Int} {h ok : Value} (he : earr c t n = -1) (hr : HopR w i c t n h ok w') :
    ∃ B, h = .pointer (some ⟨B, 0, none⟩) ∧ ok = .bool false ∧ Ext w w' := by
  obtain ⟨B, h1, h2, h3, h4, h5⟩ := hr
  exact ⟨B, h1, by rw [h3]; simp [he], h5⟩

end Go.Proofs.YtemkpimngbbpkaaGreat

namespace Go.Proofs.YtemkpimngbbpkaaGreat
set_option linter.unusedVariables false
set_option linter.unusedSimpArgs false
set_option linter.unusedVariables false
open Go.RowKit Go.Shelf

def EBool : Elt Bool := ⟨fun x => [.bool x], 1, fun _ => rfl, by omega, fun x u hu => by simp at hu; subst hu; rfl⟩
theorem Owns.gb {w : World} {base : Nat} {e : TypeId} {g n c : Nat} {m : List Bool} (h : Owns EBool w base e (.slice (some ⟨g, 0, none⟩) n c) m) {i : Int} (hi : i.toNat < m.length) :
    w.cell? ⟨g, i.toNat, none⟩ = some (.bool (gb m i)) := by
  obtain ⟨cur, hb, _, _, hc⟩ := h.there_
  have h1 := hc i.toNat hi 0 (by decide)
  have e1 : i.toNat * EBool.size + 0 = i.toNat := by show i.toNat * 1 + 0 = _; omega
  rw [e1] at h1
  rw [hb.cell, h1]
  simp [EBool, Go.Proofs.YtemkpimngbbpkaaGreat.gb, hi]
/-- The node with the least time that was not left, among the first k. -/
def IsNext (m : List Int) (lf : List Bool) (k : Nat) (r : Int) : Prop :=
  (r = -1 ∧ ∀ i : Int, 0 ≤ i → i < k → gb lf i = false → 0 ≤ gi m i → False) ∨
  (0 ≤ r ∧ r < k ∧ gb lf r = false ∧ 0 ≤ gi m r ∧ ∀ i : Int, 0 ≤ i → i < k → gb lf i = false → 0 ≤ gi m i → gi m r ≤ gi m i)
theorem IsNext.zero (m : List Int) (lf : List Bool) : IsNext m lf 0 (-1) := .inl ⟨rfl, fun i h0 h1 => by omega⟩
theorem IsNext.skip {m : List Int} {lf : List Bool} {k : Nat} {r : Int} (h : IsNext m lf k r) (hs : gi m (k : Int) < 0 ∨ gb lf (k : Int) = true) : IsNext m lf (k + 1) r := by
  have key : ∀ i : Int, 0 ≤ i → i < ((k + 1 : Nat) : Int) → gb lf i = false → 0 ≤ gi m i → i < k := fun i h0 h1 h2 h3 => by
    apply Classical.byContradiction
    intro hh
    have e : i = k := by omega
    subst e
    rcases hs with hs | hs
    · omega
    · rw [hs] at h2; cases h2
  rcases h with ⟨h1, h2⟩ | ⟨h1, h2, h3, h4, h5⟩
  · exact .inl ⟨h1, fun i a b c d => h2 i a (key i a b c d) c d⟩
  · exact .inr ⟨h1, by omega, h3, h4, fun i a b c d => h5 i a (key i a b c d) c d⟩
theorem IsNext.keep {m : List Int} {lf : List Bool} {k : Nat} {r : Int} (h : IsNext m lf k r) (hr : 0 ≤ r) (hs : gi m r ≤ gi m (k : Int)) : IsNext m lf (k + 1) r := by
  rcases h with ⟨h1, h2⟩ | ⟨h1, h2, h3, h4, h5⟩
  · omega
  · refine .inr ⟨h1, by omega, h3, h4, fun i a b c d => ?_⟩
    by_cases e : i = k
    · rw [e]; exact hs
    · exact h5 i a (by omega) c d
theorem IsNext.take {m : List Int} {lf : List Bool} {k : Nat} {r : Int} (h : IsNext m lf k r) (h0 : 0 ≤ gi m (k : Int)) (hl : gb lf (k : Int) = false) (hs : r < 0 ∨ gi m (k : Int) < gi m r) : IsNext m lf (k + 1) (k : Int) := by
  refine .inr ⟨by omega, by omega, hl, h0, fun i a b c d => ?_⟩
  by_cases e : i = k
  · rw [e]; exact Int.le_refl _
  · rcases h with ⟨h1, h2⟩ | ⟨h1, h2, h3, h4, h5⟩
    · exact (h2 i a (by omega) c d).elim
    · have := h5 i a (by omega) c d; omega
theorem IsNext.rng {m : List Int} {lf : List Bool} {k : Nat} {r : Int} (h : IsNext m lf k r) : -1 ≤ r ∧ r < k := by
  rcases h with ⟨h1, h2⟩ | ⟨h1, h2, h3, h4, h5⟩ <;> omega

end Go.Proofs.YtemkpimngbbpkaaGreat

namespace Go.Proofs.YtemkpimngbbpkaaGreat
set_option linter.unusedVariables false
set_option linter.unusedSimpArgs false
set_option linter.unusedVariables false
open Go.RowKit Go.Shelf
attribute [local go_sem] Oper.semAt_some

/-- What a round keeps: all below n but the block g. -/
structure KpX (n g : Nat) (W W' : World) : Prop where
  os : W'.os = W.os
  tape : W'.tape = W.tape
  output : W'.output = W.output
  size : W.heap.size ≤ W'.heap.size
  block : ∀ k, k < n → k ≠ g → W'.heap[k]? = W.heap[k]?
theorem KpX.refl (n g : Nat) (W : World) : KpX n g W W := ⟨rfl, rfl, rfl, Nat.le_refl _, fun _ _ _ => rfl⟩
theorem KpX.trans {n g : Nat} {A B C : World} (h : KpX n g A B) (k : KpX n g B C) : KpX n g A C :=
  ⟨k.os.trans h.os, k.tape.trans h.tape, k.output.trans h.output, Nat.le_trans h.size k.size, fun i h1 h2 => (k.block i h1 h2).trans (h.block i h1 h2)⟩
theorem KpX.of_ext {n g : Nat} {W W' : World} (hn : n ≤ W.heap.size) (h : Ext W W') : KpX n g W W' :=
  ⟨h.os, h.tape, h.output, h.size, fun k hk _ => h.block k (by omega)⟩
theorem KpX.setCell {n g : Nat} (W : World) (o : Nat) (v : Value) : KpX n g W (W.setCell ⟨g, o, none⟩ v) :=
  ⟨rfl, rfl, rfl, by simp [World.setCell], fun k _ hne => Below.heap_setCell W ⟨g, o, none⟩ v k (fun e => hne (by rw [e]))⟩
theorem KpX.put {n g : Nat} (W : World) (l : Nat) (o : Obj) (hl : n ≤ l) : KpX n g W (W.putObj l o) :=
  ⟨rfl, rfl, rfl, by simp, fun k hk _ => World.putObj_heap_other (by omega)⟩
theorem KpX.blk {n g : Nat} {W W' : World} (h : KpX n g W W') {b : Nat} {t : TypeId} {cs : Array Value} (hb : Blk W b t cs) (h1 : b < n) (h2 : b ≠ g) : Blk W' b t cs := (h.block b h1 h2).trans hb
theorem KpX.below {n g B : Nat} {W W' : World} (h : KpX n g W W') (h1 : B ≤ n) (h2 : B ≤ g) : Below B W W' :=
  ⟨h.os, h.tape, h.output, h.size, fun k hk => h.block k (by omega) (by omega)⟩
theorem KpX.ext {n g : Nat} {w W W' : World} (h : KpX n g W W') (hw : Ext w W) (h1 : w.heap.size ≤ n) (h2 : w.heap.size ≤ g) : Ext w W' := Below.trans hw (h.below h1 h2)
theorem grown_none {W W' : World} (h : Ext W W') : W.grownBy W' none := grown_ext (World.grownBy.refl W none) h
theorem abides_ext {β : Type} {B : Nat} {J : β → World → Prop} (h : AbidesFrom B J) {s : β} {W W' : World} (hs : J s W) (he : Ext W W') : J s W' :=
  h s W W' none hs (grown_none he) (fun r e => by cases e)

abbrev HopX (p : Pln) (node t n : Int) := { x : Nat × Con // p.cons[x.1]? = some x.2 ∧ x.2.src = node ∧ earr x.2 t n ≠ -1 }
def HopC (p : Pln) (node t n : Int) (pre : List (HopX p node t n)) (k : Nat) : Prop := ∀ i c, i < k → p.cons[i]? = some c → c.src = node → earr c t n ≠ -1 → ∃ x ∈ pre, x.1 = (i, c)
theorem HopC.skip {p : Pln} {node t n : Int} {pre : List (HopX p node t n)} {k : Nat} {y : Con} (h : HopC p node t n pre k) (hy : p.cons[k]? = some y) (hn : y.src ≠ node ∨ earr y t n = -1) : HopC p node t n pre (k + 1) := by
  intro i c hi hc hs he
  by_cases e : i = k
  · subst e
    rw [hy] at hc; cases hc
    rcases hn with hn | hn
    · exact absurd hs hn
    · exact absurd hn he
  · exact h i c (by omega) hc hs he
theorem HopC.more {p : Pln} {node t n : Int} {pre : List (HopX p node t n)} {k : Nat} (h : HopC p node t n pre k) (x : HopX p node t n) (hx : x.1.1 = k) : HopC p node t n (pre ++ [x]) (k + 1) := by
  intro i c hi hc hs he
  by_cases e : i = k
  · subst e
    refine ⟨x, by simp, ?_⟩
    have h1 := x.2.1
    rw [hx, hc] at h1
    injection h1 with h1
    rw [← hx]
    exact Prod.ext rfl h1.symm
  · obtain ⟨y, hy, e2⟩ := h i c (by omega) hc hs he
    exact ⟨y, by simp [hy], e2⟩
end Go.Proofs.YtemkpimngbbpkaaGreat

namespace Go.Proofs.YtemkpimngbbpkaaGreat
set_option linter.unusedVariables false
set_option linter.unusedSimpArgs false
set_option linter.unusedVariables false
open Go.RowKit Go.Shelf

def mkD (D : Nat) : Deferred := { target := .collected D, args := #[] }
/-- The marks so far: blocks from lo on, below hi. -/
def DSx (hi lo : Nat) (ds : List Deferred) (w : World) : Prop := ∃ Ds : List Nat, ds = Ds.map mkD ∧ Ds.Nodup ∧ ∀ D ∈ Ds, lo ≤ D ∧ D < hi ∧ w.heap[D]? = some (.deferred (some []))
theorem DSx.nil (hi lo : Nat) (w : World) : DSx hi lo [] w := ⟨[], rfl, List.nodup_nil, by simp⟩
theorem DSx.keeps {hi lo : Nat} {ds : List Deferred} {w w' : World} (h : DSx hi lo ds w) (hk : KeepsOthers w w') : DSx hi lo ds w' := by
  obtain ⟨Ds, h1, h2, h3⟩ := h
  exact ⟨Ds, h1, h2, fun D hD => ⟨(h3 D hD).1, (h3 D hD).2.1, hk.same D _ (h3 D hD).2.2 rfl⟩⟩
theorem DSx.ext {hi lo : Nat} {ds : List Deferred} {w w' : World} (h : DSx hi lo ds w) (hk : Ext w w') : DSx hi lo ds w' := h.keeps hk.keeps
theorem DSx.setCell {hi lo : Nat} {ds : List Deferred} {w : World} (h : DSx hi lo ds w) (p : Addr) (v : Value) : DSx hi lo ds (w.setCell p v) := h.keeps (KeepsOthers.setCell w p v)
theorem DSx.more {hi hi' lo : Nat} {ds : List Deferred} {w : World} (h : DSx hi lo ds w) (hh : hi ≤ hi') : DSx hi' lo ds w := by
  obtain ⟨Ds, h1, h2, h3⟩ := h
  exact ⟨Ds, h1, h2, fun D hD => ⟨(h3 D hD).1, by have := (h3 D hD).2.1; omega, (h3 D hD).2.2⟩⟩
theorem DSx.top {hi lo : Nat} {ds : List Deferred} {w : World} (h : DSx hi lo ds w) : DSx w.heap.size lo ds w := by
  obtain ⟨Ds, h1, h2, h3⟩ := h
  exact ⟨Ds, h1, h2, fun D hD => ⟨(h3 D hD).1, (Array.getElem?_eq_some_iff.1 (h3 D hD).2.2).1, (h3 D hD).2.2⟩⟩
theorem DSx.cons {hi lo D : Nat} {ds : List Deferred} {w : World} (h : DSx hi lo ds w) (hD : hi ≤ D) (hlo : lo ≤ D) (hk : w.heap[D]? = some (.deferred (some []))) : DSx w.heap.size lo (mkD D :: ds) w := by
  obtain ⟨Ds, h1, h2, h3⟩ := h
  refine ⟨D :: Ds, by rw [h1]; rfl, List.nodup_cons.2 ⟨fun hm => by have := (h3 D hm).2.1; omega, h2⟩, fun D' hD' => ?_⟩
  rcases List.mem_cons.1 hD' with rfl | hm
  · exact ⟨hlo, (Array.getElem?_eq_some_iff.1 hk).1, hk⟩
  · exact ⟨(h3 D' hm).1, (Array.getElem?_eq_some_iff.1 (h3 D' hm).2.2).1, (h3 D' hm).2.2⟩
theorem DSx.kept {hi lo : Nat} {ds : List Deferred} {w w' : World} (h : DSx hi lo ds w) {row : Option Nat} (hg : w.grownBy w' row) (hr : ∀ r, row = some r → hi ≤ r) : DSx hi lo ds w' := by
  obtain ⟨Ds, h1, h2, h3⟩ := h
  refine ⟨Ds, h1, h2, fun D hD => ⟨(h3 D hD).1, (h3 D hD).2.1, ?_⟩⟩
  have h4 := (h3 D hD).2.2
  exact (hg.block D (Array.getElem?_eq_some_iff.1 h4).1 (fun e => by have := hr D e.symm; have := (h3 D hD).2.1; omega)).trans h4
theorem Owns.keptc {α : Type} {E : Elt α} {w w' : World} {base : Nat} {e : TypeId} {v : Value} {l : List α} (h : Owns E w base e v l) {row : Option Nat} (hg : w.grownBy w' row) (hr : ∀ r, row = some r → ∃ o : Obj, w.heap[r]? = some o ∧ o.isCells = false) : Owns E w' base e v l := by
  refine h.kept hg (fun g hv e' => ?_)
  obtain ⟨o, ho, hc⟩ := hr g e'.symm
  rcases h.2 with ⟨rfl, _⟩ | ⟨g', cap, cur, rfl, _, hh, _⟩
  · cases hv
  · injection hv with hv
    subst hv
    rw [hh] at ho
    injection ho with ho
    subst ho
    cases hc
theorem Blk.keptc {w w' : World} {g : Nat} {t : TypeId} {cs : Array Value} (h : Blk w g t cs) {row : Option Nat} (hg : w.grownBy w' row) (hr : ∀ r, row = some r → ∃ o : Obj, w.heap[r]? = some o ∧ o.isCells = false) : Blk w' g t cs :=
  h.kept hg (fun e' => by
    obtain ⟨o, ho, hc⟩ := hr g e'.symm
    have h2 : w.heap[g]? = some (.cells cs t (0, 0)) := h
    rw [h2] at ho; cases ho; cases hc)
theorem Ext.keptb {w0 w w' : World} (h : Ext w0 w) {row : Option Nat} (hg : w.grownBy w' row) (hr : ∀ r, row = some r → w0.heap.size ≤ r) : Ext w0 w' :=
  Below.grown h hg h.size (fun k e => hr k e)

/-- At the return the marks are taken, one by one. -/
theorem leavesM_ds {F : Fence} {n : Nat} {P : Program} {fn : Func} {tmps : Array Value} {R : Ending → World → Prop} {lo : Nat} : ∀ (Ds : List Nat) (w : World), Ds.Nodup → (∀ D ∈ Ds, lo ≤ D ∧ w.heap[D]? = some (.deferred (some []))) →
    (∀ w', (∀ I : World → Prop, OwnFrom lo (fun (_ : Unit) W => I W) → I w → I w') → LeavesIn F n P fn tmps R [] .returning w') → LeavesInM F n P fn tmps R (Ds.map mkD) .returning w
  | [], w, _, _, h => h w (fun I _ hI => hI)
  | D :: Ds, w, hnd, hD, h => by
    have hnd2 := List.nodup_cons.1 hnd
    have hk := (hD D (by simp)).2
    refine ⟨by simp, .inl ⟨D, _, rfl, run_takeDeferred hk, ?_⟩⟩
    refine leavesM_ds Ds _ hnd2.2 (fun D' hm => ⟨(hD D' (by simp [hm])).1, ?_⟩) (fun w' hw' => h w' (fun I hI hi => hw' I hI (hI.putObj (s := ()) _ hi (hD D (by simp)).1 hk rfl)))
    rw [World.putObj_heap_other (fun e => hnd2.1 (by rw [← e]; exact hm))]
    exact (hD D' (by simp [hm])).2
theorem DSx.leaves {F : Fence} {n : Nat} {P : Program} {fn : Func} {tmps : Array Value} {R : Ending → World → Prop} {hi lo : Nat} {ds : List Deferred} {w : World} (hd : DSx hi lo ds w)
    (h : ∀ w', (∀ I : World → Prop, OwnFrom lo (fun (_ : Unit) W => I W) → I w → I w') → LeavesIn F n P fn tmps R [] .returning w') : LeavesInM F n P fn tmps R ds .returning w := by
  obtain ⟨Ds, rfl, h2, h3⟩ := hd
  exact leavesM_ds Ds w h2 (fun D hD => ⟨(h3 D hD).1, (h3 D hD).2.2⟩) h

end Go.Proofs.YtemkpimngbbpkaaGreat

namespace Go.Proofs.YtemkpimngbbpkaaGreat
set_option linter.unusedVariables false
set_option linter.unusedSimpArgs false
set_option linter.unusedVariables false
set_option linter.unusedSimpArgs false
open Go.RowKit Go.Shelf
attribute [local go_sem] Oper.semAt_some

/-- Why an endpoint is none. -/
def epE (k n : Int) : Int := if k = 1 then (if n < 0 ∨ 16 ≤ n then 2 else 0) else if k = 2 then (if n < 0 ∨ 8 ≤ n then 2 else 0) else 8

set_option maxHeartbeats 2000000 in
theorem ep_any (k n : Int) (w : World) :
    Calls Tryz.prog 174 #[.agg #[.int .i64 k, .int .i64 n]] w fun e w' => e = .returned (.int .i64 (epE k n)) ∧ Ext w w' := by
  obtain ⟨W, hW, hB, hk, hlt⟩ := box1 w #[.int .i64 k, .int .i64 n] 26
  have hc := hk.cell
  by_cases h1 : k = 1
  · subst h1
    by_cases hn : n < 0
    · have HV := Lib.hid (show epE 1 n = 2 by unfold epE; rw [if_pos rfl, if_pos (by omega)])
      go_enter Tryz.func174, Tryz.ntmps174
      go_wp2
      go_ret
      exact ⟨by rw [HV.out]; rfl, hB⟩
    · by_cases hn2 : 16 ≤ n
      · have HV := Lib.hid (show epE 1 n = 2 by unfold epE; rw [if_pos rfl, if_pos (by omega)])
        go_enter Tryz.func174, Tryz.ntmps174
        go_wp2
        go_ret
        exact ⟨by rw [HV.out]; rfl, hB⟩
      · have HV := Lib.hid (show epE 1 n = 0 by unfold epE; rw [if_pos rfl, if_neg (by omega)])
        go_enter Tryz.func174, Tryz.ntmps174
        go_wp2
        go_ret
        exact ⟨by rw [HV.out]; rfl, hB⟩
  · have b1 : (k == 1) = false := by rw [beq_eq_false_iff_ne]; exact h1
    by_cases h2 : k = 2
    · subst h2
      by_cases hn : n < 0
      · have HV := Lib.hid (show epE 2 n = 2 by unfold epE; rw [if_neg (by omega), if_pos rfl, if_pos (by omega)])
        go_enter Tryz.func174, Tryz.ntmps174
        go_wp2
        go_ret
        exact ⟨by rw [HV.out]; rfl, hB⟩
      · by_cases hn2 : 8 ≤ n
        · have HV := Lib.hid (show epE 2 n = 2 by unfold epE; rw [if_neg (by omega), if_pos rfl, if_pos (by omega)])
          go_enter Tryz.func174, Tryz.ntmps174
          go_wp2
          go_ret
          exact ⟨by rw [HV.out]; rfl, hB⟩
        · have HV := Lib.hid (show epE 2 n = 0 by unfold epE; rw [if_neg (by omega), if_pos rfl, if_neg (by omega)])
          go_enter Tryz.func174, Tryz.ntmps174
          go_wp2
          go_ret
          exact ⟨by rw [HV.out]; rfl, hB⟩
    · have b2 : (k == 2) = false := by rw [beq_eq_false_iff_ne]; exact h2
      have HV := Lib.hid (show epE k n = 8 by unfold epE; rw [if_neg h1, if_neg h2])
      go_enter Tryz.func174, Tryz.ntmps174
      go_wp2
      go_ret
      exact ⟨by rw [HV.out]; rfl, hB⟩

set_option maxHeartbeats 1000000 in
theorem buWithin_any (n lo hi : Int) (w : World) :
    Calls Tryz.prog 175 #[.int .i64 n, .int .i64 lo, .int .i64 hi] w fun e w' => e = .returned (.bool (decide (lo ≤ n ∧ n ≤ hi))) ∧ w = w' := by
  by_cases h1 : lo ≤ n
  · by_cases h2 : n ≤ hi
    · rw [decide_eq_true (show lo ≤ n ∧ n ≤ hi from ⟨h1, h2⟩)]
      go_enter Tryz.func175, Tryz.ntmps175
      go_wp2
      go_ret
      exact ⟨rfl, rfl⟩
    · rw [decide_eq_false (show ¬ (lo ≤ n ∧ n ≤ hi) from fun h => h2 h.2)]
      go_enter Tryz.func175, Tryz.ntmps175
      go_wp2
      go_ret
      exact ⟨rfl, rfl⟩
  · rw [decide_eq_false (show ¬ (lo ≤ n ∧ n ≤ hi) from fun h => h1 h.1)]
    go_enter Tryz.func175, Tryz.ntmps175
    go_wp2
    go_ret
    exact ⟨rfl, rfl⟩

/-- Why the numbers of an id are not valid. -/
def idE (a b c d e : Int) : Int := if ¬ (0 ≤ a ∧ a ≤ 15) ∨ ¬ (0 ≤ b ∧ b ≤ 1099511627776) ∨ ¬ (0 ≤ c ∧ c ≤ 1099511627776) then 2 else if d = 0 ∧ e = 0 then 0 else if ¬ (1 ≤ e ∧ e ≤ 4096) ∨ ¬ (0 ≤ d ∧ d ≤ e - 1) then 2 else 0

end Go.Proofs.YtemkpimngbbpkaaGreat

namespace Go.Proofs.YtemkpimngbbpkaaGreat
set_option linter.unusedVariables false
set_option linter.unusedSimpArgs false
set_option linter.unusedVariables false
set_option linter.unusedSimpArgs false
open Go.RowKit Go.Shelf
attribute [local go_sem] Oper.semAt_some

/-- Why a block is not valid. -/
def Bl.err (b : Bl) : Int := if b.kind < 1 ∨ 255 < b.kind then 8 else if b.flags < 0 ∨ 15 < b.flags then 2 else if 1024 < b.data.length then 4 else 0

set_option maxHeartbeats 4000000 in
theorem blChk_any (b : Bl) (w : World) :
    Calls Tryz.prog 131 #[.agg #[.int .i64 b.kind, .int .i64 b.flags, strV b.data]] w fun e w' => e = .returned (.int .i64 b.err) ∧ Ext w w' := by
  obtain ⟨sv, hsv, hsz⟩ : ∃ sv : ByteArray, ⟨b.data.toArray⟩ = sv ∧ sv.size = b.data.length := ⟨_, rfl, by show b.data.toArray.size = b.data.length; simp⟩
  unfold strV
  rw [hsv]
  clear hsv
  obtain ⟨W, hW, hB, hk, hlt⟩ := box1 w #[.int .i64 b.kind, .int .i64 b.flags, .string sv] 116
  have hc := hk.cell
  obtain ⟨v, hv⟩ : ∃ v, b.err = v := ⟨_, rfl⟩
  have HV := Lib.hid hv
  rw [hv]
  clear hv
  obtain ⟨kd, fl, dt⟩ := b
  dsimp only at *
  generalize hln : dt.length = ln at *
  have HL := Lib.hid hln
  clear hln
  have hs0 : 0 ≤ (ln : Int) := by omega
  by_cases h1 : kd < 1
  · have HX := Lib.hid (show v = 8 by rw [← HV.out]; unfold Bl.err; dsimp only; rw [if_pos (by omega)])
    go_enter Tryz.func131, Tryz.ntmps131
    go_wp2
    go_ret
    exact ⟨by rw [HX.out]; rfl, hB⟩
  by_cases h2 : 255 < kd
  · have HX := Lib.hid (show v = 8 by rw [← HV.out]; unfold Bl.err; dsimp only; rw [if_pos (by omega)])
    go_enter Tryz.func131, Tryz.ntmps131
    go_wp2
    go_ret
    exact ⟨by rw [HX.out]; rfl, hB⟩
  by_cases h3 : fl < 0
  · have HX := Lib.hid (show v = 2 by rw [← HV.out]; unfold Bl.err; dsimp only; rw [if_neg (by omega), if_pos (by omega)])
    go_enter Tryz.func131, Tryz.ntmps131
    go_wp2
    go_ret
    exact ⟨by rw [HX.out]; rfl, hB⟩
  by_cases h4 : 15 < fl
  · have HX := Lib.hid (show v = 2 by rw [← HV.out]; unfold Bl.err; dsimp only; rw [if_neg (by omega), if_pos (by omega)])
    go_enter Tryz.func131, Tryz.ntmps131
    go_wp2
    go_ret
    exact ⟨by rw [HX.out]; rfl, hB⟩
  by_cases h5 : 1024 < ln
  · have HX := Lib.hid (show v = 4 by rw [← HV.out]; unfold Bl.err; dsimp only; rw [if_neg (by omega), if_neg (by omega), if_pos (by rw [HL.out]; exact h5)])
    go_enter Tryz.func131, Tryz.ntmps131
    go_wp2
    go_ret
    exact ⟨by rw [HX.out]; rfl, hB⟩
  have HX := Lib.hid (show v = 0 by rw [← HV.out]; unfold Bl.err; dsimp only; rw [if_neg (by omega), if_neg (by omega), if_neg (by rw [HL.out]; exact h5)])
  go_enter Tryz.func131, Tryz.ntmps131
  go_wp2
  go_ret
  exact ⟨by rw [HX.out]; rfl, hB⟩

end Go.Proofs.YtemkpimngbbpkaaGreat

namespace Go.Proofs.YtemkpimngbbpkaaGreat
set_option linter.unusedVariables false
set_option linter.unusedSimpArgs false
set_option linter.unusedVariables false
set_option linter.unusedSimpArgs false
open Go.RowKit Go.Shelf
attribute [local go_sem] Oper.semAt_some

set_option maxHeartbeats 8000000 in
theorem chkId_any (a b c d t : Int) (w : World) :
    Calls Tryz.prog 173 #[.agg #[.int .i64 a, .int .i64 b, .int .i64 c, .int .i64 d, .int .i64 t]] w fun e w' => e = .returned (.int .i64 (idE a b c d t)) ∧ Ext w w' := by
  obtain ⟨W, hW, hB, hk, hlt⟩ := box1 w #[.int .i64 a, .int .i64 b, .int .i64 c, .int .i64 d, .int .i64 t] 24
  have hc := hk.cell
  have f1 := fun w => buWithin_any a 0 15 w
  have f2 := fun w => buWithin_any b 0 1099511627776 w
  have f3 := fun w => buWithin_any c 0 1099511627776 w
  have f4 := fun w => buWithin_any t 1 4096 w
  have f5 := fun w => buWithin_any d 0 (t - 1) w
  obtain ⟨v, hv⟩ : ∃ v, idE a b c d t = v := ⟨_, rfl⟩
  have HV := Lib.hid hv
  rw [hv]
  clear hv
  by_cases x1 : 0 ≤ a ∧ a ≤ 15
  case neg =>
    rw [decide_eq_false x1] at f1
    have HX := Lib.hid (show v = 2 by rw [← HV.out]; unfold idE; rw [if_pos (by omega)])
    go_enter Tryz.func173, Tryz.ntmps173
    go_wp2_with fail
    refine (f1 _).mono ?_
    rintro e w1 ⟨rfl, rfl⟩
    go_wp2
    go_ret
    exact ⟨by rw [HX.out]; rfl, hB⟩
  rw [decide_eq_true x1] at f1
  by_cases x2 : 0 ≤ b ∧ b ≤ 1099511627776
  case neg =>
    rw [decide_eq_false x2] at f2
    have HX := Lib.hid (show v = 2 by rw [← HV.out]; unfold idE; rw [if_pos (by omega)])
    go_enter Tryz.func173, Tryz.ntmps173
    go_wp2_with fail
    refine (f1 _).mono ?_
    rintro e w1 ⟨rfl, rfl⟩
    go_wp2_with fail
    refine (f2 _).mono ?_
    rintro e w1 ⟨rfl, rfl⟩
    go_wp2
    go_ret
    exact ⟨by rw [HX.out]; rfl, hB⟩
  rw [decide_eq_true x2] at f2
  by_cases x3 : 0 ≤ c ∧ c ≤ 1099511627776
  case neg =>
    rw [decide_eq_false x3] at f3
    have HX := Lib.hid (show v = 2 by rw [← HV.out]; unfold idE; rw [if_pos (by omega)])
    go_enter Tryz.func173, Tryz.ntmps173
    go_wp2_with fail
    refine (f1 _).mono ?_
    rintro e w1 ⟨rfl, rfl⟩
    go_wp2_with fail
    refine (f2 _).mono ?_
    rintro e w1 ⟨rfl, rfl⟩
    go_wp2_with fail
    refine (f3 _).mono ?_
    rintro e w1 ⟨rfl, rfl⟩
    go_wp2
    go_ret
    exact ⟨by rw [HX.out]; rfl, hB⟩
  rw [decide_eq_true x3] at f3
  by_cases y1 : d = 0 ∧ t = 0
  case pos =>
    obtain ⟨rfl, rfl⟩ := y1
    have HX := Lib.hid (show v = 0 by rw [← HV.out]; unfold idE; rw [if_neg (by omega), if_pos ⟨rfl, rfl⟩])
    go_enter Tryz.func173, Tryz.ntmps173
    go_wp2_with fail
    refine (f1 _).mono ?_
    rintro e w1 ⟨rfl, rfl⟩
    go_wp2_with fail
    refine (f2 _).mono ?_
    rintro e w1 ⟨rfl, rfl⟩
    go_wp2_with fail
    refine (f3 _).mono ?_
    rintro e w1 ⟨rfl, rfl⟩
    go_wp2
    go_ret
    exact ⟨by rw [HX.out]; rfl, hB⟩
  have y2 : (d == 0) = false ∨ ((d == 0) = true ∧ (t == 0) = false) := by
    simp only [beq_eq_false_iff_ne, beq_iff_eq, ne_eq]
    omega
  by_cases x4 : 1 ≤ t ∧ t ≤ 4096
  case neg =>
    rw [decide_eq_false x4] at f4
    rcases y2 with y2 | ⟨y2, y3⟩
    · have HX := Lib.hid (show v = 2 by rw [← HV.out]; unfold idE; rw [if_neg (by omega), if_neg y1, if_pos (by omega)])
      go_enter Tryz.func173, Tryz.ntmps173
      go_wp2_with fail
      refine (f1 _).mono ?_
      rintro e w1 ⟨rfl, rfl⟩
      go_wp2_with fail
      refine (f2 _).mono ?_
      rintro e w1 ⟨rfl, rfl⟩
      go_wp2_with fail
      refine (f3 _).mono ?_
      rintro e w1 ⟨rfl, rfl⟩
      go_wp2_with fail
      refine (f4 _).mono ?_
      rintro e w1 ⟨rfl, rfl⟩
      go_wp2
      go_ret
      exact ⟨by rw [HX.out]; rfl, hB⟩
    · have HX := Lib.hid (show v = 2 by rw [← HV.out]; unfold idE; rw [if_neg (by omega), if_neg y1, if_pos (by omega)])
      go_enter Tryz.func173, Tryz.ntmps173
      go_wp2_with fail
      refine (f1 _).mono ?_
      rintro e w1 ⟨rfl, rfl⟩
      go_wp2_with fail
      refine (f2 _).mono ?_
      rintro e w1 ⟨rfl, rfl⟩
      go_wp2_with fail
      refine (f3 _).mono ?_
      rintro e w1 ⟨rfl, rfl⟩
      go_wp2_with fail
      refine (f4 _).mono ?_
      rintro e w1 ⟨rfl, rfl⟩
      go_wp2
      go_ret
      exact ⟨by rw [HX.out]; rfl, hB⟩
  rw [decide_eq_true x4] at f4
  by_cases x5 : 0 ≤ d ∧ d ≤ t - 1
  case neg =>
    rw [decide_eq_false x5] at f5
    rcases y2 with y2 | ⟨y2, y3⟩
    · have HX := Lib.hid (show v = 2 by rw [← HV.out]; unfold idE; rw [if_neg (by omega), if_neg y1, if_pos (by omega)])
      go_enter Tryz.func173, Tryz.ntmps173
      go_wp2_with fail
      refine (f1 _).mono ?_
      rintro e w1 ⟨rfl, rfl⟩
      go_wp2_with fail
      refine (f2 _).mono ?_
      rintro e w1 ⟨rfl, rfl⟩
      go_wp2_with fail
      refine (f3 _).mono ?_
      rintro e w1 ⟨rfl, rfl⟩
      go_wp2_with fail
      refine (f4 _).mono ?_
      rintro e w1 ⟨rfl, rfl⟩
      go_wp2_with fail
      refine (f5 _).mono ?_
      rintro e w1 ⟨rfl, rfl⟩
      go_wp2
      go_ret
      exact ⟨by rw [HX.out]; rfl, hB⟩
    · have HX := Lib.hid (show v = 2 by rw [← HV.out]; unfold idE; rw [if_neg (by omega), if_neg y1, if_pos (by omega)])
      go_enter Tryz.func173, Tryz.ntmps173
      go_wp2_with fail
      refine (f1 _).mono ?_
      rintro e w1 ⟨rfl, rfl⟩
      go_wp2_with fail
      refine (f2 _).mono ?_
      rintro e w1 ⟨rfl, rfl⟩
      go_wp2_with fail
      refine (f3 _).mono ?_
      rintro e w1 ⟨rfl, rfl⟩
      go_wp2_with fail
      refine (f4 _).mono ?_
      rintro e w1 ⟨rfl, rfl⟩
      go_wp2_with fail
      refine (f5 _).mono ?_
      rintro e w1 ⟨rfl, rfl⟩
      go_wp2
      go_ret
      exact ⟨by rw [HX.out]; rfl, hB⟩
  rw [decide_eq_true x5] at f5
  rcases y2 with y2 | ⟨y2, y3⟩
  · have HX := Lib.hid (show v = 0 by rw [← HV.out]; unfold idE; rw [if_neg (by omega), if_neg y1, if_neg (by omega)])
    go_enter Tryz.func173, Tryz.ntmps173
    go_wp2_with fail
    refine (f1 _).mono ?_
    rintro e w1 ⟨rfl, rfl⟩
    go_wp2_with fail
    refine (f2 _).mono ?_
    rintro e w1 ⟨rfl, rfl⟩
    go_wp2_with fail
    refine (f3 _).mono ?_
    rintro e w1 ⟨rfl, rfl⟩
    go_wp2_with fail
    refine (f4 _).mono ?_
    rintro e w1 ⟨rfl, rfl⟩
    go_wp2_with fail
    refine (f5 _).mono ?_
    rintro e w1 ⟨rfl, rfl⟩
    go_wp2
    go_ret
    exact ⟨by rw [HX.out]; rfl, hB⟩
  · have HX := Lib.hid (show v = 0 by rw [← HV.out]; unfold idE; rw [if_neg (by omega), if_neg y1, if_neg (by omega)])
    go_enter Tryz.func173, Tryz.ntmps173
    go_wp2_with fail
    refine (f1 _).mono ?_
    rintro e w1 ⟨rfl, rfl⟩
    go_wp2_with fail
    refine (f2 _).mono ?_
    rintro e w1 ⟨rfl, rfl⟩
    go_wp2_with fail
    refine (f3 _).mono ?_
    rintro e w1 ⟨rfl, rfl⟩
    go_wp2_with fail
    refine (f4 _).mono ?_
    rintro e w1 ⟨rfl, rfl⟩
    go_wp2_with fail
    refine (f5 _).mono ?_
    rintro e w1 ⟨rfl, rfl⟩
    go_wp2
    go_ret
    exact ⟨by rw [HX.out]; rfl, hB⟩

end Go.Proofs.YtemkpimngbbpkaaGreat

namespace Go.Proofs.YtemkpimngbbpkaaGreat
set_option linter.unusedVariables false
set_option linter.unusedSimpArgs false
set_option linter.unusedVariables false
set_option linter.unusedSimpArgs false
open Go.RowKit Go.Shelf
attribute [local go_sem] Oper.semAt_some

theorem ins_any (g : Nat) (n i : Int) (w : World) (hg : Blk w g 3 #[.int .i64 n]) :
    Calls Tryz.prog 214 #[.int .i64 i, .pointer (some ⟨g, 0, none⟩)] w fun e w' => e = .returned (.bool (inN n i)) ∧ w = w' := by
  have hc := hg.cell
  have hl := hg.lt
  unfold inN
  by_cases h1 : 0 ≤ i
  · by_cases h2 : i < n
    · rw [decide_eq_true (show 0 ≤ i ∧ i < n from ⟨h1, h2⟩)]
      go_enter Tryz.func214, Tryz.ntmps214
      go_wp2
      go_ret
      exact ⟨rfl, rfl⟩
    · rw [decide_eq_false (show ¬ (0 ≤ i ∧ i < n) from fun h => h2 h.2)]
      go_enter Tryz.func214, Tryz.ntmps214
      go_wp2
      go_ret
      exact ⟨rfl, rfl⟩
  · rw [decide_eq_false (show ¬ (0 ≤ i ∧ i < n) from fun h => h1 h.1)]
    go_enter Tryz.func214, Tryz.ntmps214
    go_wp2
    go_ret
    exact ⟨rfl, rfl⟩

def Chg.arr (x : Chg) : Array Value := #[.int .i64 x.org, .int .i64 x.cnt, .int .i64 x.stp, .int .i64 x.kind, .int .i64 x.con.src, .int .i64 x.con.dst, .int .i64 x.con.st, .int .i64 x.con.en, .int .i64 x.con.rate, .int .i64 x.con.rng, .int .i64 x.con.loss]

set_option maxRecDepth 100000 in
set_option maxHeartbeats 16000000 in
theorem vCon_any (n : Int) (x : Chg) (w : World) :
    Calls Tryz.prog 143 #[.int .i64 n, .agg x.arr] w fun e w' => e = .returned (.bool (x.cok n)) ∧ Ext w w' := by
  obtain ⟨org, cnt, stp, kind, c⟩ := x
  obtain ⟨v, hv⟩ : ∃ v, Chg.cok n ⟨org, cnt, stp, kind, c⟩ = v := ⟨_, rfl⟩
  rw [hv]
  unfold Chg.cok at hv
  dsimp only at hv
  have HV := Lib.hid hv
  clear hv
  unfold Chg.arr
  dsimp only
  have fc := fun w => check_any c w
  unfold Con.val at fc
  have hib := fun h : c.isBare = true => (show c.en = 0 ∧ c.rate = 0 ∧ c.rng = 0 ∧ c.loss = 0 by simpa [Con.isBare] using h)
  have hnb := fun h : c.isBare = false => (show ¬ (c.en = 0 ∧ c.rate = 0 ∧ c.rng = 0 ∧ c.loss = 0) from fun h2 => by simp [Con.isBare, h2] at h)
  obtain ⟨ck, hck⟩ : ∃ ck, c.check = ck := ⟨_, rfl⟩
  rw [hck] at fc HV
  obtain ⟨bb, hbb⟩ : ∃ bb, c.isBare = bb := ⟨_, rfl⟩
  rw [hbb] at HV hib hnb
  obtain ⟨src, dst, st, en, rate, rng, loss⟩ := c
  dsimp only at *
  obtain ⟨W1, hW1, hB1, hk1, hl1⟩ := box1 w #[.int .i64 n] 3
  obtain ⟨W2, hW2, hB2, hk2, hl2⟩ := box1 W1 #[.int .i64 org, .int .i64 cnt, .int .i64 stp, .int .i64 kind, .int .i64 src, .int .i64 dst, .int .i64 st, .int .i64 en, .int .i64 rate, .int .i64 rng, .int .i64 loss] 63
  have c2 := hk2.cell
  obtain ⟨W3, hW3, hB3, hk3, hl3⟩ := box1 W2 #[.int .i64 src, .int .i64 dst, .int .i64 st, .int .i64 en, .int .i64 rate, .int .i64 rng, .int .i64 loss] 61
  have c3 := hk3.cell
  have kx3 := hk2.ext hB3
  have c4 := kx3.cell
  have c5 := kx3.lt
  have hE := (hB1.trans hB2).trans hB3
  have hn3 := (hk1.ext hB2).ext hB3
  have fi := fun i => ins_any w.heap.size n i W3 hn3
  have hen : ∀ args w, (callFunc 214 args).run Tryz.prog w = .ok (.enter 214 args) w := enters_of Tryz.func214 (by kernel_rfl) rfl
  clear hck hbb
  cases i1 : inN n src
  case false =>
    have fs := fi src
    rw [i1] at fs HV
    have HX := Lib.hid (show v = false by rw [← HV.out]; rfl)
    clear fi
    go_enter Tryz.func143, Tryz.ntmps143
    go_wp2_with fail
    clear hW1 hW2 hW3
    refine fs.mono ?_
    rintro e w4 ⟨rfl, rfl⟩
    go_wp2
    go_ret
    exact ⟨by rw [HX.out]; rfl, hE⟩
  cases i2 : inN n dst
  case false =>
    have fs := fi src
    have fd := fi dst
    rw [i1] at fs HV
    rw [i2] at fd HV
    have HX := Lib.hid (show v = false by rw [← HV.out]; rfl)
    clear fi
    go_enter Tryz.func143, Tryz.ntmps143
    go_wp2_with fail
    clear hW1 hW2 hW3
    refine fs.mono ?_
    rintro e w4 ⟨rfl, rfl⟩
    go_wp2_with fail
    refine fd.mono ?_
    rintro e w4 ⟨rfl, rfl⟩
    go_wp2
    go_ret
    exact ⟨by rw [HX.out]; rfl, hE⟩
  have fs := fi src
  have fd := fi dst
  rw [i1] at fs HV
  rw [i2] at fd HV
  simp only [Bool.true_and] at HV
  clear fi i1 i2
  by_cases k1 : kind = 1
  · subst k1
    have HX := Lib.hid (show v = decide (ck = 0) by rw [← HV.out, if_pos rfl])
    go_enter Tryz.func143, Tryz.ntmps143
    go_wp2_with fail
    clear hW1 hW2 hW3
    refine fs.mono ?_
    rintro e w4 ⟨rfl, rfl⟩
    go_wp2_with fail
    refine fd.mono ?_
    rintro e w4 ⟨rfl, rfl⟩
    go_wp2_with fail
    refine (fc _).mono ?_
    rintro e w5 ⟨rfl, hb5⟩
    go_wp2
    go_ret
    exact ⟨by rw [HX.out]; rfl, hE.trans hb5⟩
  rw [if_neg k1] at HV
  have b1 : (kind == 1) = false := by rw [beq_eq_false_iff_ne]; exact k1
  by_cases k2 : kind = 2
  case neg =>
    have b2 : (kind == 2) = false := by rw [beq_eq_false_iff_ne]; exact k2
    have HX := Lib.hid (show v = false by rw [← HV.out, if_neg k2])
    clear k1 k2 fc
    go_enter Tryz.func143, Tryz.ntmps143
    go_wp2_with fail
    clear hW1 hW2 hW3
    refine fs.mono ?_
    rintro e w4 ⟨rfl, rfl⟩
    go_wp2_with fail
    refine fd.mono ?_
    rintro e w4 ⟨rfl, rfl⟩
    go_wp2
    go_ret
    exact ⟨by rw [HX.out]; rfl, hE⟩
  subst k2
  rw [if_pos rfl] at HV
  clear k1 b1 fc
  by_cases s1 : src = dst
  case pos =>
    have d1 : (src != dst) = false := by rw [bne_eq_false_iff_eq]; exact s1
    have HX := Lib.hid (show v = false by rw [← HV.out, decide_eq_false (fun h => h s1)]; rfl)
    clear s1
    go_enter Tryz.func143, Tryz.ntmps143
    go_wp2_with fail
    clear hW1 hW2 hW3
    refine fs.mono ?_
    rintro e w4 ⟨rfl, rfl⟩
    go_wp2_with fail
    refine fd.mono ?_
    rintro e w4 ⟨rfl, rfl⟩
    go_wp2
    go_ret
    exact ⟨by rw [HX.out]; rfl, hE⟩
  have d1 : (src != dst) = true := by rw [bne_iff_ne]; exact s1
  rw [decide_eq_true s1, Bool.true_and] at HV
  clear s1
  by_cases t1 : 0 ≤ st
  case neg =>
    have HX := Lib.hid (show v = false by rw [← HV.out, decide_eq_false (fun h => t1 h.1)]; rfl)
    go_enter Tryz.func143, Tryz.ntmps143
    go_wp2_with fail
    clear hW1 hW2 hW3
    refine fs.mono ?_
    rintro e w4 ⟨rfl, rfl⟩
    go_wp2_with fail
    refine fd.mono ?_
    rintro e w4 ⟨rfl, rfl⟩
    go_wp2
    go_ret
    exact ⟨by rw [HX.out]; rfl, hE⟩
  by_cases t2 : st ≤ 1099511627776
  case neg =>
    have HX := Lib.hid (show v = false by rw [← HV.out, decide_eq_false (fun h => t2 h.2)]; rfl)
    go_enter Tryz.func143, Tryz.ntmps143
    go_wp2_with fail
    clear hW1 hW2 hW3
    refine fs.mono ?_
    rintro e w4 ⟨rfl, rfl⟩
    go_wp2_with fail
    refine fd.mono ?_
    rintro e w4 ⟨rfl, rfl⟩
    go_wp2
    go_ret
    exact ⟨by rw [HX.out]; rfl, hE⟩
  rw [decide_eq_true (show 0 ≤ st ∧ st ≤ 1099511627776 from ⟨t1, t2⟩), Bool.true_and] at HV
  have HX := Lib.hid HV.out.symm
  cases bb
  case true =>
    obtain ⟨z1, z2, z3, z4⟩ := hib rfl
    replace z1 := beq_iff_eq.2 z1
    replace z2 := beq_iff_eq.2 z2
    replace z3 := beq_iff_eq.2 z3
    replace z4 := beq_iff_eq.2 z4
    clear hib hnb
    go_enter Tryz.func143, Tryz.ntmps143
    go_wp2_with fail
    clear hW1 hW2 hW3
    refine fs.mono ?_
    rintro e w4 ⟨rfl, rfl⟩
    go_wp2_with fail
    refine fd.mono ?_
    rintro e w4 ⟨rfl, rfl⟩
    go_wp2
    go_ret
    exact ⟨by rw [HX.out]; rfl, hE⟩
  have hz := hnb rfl
  have hz2 : en ≠ 0 ∨ (en = 0 ∧ rate ≠ 0) ∨ (en = 0 ∧ rate = 0 ∧ rng ≠ 0) ∨ (en = 0 ∧ rate = 0 ∧ rng = 0 ∧ loss ≠ 0) := by omega
  clear hib hnb hz
  have hz3 : (en == 0) = false ∨ ((en == 0) = true ∧ (rate == 0) = false) ∨ ((en == 0) = true ∧ (rate == 0) = true ∧ (rng == 0) = false) ∨ ((en == 0) = true ∧ (rate == 0) = true ∧ (rng == 0) = true ∧ (loss == 0) = false) := by
    simp only [beq_eq_false_iff_ne, beq_iff_eq, ne_eq]
    exact hz2
  clear hz2
  rcases hz3 with h1 | ⟨h1, h2⟩ | ⟨h1, h2, h3⟩ | ⟨h1, h2, h3, h4⟩
  all_goals
    go_enter Tryz.func143, Tryz.ntmps143
    go_wp2_with fail
    clear hW1 hW2 hW3
    refine fs.mono ?_
    rintro e w4 ⟨rfl, rfl⟩
    go_wp2_with fail
    refine fd.mono ?_
    rintro e w4 ⟨rfl, rfl⟩
    go_wp2
    go_ret
    exact ⟨by rw [HX.out]; rfl, hE⟩

end Go.Proofs.YtemkpimngbbpkaaGreat
