/- A function whose plain loop holds a range over a function: the blocks for the deferred calls pile up. -/
import Derived.Test.YtmaengcmhopmbaaGreatJrI
namespace Go.Proofs.YtmaengcmhopmbaaGreat
set_option linter.unusedVariables false
open Go.RowKit Go.Shelf

def mkD (D : Nat) : Deferred := { target := .collected D, args := #[] }
/-- The marks so far: blocks from lo on, below hi. -/
def DSx (hi lo : Nat) (ds : List Deferred) (w : World) : Prop := ∃ Ds : List Nat, ds = Ds.map mkD ∧ Ds.Nodup ∧ ∀ D ∈ Ds, lo ≤ D ∧ D < hi ∧ w.heap[D]? = some (.deferred (some []))
theorem DSx.nil (hi lo : Nat) (w : World) : DSx hi lo [] w := ⟨[], rfl, List.nodup_nil, by simp⟩
theorem DSx.keeps {hi lo : Nat} {ds : List Deferred} {w w' : World} (h : DSx hi lo ds w) (hk : KeepsOthers w w') : DSx hi lo ds w' := by
  obtain ⟨Ds, h1, h2, h3⟩ := h
  exact ⟨Ds, h1, h2, fun D hD => ⟨(h3 D hD).1, (h3 D hD).2.1, hk.same D _ (h3 D hD).2.2 rfl⟩⟩
theorem DSx.ext {hi lo : Nat} {ds : List Deferred} {w w' : World} (h : DSx hi lo ds w) (hk : Ext w w') : DSx hi lo ds w' := h.keeps hk.keeps
theorem DSx.setCell {hi lo : Nat} {ds : List Deferred} {w : World} (h : DSx hi lo ds w) (p : Addr) (v : Value) : DSx hi lo ds (w.setCell p v) := h.keeps (KeepsOthers.setCell w p v)
theorem DSx.more {hi hi' lo : Nat} {ds : List Deferred} {w : World} (h : DSx hi lo ds w) (hh : hi ≤ hi') : DSx hi' lo ds w := by
  obtain ⟨Ds, h1, h2, h3⟩ := h
  exact ⟨Ds, h1, h2, fun D hD => ⟨(h3 D hD).1, by have := (h3 D hD).2.1; omega, (h3 D hD).2.2⟩⟩
theorem DSx.top {hi lo : Nat} {ds : List Deferred} {w : World} (h : DSx hi lo ds w) : DSx w.heap.size lo ds w := by
  obtain ⟨Ds, h1, h2, h3⟩ := h
  exact ⟨Ds, h1, h2, fun D hD => ⟨(h3 D hD).1, (Array.getElem?_eq_some_iff.1 (h3 D hD).2.2).1, (h3 D hD).2.2⟩⟩
theorem DSx.cons {hi lo D : Nat} {ds : List Deferred} {w : World} (h : DSx hi lo ds w) (hD : hi ≤ D) (hlo : lo ≤ D) (hk : w.heap[D]? = some (.deferred (some []))) : DSx w.heap.size lo (mkD D :: ds) w := by
  obtain ⟨Ds, h1, h2, h3⟩ := h
  refine ⟨D :: Ds, by rw [h1]; rfl, List.nodup_cons.2 ⟨fun hm => by have := (h3 D hm).2.1; omega, h2⟩, fun D' hD' => ?_⟩
  rcases List.mem_cons.1 hD' with rfl | hm
  · exact ⟨hlo, (Array.getElem?_eq_some_iff.1 hk).1, hk⟩
  · exact ⟨(h3 D' hm).1, (Array.getElem?_eq_some_iff.1 (h3 D' hm).2.2).1, (h3 D' hm).2.2⟩
theorem DSx.kept {hi lo : Nat} {ds : List Deferred} {w w' : World} (h : DSx hi lo ds w) {row : Option Nat} (hg : w.grownBy w' row) (hr : ∀ r, row = some r → hi ≤ r) : DSx hi lo ds w' := by
  obtain ⟨Ds, h1, h2, h3⟩ := h
  refine ⟨Ds, h1, h2, fun D hD => ⟨(h3 D hD).1, (h3 D hD).2.1, ?_⟩⟩
  have h4 := (h3 D hD).2.2
  exact (hg.block D (Array.getElem?_eq_some_iff.1 h4).1 (fun e => by have := hr D e.symm; have := (h3 D hD).2.1; omega)).trans h4
theorem Owns.keptc {α : Type} {E : Elt α} {w w' : World} {base : Nat} {e : TypeId} {v : Value} {l : List α} (h : Owns E w base e v l) {row : Option Nat} (hg : w.grownBy w' row) (hr : ∀ r, row = some r → ∃ o : Obj, w.heap[r]? = some o ∧ o.isCells = false) : Owns E w' base e v l := by
  refine h.kept hg (fun g hv e' => ?_)
  obtain ⟨o, ho, hc⟩ := hr g e'.symm
  rcases h.2 with ⟨rfl, _⟩ | ⟨g', cap, cur, rfl, _, hh, _⟩
  · cases hv
  · injection hv with hv
    subst hv
    rw [hh] at ho
    injection ho with ho
    subst ho
    cases hc
theorem Blk.keptc {w w' : World} {g : Nat} {t : TypeId} {cs : Array Value} (h : Blk w g t cs) {row : Option Nat} (hg : w.grownBy w' row) (hr : ∀ r, row = some r → ∃ o : Obj, w.heap[r]? = some o ∧ o.isCells = false) : Blk w' g t cs :=
  h.kept hg (fun e' => by
    obtain ⟨o, ho, hc⟩ := hr g e'.symm
    have h2 : w.heap[g]? = some (.cells cs t (0, 0)) := h
    rw [h2] at ho; cases ho; cases hc)
theorem Ext.keptb {w0 w w' : World} (h : Ext w0 w) {row : Option Nat} (hg : w.grownBy w' row) (hr : ∀ r, row = some r → w0.heap.size ≤ r) : Ext w0 w' :=
  Below.grown h hg h.size (fun k e => hr k e)

/-- At the return the marks are taken, one by one. -/
theorem leavesM_ds {F : Fence} {n : Nat} {P : Program} {fn : Func} {tmps : Array Value} {R : Ending → World → Prop} {lo : Nat} : ∀ (Ds : List Nat) (w : World), Ds.Nodup → (∀ D ∈ Ds, lo ≤ D ∧ w.heap[D]? = some (.deferred (some []))) →
    (∀ w', (∀ I : World → Prop, OwnFrom lo (fun (_ : Unit) W => I W) → I w → I w') → LeavesIn F n P fn tmps R [] .returning w') → LeavesInM F n P fn tmps R (Ds.map mkD) .returning w
  | [], w, _, _, h => h w (fun I _ hI => hI)
  | D :: Ds, w, hnd, hD, h => by
    have hnd2 := List.nodup_cons.1 hnd
    have hk := (hD D (by simp)).2
    refine ⟨by simp, .inl ⟨D, _, rfl, run_takeDeferred hk, ?_⟩⟩
    refine leavesM_ds Ds _ hnd2.2 (fun D' hm => ⟨(hD D' (by simp [hm])).1, ?_⟩) (fun w' hw' => h w' (fun I hI hi => hw' I hI (hI.putObj (s := ()) _ hi (hD D (by simp)).1 hk rfl)))
    rw [World.putObj_heap_other (fun e => hnd2.1 (by rw [← e]; exact hm))]
    exact (hD D' (by simp [hm])).2
theorem DSx.leaves {F : Fence} {n : Nat} {P : Program} {fn : Func} {tmps : Array Value} {R : Ending → World → Prop} {hi lo : Nat} {ds : List Deferred} {w : World} (hd : DSx hi lo ds w)
    (h : ∀ w', (∀ I : World → Prop, OwnFrom lo (fun (_ : Unit) W => I W) → I w → I w') → LeavesIn F n P fn tmps R [] .returning w') : LeavesInM F n P fn tmps R ds .returning w := by
  obtain ⟨Ds, rfl, h2, h3⟩ := hd
  exact leavesM_ds Ds w h2 (fun D hD => ⟨(h3 D hD).1, (h3 D hD).2.2⟩) h

end Go.Proofs.YtmaengcmhopmbaaGreat
