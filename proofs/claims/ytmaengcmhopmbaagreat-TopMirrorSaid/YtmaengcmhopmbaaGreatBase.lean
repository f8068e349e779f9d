/- Words for memory and small lemmas, of no program in particular. -/
import Derived.WalkKit
import Derived.WalkSpells
import Derived.WalkLawsBesides
import Derived.BigQuiet
import Derived.Deep.QuietTactic
import Derived.Lib.Hide
import Derived.Deep.RegionHeld3
import Derived.Deep.DeepCutAuto
import Derived.RangeFuncOwn
import Derived.IntWalk
import Derived.Handy
import Derived.Lib.QuietBelow
namespace Go.Proofs.YtmaengcmhopmbaaGreat
set_option linter.unusedVariables false
open Go.RowKit

/-- w' is w with new blocks: nothing that lay there has changed. -/
def Ext (w w' : World) : Prop := Below w.heap.size w w'
theorem Ext.refl (w : World) : Ext w w := Below.refl _ _
theorem Ext.size {a b : World} (h : Ext a b) : a.heap.size ≤ b.heap.size := Below.size h
theorem Ext.trans {a b c : World} (h : Ext a b) (k : Ext b c) : Ext a c := Below.trans h (Below.mono k (Below.size h))
theorem Ext.drew {a b : World} (h : Ext a b) : Ext a b.drew := Below.drew h
theorem Ext.drewN {a b : World} (h : Ext a b) (n : Nat) : Ext a (b.drewN n) := ⟨h.os, h.tape, h.output, h.size, h.block⟩
theorem Ext.alloc {a b : World} (h : Ext a b) (o : Obj) : Ext a (b.alloc o) := Below.alloc h h.size o
theorem Ext.setCell {a b : World} (h : Ext a b) {p : Addr} (hp : a.heap.size ≤ p.block) (v : Value) : Ext a (b.setCell p v) := Below.setCell h hp v
theorem Ext.cell {a b : World} (h : Ext a b) {p : Addr} (hp : p.block < a.heap.size) : b.cell? p = a.cell? p := Below.cell h hp
theorem Ext.frozen {a b : World} (h : Ext a b) {p : Addr} (hp : p.block < a.heap.size) : b.frozen? p = a.frozen? p := Below.frozen h hp
theorem Ext.keeps {a b : World} (h : Ext a b) : KeepsOthers a b :=
  ⟨h.size, fun k _ hk _ => (Below.block h k (Array.getElem?_eq_some_iff.1 hk).1).trans hk⟩
theorem Ext.below {a b : World} (h : Ext a b) {B : Nat} (hB : B ≤ a.heap.size) : Below B a b := Below.mono h hB

theorem cell_lt {w : World} {p : Addr} {v : Value} (h : w.cell? p = some v) : p.block < w.heap.size := block_lt_of_cell h
theorem Ext.cell_some {a b : World} (h : Ext a b) {p : Addr} {v : Value} (hp : a.cell? p = some v) : b.cell? p = some v := (h.cell (cell_lt hp)).trans hp

/-- What a region that draws its order keeps, in the walk's own shape. -/
def Near (W w' : World) : Prop := Ext W w' ∧ ∀ b o, b < W.heap.size → w'.cell? ⟨b, o, none⟩ = W.cell? ⟨b, o, none⟩
theorem Near.of {W w' : World} (h : Ext W w') : Near W w' := ⟨h, fun b o hb => h.cell (p := ⟨b, o, none⟩) hb⟩
theorem Near.refl (W : World) : Near W W := .of (Ext.refl _)
theorem Near.drew {W w1 : World} (h : Near W w1) : Near W w1.drew := .of h.1.drew
theorem Near.step {W w1 w2 : World} (h : Near W w1) (hb : Ext w1 w2) : Near W w2 := .of (h.1.trans hb)

/-- A region that draws its order, whose operations only read and whose callees make memory at most. -/
theorem quiet_cell (W : World) : ∀ d os b o, b < W.heap.size → (Sort.grow (redrawn W d) os).cell? ⟨b, o, none⟩ = W.cell? ⟨b, o, none⟩ :=
  fun d os b o hb => (below_regrown W d os).cell (p := ⟨b, o, none⟩) hb
theorem quiet_near {W w1 : World} (h : Near W w1) : ∀ d os b o, b < W.heap.size → (Sort.grow (redrawn w1 d) os).cell? ⟨b, o, none⟩ = W.cell? ⟨b, o, none⟩ :=
  fun d os b o hb => (quiet_cell w1 d os b o (Nat.lt_of_lt_of_le hb h.1.size)).trans (h.2 b o hb)
theorem quiet_ext {W w1 : World} (h : ∃ p : Regrown, w1 = Sort.grow (redrawn W p.d) p.os) : Ext W w1 := by
  obtain ⟨p, rfl⟩ := h
  exact below_regrown W p.d p.os

/-- A block that is known whole. -/
def Blk (w : World) (g : Nat) (t : TypeId) (cs : Array Value) : Prop := w.heap[g]? = some (.cells cs t (0, 0))
theorem Blk.lt {w : World} {g : Nat} {t : TypeId} {cs : Array Value} (h : Blk w g t cs) : g < w.heap.size := (Array.getElem?_eq_some_iff.1 h).1
theorem Blk.cell {w : World} {g : Nat} {t : TypeId} {cs : Array Value} (h : Blk w g t cs) (i : Nat) : w.cell? ⟨g, i, none⟩ = cs[i]? := cell_of_row w g i cs t (0, 0) h
theorem Blk.frozen {w : World} {g : Nat} {t : TypeId} {cs : Array Value} (h : Blk w g t cs) (i : Nat) : w.frozen? ⟨g, i, none⟩ = false := by
  unfold Blk at h; simp [World.frozen?, h]
theorem Blk.new (w : World) (t : TypeId) (cs : Array Value) : Blk (w.alloc (.cells cs t)) w.heap.size t cs := heap_alloc_new w _
theorem Blk.ext {w w' : World} {g : Nat} {t : TypeId} {cs : Array Value} (h : Blk w g t cs) (hb : Ext w w') : Blk w' g t cs := (Below.block hb g h.lt).trans h

theorem Blk.set0 {w : World} {g : Nat} {t : TypeId} {v : Value} (h : Blk w g t #[v]) (u : Value) : Blk (w.setCell ⟨g, 0, none⟩ u) g t #[u] := by
  unfold Blk at h ⊢
  simp [World.setCell, Array.getElem?_modify, h]
theorem Blk.far {w : World} {g : Nat} {t : TypeId} {cs : Array Value} (h : Blk w g t cs) {p : Addr} (hp : g ≠ p.block) (u : Value) : Blk (w.setCell p u) g t cs := (Below.heap_setCell w p u g hp).trans h
theorem Blk.set_ {w : World} {g : Nat} {t : TypeId} {cs : Array Value} (h : Blk w g t cs) (i : Nat) (u : Value) : Blk (w.setCell ⟨g, i, none⟩ u) g t (cs.setIfInBounds i u) := by
  unfold Blk at h ⊢
  simp [World.setCell, Array.getElem?_modify, h]
theorem Near.set {W w1 : World} (h : Near W w1) {p : Addr} (hp : W.heap.size ≤ p.block) (u : Value) : Near W (w1.setCell p u) := .of (h.1.setCell hp u)
theorem Blk.kept {w w' : World} {g : Nat} {t : TypeId} {cs : Array Value} (h : Blk w g t cs) {row : Option Nat} (hg : w.grownBy w' row) (hr : some g ≠ row) : Blk w' g t cs := (hg.block g h.lt hr).trans h
theorem blk_own {β : Type} (B : Nat) (t : TypeId) (f : β → Array Value) : Own (fun s W => Blk W B t (f s)) := fun s X Y row hs hg hrow =>
  Blk.kept (h := hs) hg (fun e' => by
    obtain ⟨o, ho, hc⟩ := hrow B e'.symm
    have h2 : X.heap[B]? = some (.cells (f s) t (0, 0)) := hs
    rw [h2] at ho; cases ho; cases hc)

/-- The world behind one new block, under a name of its own. -/
theorem box1 (w : World) (cs : Array Value) (t : TypeId) : ∃ W, w.alloc (.cells cs t) = W ∧ Ext w W ∧ Blk W w.heap.size t cs ∧ w.heap.size < W.heap.size :=
  ⟨_, rfl, (Ext.refl w).alloc _, Blk.new w t cs, by simp⟩

theorem box2 (w : World) (cs ds : Array Value) (t u : TypeId) : ∃ W, (w.alloc (.cells cs t)).alloc (.cells ds u) = W ∧ Ext w W ∧ Blk W w.heap.size t cs ∧ Blk W (w.heap.size + 1) u ds ∧ w.heap.size < W.heap.size ∧ w.heap.size + 1 < W.heap.size := by
  refine ⟨_, rfl, ((Ext.refl w).alloc _).alloc _, (Blk.new w t cs).ext ((Ext.refl _).alloc _), ?_, by simp; omega, by simp⟩
  have := Blk.new (w.alloc (.cells cs t)) u ds
  simpa using this

theorem ret_i64 {a b : Int} (h : a = b) : Ending.returned (.int .i64 a) = .returned (.int .i64 b) := by rw [h]
theorem ret_bool {a b : Bool} (h : a = b) : Ending.returned (.bool a) = .returned (.bool b) := by rw [h]

theorem nonneg_mul {a b : Int} (ha : 0 ≤ a) (hb : 0 ≤ b) : 0 ≤ a * b := Int.mul_nonneg ha hb
theorem mul_le_of {a b A B : Int} (ha : 0 ≤ a) (hA : a ≤ A) (hb : 0 ≤ b) (hB : b ≤ B) : 0 ≤ a * b ∧ a * b ≤ A * B :=
  ⟨Int.mul_nonneg ha hb, Int.mul_le_mul hA hB hb (Int.le_trans ha hA)⟩
theorem div_bd {a r : Int} (ha : 0 ≤ a) : 0 ≤ a / r ∨ r < 0 := by
  by_cases h : r < 0
  · exact .inr h
  · exact .inl (Int.ediv_nonneg ha (by omega))
theorem div_le {a r : Int} (ha : 0 ≤ a) (hr : 1 ≤ r) : 0 ≤ a / r ∧ a / r ≤ a := ⟨Int.ediv_nonneg ha (by omega), Int.ediv_le_self _ ha⟩

end Go.Proofs.YtmaengcmhopmbaaGreat
