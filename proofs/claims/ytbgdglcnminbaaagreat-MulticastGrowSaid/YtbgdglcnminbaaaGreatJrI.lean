
/- Layer 24 (journey): the iterator over the hops from a node. -/
import Derived.Test.YtbgdglcnminbaaaGreatJrW4
namespace Go.Proofs.YtbgdglcnminbaaaGreat
set_option linter.unusedVariables false
open Go.RowKit Go.Shelf
attribute [local go_sem] Oper.semAt_some

/-- What a round keeps: all below n but the block g. -/
structure KpX (n g : Nat) (W W' : World) : Prop where
  os : W'.os = W.os
  tape : W'.tape = W.tape
  output : W'.output = W.output
  size : W.heap.size ≤ W'.heap.size
  block : ∀ k, k < n → k ≠ g → W'.heap[k]? = W.heap[k]?
theorem KpX.refl (n g : Nat) (W : World) : KpX n g W W := ⟨rfl, rfl, rfl, Nat.le_refl _, fun _ _ _ => rfl⟩
theorem KpX.trans {n g : Nat} {A B C : World} (h : KpX n g A B) (k : KpX n g B C) : KpX n g A C :=
  ⟨k.os.trans h.os, k.tape.trans h.tape, k.output.trans h.output, Nat.le_trans h.size k.size, fun i h1 h2 => (k.block i h1 h2).trans (h.block i h1 h2)⟩
theorem KpX.of_ext {n g : Nat} {W W' : World} (hn : n ≤ W.heap.size) (h : Ext W W') : KpX n g W W' :=
  ⟨h.os, h.tape, h.output, h.size, fun k hk _ => h.block k (by omega)⟩
theorem KpX.setCell {n g : Nat} (W : World) (o : Nat) (v : Value) : KpX n g W (W.setCell ⟨g, o, none⟩ v) :=
  ⟨rfl, rfl, rfl, by simp [World.setCell], fun k _ hne => Below.heap_setCell W ⟨g, o, none⟩ v k (fun e => hne (by rw [e]))⟩
theorem KpX.put {n g : Nat} (W : World) (l : Nat) (o : Obj) (hl : n ≤ l) : KpX n g W (W.putObj l o) :=
  ⟨rfl, rfl, rfl, by simp, fun k hk _ => World.putObj_heap_other (by omega)⟩
theorem KpX.blk {n g : Nat} {W W' : World} (h : KpX n g W W') {b : Nat} {t : TypeId} {cs : Array Value} (hb : Blk W b t cs) (h1 : b < n) (h2 : b ≠ g) : Blk W' b t cs := (h.block b h1 h2).trans hb
theorem KpX.below {n g B : Nat} {W W' : World} (h : KpX n g W W') (h1 : B ≤ n) (h2 : B ≤ g) : Below B W W' :=
  ⟨h.os, h.tape, h.output, h.size, fun k hk => h.block k (by omega) (by omega)⟩
theorem KpX.ext {n g : Nat} {w W W' : World} (h : KpX n g W W') (hw : Ext w W) (h1 : w.heap.size ≤ n) (h2 : w.heap.size ≤ g) : Ext w W' := Below.trans hw (h.below h1 h2)
theorem grown_none {W W' : World} (h : Ext W W') : W.grownBy W' none := grown_ext (World.grownBy.refl W none) h
theorem abides_ext {β : Type} {B : Nat} {J : β → World → Prop} (h : AbidesFrom B J) {s : β} {W W' : World} (hs : J s W) (he : Ext W W') : J s W' :=
  h s W W' none hs (grown_none he) (fun r e => by cases e)

abbrev HopX (p : Pln) (node t n : Int) := { x : Nat × Con // p.cons[x.1]? = some x.2 ∧ x.2.src = node ∧ earr x.2 t n ≠ -1 }
def HopC (p : Pln) (node t n : Int) (pre : List (HopX p node t n)) (k : Nat) : Prop := ∀ i c, i < k → p.cons[i]? = some c → c.src = node → earr c t n ≠ -1 → ∃ x ∈ pre, x.1 = (i, c)
theorem HopC.skip {p : Pln} {node t n : Int} {pre : List (HopX p node t n)} {k : Nat} {y : Con} (h : HopC p node t n pre k) (hy : p.cons[k]? = some y) (hn : y.src ≠ node ∨ earr y t n = -1) : HopC p node t n pre (k + 1) := by
  intro i c hi hc hs he
  by_cases e : i = k
  · subst e
    rw [hy] at hc; cases hc
    rcases hn with hn | hn
    · exact absurd hs hn
    · exact absurd hn he
  · exact h i c (by omega) hc hs he
theorem HopC.more {p : Pln} {node t n : Int} {pre : List (HopX p node t n)} {k : Nat} (h : HopC p node t n pre k) (x : HopX p node t n) (hx : x.1.1 = k) : HopC p node t n (pre ++ [x]) (k + 1) := by
  intro i c hi hc hs he
  by_cases e : i = k
  · subst e
    refine ⟨x, by simp, ?_⟩
    have h1 := x.2.1
    rw [hx, hc] at h1
    injection h1 with h1
    rw [← hx]
    exact Prod.ext rfl h1.symm
  · obtain ⟨y, hy, e2⟩ := h i c (by omega) hc hs he
    exact ⟨y, by simp [hy], e2⟩
def HopS (p : Pln) (node t n : Int) (ys : List (HopX p node t n)) : Prop := HopC p node t n ys p.cons.length
theorem hopV_yes {i : Nat} {c : Con} {t n : Int} (he : earr c t n ≠ -1) : hopV i c t n = .tuple #[.agg #[.int .i64 i, .int .i64 (c.beg t), .int .i64 (c.beg t + c.dur n), .int .i64 (earr c t n)], .bool true] := by
  have hd : decide (earr c t n ≠ -1) = true := by simpa using he
  unfold hopV hopR
  rw [if_neg he, hd]
  unfold Hp.val
  rw [hopAt_arr he]
  rfl
theorem hopV_no {i : Nat} {c : Con} {t n : Int} (he : earr c t n = -1) : hopV i c t n = .tuple #[.agg #[.int .i64 0, .int .i64 0, .int .i64 0, .int .i64 0], .bool false] := by
  simp [hopV, hopR, he, Hp.val]
def hopX {p : Pln} {node t n : Int} (x : HopX p node t n) : Array Value := #[.agg #[.int .i64 x.1.1, .int .i64 (x.1.2.beg t), .int .i64 (x.1.2.beg t + x.1.2.dur n), .int .i64 (earr x.1.2 t n)]]

end Go.Proofs.YtbgdglcnminbaaaGreat
