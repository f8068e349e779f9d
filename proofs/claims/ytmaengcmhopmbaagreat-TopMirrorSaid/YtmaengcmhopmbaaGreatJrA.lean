
/- Layer 24 (journey): words for the walk of arrivals. -/
import Derived.Test.YtmaengcmhopmbaaGreatJrI
import Derived.Test.YtmaengcmhopmbaaGreatJrR
namespace Go.Proofs.YtmaengcmhopmbaaGreat
set_option linter.unusedVariables false
open Go.RowKit Go.Shelf

theorem info_bool : (Tryz.prog.info? 4).map (fun i => (i.zero, i.size, i.bytes)) = some (some (.bool false), 1, 1) := by kernel_rfl
/-- Behind the statement that makes the frontier. -/
def FrR (W : World) (N : Nat) (f : Value) (w' : World) : Prop :=
  ∃ V F g1 c1 g2 c2, f = .pointer (some ⟨V, 0, none⟩) ∧ Blk w' V 98 #[.pointer (some ⟨F, 0, none⟩)] ∧ Blk w' F 102 #[.slice (some ⟨g1, 0, none⟩) N c1, .slice (some ⟨g2, 0, none⟩) N c2] ∧
    Owns EInt w' W.heap.size 3 (.slice (some ⟨g1, 0, none⟩) N c1) (List.replicate N (-1)) ∧ Owns EBool w' W.heap.size 4 (.slice (some ⟨g2, 0, none⟩) N c2) (List.replicate N false) ∧ Ext W w' ∧
    W.heap.size ≤ V ∧ W.heap.size ≤ F ∧ W.heap.size ≤ g1 ∧ W.heap.size ≤ g2 ∧ V ≠ F ∧ V ≠ g1 ∧ V ≠ g2 ∧ F ≠ g1 ∧ F ≠ g2 ∧ g1 ≠ g2

theorem blk_alloc_iff (W : World) (o : Obj) (k : Nat) (t : TypeId) (cs : Array Value) : Blk (W.alloc o) k t cs ↔ if k = W.heap.size then o = .cells cs t (0, 0) else Blk W k t cs := by
  unfold Blk
  by_cases h : k = W.heap.size
  · subst h
    rw [if_pos rfl, World.alloc_heap_new]
    exact ⟨fun h => by injection h, fun h => by rw [h]⟩
  · rw [if_neg h]
    by_cases h2 : k < W.heap.size
    · rw [Below.heap_alloc W o k h2]
    · rw [Array.getElem?_eq_none (by simp; omega), Array.getElem?_eq_none (by omega)]
theorem blk_drew (W : World) (k : Nat) (t : TypeId) (cs : Array Value) : Blk W.drew k t cs ↔ Blk W k t cs := Iff.rfl
theorem Near.alloc {W w1 : World} (h : Near W w1) (o : Obj) : Near W (w1.alloc o) := .of (h.1.alloc o)
theorem ne2 (a : Nat) : (a = a + 1 + 1) ↔ False := ⟨fun h => by omega, False.elim⟩
theorem ne2' (a : Nat) : (a + 1 + 1 = a) ↔ False := ⟨fun h => by omega, False.elim⟩
theorem blk_no0 (W : World) (t : TypeId) (cs : Array Value) : Blk W W.heap.size t cs ↔ False := ⟨fun h => absurd h.lt (by omega), False.elim⟩
theorem blk_no1 (W : World) (t : TypeId) (cs : Array Value) : Blk W (W.heap.size + 1) t cs ↔ False := ⟨fun h => absurd h.lt (by omega), False.elim⟩
theorem blk_no2 (W : World) (t : TypeId) (cs : Array Value) : Blk W (W.heap.size + 1 + 1) t cs ↔ False := ⟨fun h => absurd h.lt (by omega), False.elim⟩
theorem owns_blk {α : Type} {E : Elt α} {w : World} {g base : Nat} {t : TypeId} {l : List α} (h : Blk w g t (E.all l).toArray) (hb : base ≤ g) (hm : l.length ≤ maxLen) : Owns E w base t (.slice (some ⟨g, 0, none⟩) l.length l.length) l :=
  ⟨E.all_len l, .inr ⟨g, l.length, _, rfl, hb, h, Nat.le_refl _, hm, by rw [List.size_toArray, E.all_len], by rw [List.take_of_length_le (by rw [E.all_len]; exact Nat.le_refl _)]⟩⟩
theorem Owns.alloc1 {α : Type} {E : Elt α} {w : World} {base : Nat} {e : TypeId} {v : Value} {l : List α} (h : Owns E w base e v l) (o : Obj) : Owns E (w.alloc o) base e v l := h.ext ((Ext.refl w).alloc o)
theorem Owns.setfar {α : Type} {E : Elt α} {w : World} {base g n c : Nat} {e : TypeId} {l : List α} (h : Owns E w base e (.slice (some ⟨g, 0, none⟩) n c) l) {b : Nat} (hne : g ≠ b) (o : Nat) (u : Value) : Owns E (w.setCell ⟨b, o, none⟩ u) base e (.slice (some ⟨g, 0, none⟩) n c) l :=
  h.kept (grown_setCell (World.grownBy.refl w _) o u) (fun g' hg' e' => by injection e' with e'; injection hg' with hg'; exact hne (hg'.trans e'))
theorem blk_setCell_ne {w : World} {g o k : Nat} {v : Value} {t : TypeId} {cs : Array Value} (h : ¬ k = g) : Blk (w.setCell ⟨g, o, none⟩ v) k t cs ↔ Blk w k t cs := by
  unfold Blk
  rw [Below.heap_setCell w ⟨g, o, none⟩ v k h]
theorem blk_here {w : World} {k : Nat} {t : TypeId} {cs : Array Value} (h : k = w.heap.size) : Blk (w.alloc (.cells cs t)) k t cs := by subst h; exact Blk.new w t cs
theorem blk_there {w : World} {k : Nat} {t : TypeId} {cs : Array Value} (h : Blk w k t cs) (o : Obj) : Blk (w.alloc o) k t cs := h.ext ((Ext.refl w).alloc o)
theorem blk_past {w : World} {g o k : Nat} {v : Value} {t : TypeId} {cs : Array Value} (h : Blk w k t cs) (hne : ¬ k = g) : Blk (w.setCell ⟨g, o, none⟩ v) k t cs := (blk_setCell_ne hne).2 h
theorem allBool_rep : ∀ n, Array.replicate n (Value.bool false) = (EBool.all (List.replicate n false)).toArray
  | n => by
    have : ∀ n, List.replicate n (Value.bool false) = EBool.all (List.replicate n false) := fun n => by
      induction n with
      | zero => rfl
      | succ n ih => rw [List.replicate_succ, List.replicate_succ, ih]; rfl
    rw [← this]; simp
theorem own_bool {w : World} {g base N : Nat} {t : TypeId} (h : Blk w g t (Array.replicate N (.bool false))) (hb : base ≤ g) (hN : N ≤ 16) : Owns EBool w base t (.slice (some ⟨g, 0, none⟩) N N) (List.replicate N false) := by
  rw [allBool_rep] at h
  have := owns_blk h hb (by rw [List.length_replicate]; unfold maxLen; omega)
  rw [List.length_replicate] at this
  exact this
theorem repeat_sl (b o c : Nat) (v : Int) (N : Nat) (w : World) (hx : Rd EInt w (some ⟨b, o, none⟩) [v]) (h1 : 1 ≤ N) (h2 : N ≤ 16) :
    Calls Tryz.prog 41 #[.slice (some ⟨b, o, none⟩) 1 c, .int .i64 N] w fun e w' => ∃ g d, e = .returned (.slice (some ⟨g, 0, none⟩) N d) ∧ Owns EInt w' w.heap.size 3 (.slice (some ⟨g, 0, none⟩) N d) (List.replicate N v) ∧ w.heap.size ≤ g ∧ g < w'.heap.size ∧ Ext w w' := by
  refine (repeat_any b o c v N w hx h1 h2).mono ?_
  rintro e w' ⟨u, rfl, hu, hb⟩
  obtain ⟨A, d, rfl, hR⟩ := hu.form
  obtain ⟨g, rfl, hg⟩ := hu.some_ (by simp; omega)
  have h3 := hu.block (g := g) rfl
  rw [List.length_replicate] at hu ⊢
  exact ⟨g, d, rfl, hu, hg, h3.2, hb⟩

end Go.Proofs.YtmaengcmhopmbaaGreat
