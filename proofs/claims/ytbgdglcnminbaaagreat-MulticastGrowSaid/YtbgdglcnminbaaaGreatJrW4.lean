
/- Layer 24 (journey): the walk of the frontier's next. -/
import Derived.Test.YtbgdglcnminbaaaGreatJrW2
namespace Go.Proofs.YtbgdglcnminbaaaGreat
set_option linter.unusedVariables false
open Go.RowKit Go.Shelf

def EBool : Elt Bool := ⟨fun x => [.bool x], 1, fun _ => rfl, by omega, fun x u hu => by simp at hu; subst hu; rfl⟩
theorem Owns.gb {w : World} {base : Nat} {e : TypeId} {g n c : Nat} {m : List Bool} (h : Owns EBool w base e (.slice (some ⟨g, 0, none⟩) n c) m) {i : Int} (hi : i.toNat < m.length) :
    w.cell? ⟨g, i.toNat, none⟩ = some (.bool (gb m i)) := by
  obtain ⟨cur, hb, _, _, hc⟩ := h.there_
  have h1 := hc i.toNat hi 0 (by decide)
  have e1 : i.toNat * EBool.size + 0 = i.toNat := by show i.toNat * 1 + 0 = _; omega
  rw [e1] at h1
  rw [hb.cell, h1]
  simp [EBool, Go.Proofs.YtbgdglcnminbaaaGreat.gb, hi]
theorem Owns.freeb {w : World} {base : Nat} {e : TypeId} {g n c : Nat} {m : List Bool} (h : Owns EBool w base e (.slice (some ⟨g, 0, none⟩) n c) m) : g < w.heap.size ∧ ∀ i, w.frozen? ⟨g, i, none⟩ = false := by
  obtain ⟨cur, hb, _, _, hc⟩ := h.there_
  exact ⟨hb.lt, hb.frozen⟩
theorem Owns.setb {w : World} {base : Nat} {e : TypeId} {g n c : Nat} {m : List Bool} (h : Owns EBool w base e (.slice (some ⟨g, 0, none⟩) n c) m) {k : Nat} (hk : k < m.length) (y : Bool) :
    Owns EBool (w.setCell ⟨g, k, none⟩ (.bool y)) base e (.slice (some ⟨g, 0, none⟩) n c) (m.set k y) := by
  have h1 := h.set_ hk y
  have e1 : k * EBool.size = k := Nat.mul_one k
  rw [e1] at h1
  exact h1

/-- The node with the least time that was not left, among the first k. -/
def IsNext (m : List Int) (lf : List Bool) (k : Nat) (r : Int) : Prop :=
  (r = -1 ∧ ∀ i : Int, 0 ≤ i → i < k → gb lf i = false → 0 ≤ gi m i → False) ∨
  (0 ≤ r ∧ r < k ∧ gb lf r = false ∧ 0 ≤ gi m r ∧ ∀ i : Int, 0 ≤ i → i < k → gb lf i = false → 0 ≤ gi m i → gi m r ≤ gi m i)
theorem IsNext.zero (m : List Int) (lf : List Bool) : IsNext m lf 0 (-1) := .inl ⟨rfl, fun i h0 h1 => by omega⟩
theorem IsNext.skip {m : List Int} {lf : List Bool} {k : Nat} {r : Int} (h : IsNext m lf k r) (hs : gi m (k : Int) < 0 ∨ gb lf (k : Int) = true) : IsNext m lf (k + 1) r := by
  have key : ∀ i : Int, 0 ≤ i → i < ((k + 1 : Nat) : Int) → gb lf i = false → 0 ≤ gi m i → i < k := fun i h0 h1 h2 h3 => by
    apply Classical.byContradiction
    intro hh
    have e : i = k := by omega
    subst e
    rcases hs with hs | hs
    · omega
    · rw [hs] at h2; cases h2
  rcases h with ⟨h1, h2⟩ | ⟨h1, h2, h3, h4, h5⟩
  · exact .inl ⟨h1, fun i a b c d => h2 i a (key i a b c d) c d⟩
  · exact .inr ⟨h1, by omega, h3, h4, fun i a b c d => h5 i a (key i a b c d) c d⟩
theorem IsNext.keep {m : List Int} {lf : List Bool} {k : Nat} {r : Int} (h : IsNext m lf k r) (hr : 0 ≤ r) (hs : gi m r ≤ gi m (k : Int)) : IsNext m lf (k + 1) r := by
  rcases h with ⟨h1, h2⟩ | ⟨h1, h2, h3, h4, h5⟩
  · omega
  · refine .inr ⟨h1, by omega, h3, h4, fun i a b c d => ?_⟩
    by_cases e : i = k
    · rw [e]; exact hs
    · exact h5 i a (by omega) c d
theorem IsNext.take {m : List Int} {lf : List Bool} {k : Nat} {r : Int} (h : IsNext m lf k r) (h0 : 0 ≤ gi m (k : Int)) (hl : gb lf (k : Int) = false) (hs : r < 0 ∨ gi m (k : Int) < gi m r) : IsNext m lf (k + 1) (k : Int) := by
  refine .inr ⟨by omega, by omega, hl, h0, fun i a b c d => ?_⟩
  by_cases e : i = k
  · rw [e]; exact Int.le_refl _
  · rcases h with ⟨h1, h2⟩ | ⟨h1, h2, h3, h4, h5⟩
    · exact (h2 i a (by omega) c d).elim
    · have := h5 i a (by omega) c d; omega
theorem IsNext.rng {m : List Int} {lf : List Bool} {k : Nat} {r : Int} (h : IsNext m lf k r) : -1 ≤ r ∧ r < k := by
  rcases h with ⟨h1, h2⟩ | ⟨h1, h2, h3, h4, h5⟩ <;> omega

def NextP (m : List Int) (lf : List Bool) (N g2 : Nat) (w : World) (e : Ending) (w' : World) : Prop :=
  ∃ r : Int, e = .returned (.int .i64 r) ∧ IsNext m lf N r ∧ ((r = -1 ∧ w' = w) ∨ (0 ≤ r ∧ w' = w.setCell ⟨g2, r.toNat, none⟩ (.bool true)))

end Go.Proofs.YtbgdglcnminbaaaGreat
