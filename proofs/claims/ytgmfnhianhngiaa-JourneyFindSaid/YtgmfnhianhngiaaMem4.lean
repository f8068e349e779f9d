/- Lists in memory: a store into a list of the call's own; clear. -/
import Derived.Test.YtgmfnhianhngiaaMem3
import Derived.Laws.IdiomCopy
namespace Go.Proofs.Ytgmfnhianhngiaa
set_option linter.unusedVariables false
open Go.RowKit

/-- An array with a run of cells written. -/
def arrSets (cs : Array Value) : Nat → List Value → Array Value
  | _, [] => cs
  | o, v :: vs => arrSets (cs.setIfInBounds o v) (o + 1) vs
theorem arrSets_size : ∀ (vs : List Value) (cs : Array Value) (o : Nat), (arrSets cs o vs).size = cs.size
  | [], _, _ => rfl
  | v :: vs, cs, o => by simp [arrSets, arrSets_size vs]
theorem arrSets_get : ∀ (vs : List Value) (cs : Array Value) (o q : Nat), o + vs.length ≤ cs.size → (arrSets cs o vs)[q]? = if o ≤ q ∧ q < o + vs.length then vs[q - o]? else cs[q]?
  | [], cs, o, q, _ => by
    simp only [arrSets, List.length_nil]
    rw [if_neg (by omega)]
  | v :: vs, cs, o, q, h => by
    simp only [arrSets]
    rw [List.length_cons] at h
    rw [arrSets_get vs _ (o + 1) q (by simp; omega), Array.getElem?_setIfInBounds, List.length_cons]
    by_cases h1 : o + 1 ≤ q ∧ q < o + 1 + vs.length
    · rw [if_pos h1, if_pos (by omega)]
      obtain ⟨d, rfl⟩ : ∃ d, q = o + 1 + d := ⟨q - (o + 1), by omega⟩
      rw [show o + 1 + d - (o + 1) = d by omega, show o + 1 + d - o = d + 1 by omega]
      rfl
    · rw [if_neg h1]
      by_cases h2 : o = q
      · subst h2
        rw [if_pos rfl, if_pos (by omega), if_pos (by omega), Nat.sub_self]
        rfl
      · rw [if_neg h2, if_neg (by omega)]

theorem Blk.setCells_ : ∀ (vs : List Value) {w : World} {g : Nat} {t : TypeId} {cs : Array Value} (_ : Blk w g t cs) (o : Nat), Blk (w.setCells g o vs) g t (arrSets cs o vs)
  | [], _, _, _, _, h, _ => h
  | v :: vs, _, _, _, _, h, o => Blk.setCells_ vs (h.set_ o v) (o + 1)

theorem grown_setCells : ∀ (vs : List Value) {a w : World} {g : Nat} (_ : a.grownBy w (some g)) (o : Nat), a.grownBy (w.setCells g o vs) (some g)
  | [], _, _, _, h, _ => h
  | v :: vs, a, w, g, h, o => grown_setCells vs (w := w.setCell ⟨g, o, none⟩ v) ⟨h.os, h.tape, h.output, by simpa [World.setCell] using h.size, fun i hi hne => (Below.heap_setCell w ⟨g, o, none⟩ v i (fun e => hne (by rw [e]))).trans (h.block i hi hne)⟩ (o + 1)
theorem ext_setCells {a w : World} {g : Nat} (h : Ext a w) (hg : a.heap.size ≤ g) (o : Nat) (vs : List Value) : Ext a (w.setCells g o vs) :=
  Below.grown h (grown_setCells vs (World.grownBy.refl w _) o) h.size (fun k hk => by injection hk with hk; omega)

section
variable {α : Type} {E : Elt α} {w w' : World} {A : Option Addr} {l m : List α} {P : Program}
theorem all_set (k : Nat) (y : α) : ∀ (m : List α), k < m.length → ∀ q, (E.all (m.set k y))[q]? = if k * E.size ≤ q ∧ q < k * E.size + E.size then (E.cells y)[q - k * E.size]? else (E.all m)[q]? := by
  intro m hk q
  have hpos := E.pos
  by_cases hq : q < m.length * E.size
  · have hk1 : q / E.size < m.length := Nat.div_lt_of_lt_mul (by rw [Nat.mul_comm]; exact hq)
    have hr : q % E.size < E.size := Nat.mod_lt _ hpos
    have e1 : q / E.size * E.size + q % E.size = q := by rw [Nat.mul_comm]; exact Nat.div_add_mod q E.size
    have h1 := E.all_at (m.set k y) (q / E.size) (by simpa using hk1) (q % E.size) hr
    have h2 := E.all_at m (q / E.size) hk1 (q % E.size) hr
    rw [e1] at h1 h2
    rw [h1, h2]
    by_cases e : q / E.size = k
    · subst e
      rw [if_pos (by constructor <;> omega)]
      simp only [List.getElem_set_self]
      congr 1
      omega
    · rw [if_neg]
      · rw [List.getElem_set_ne (by omega)]
      · rintro ⟨a, b⟩
        apply e
        exact Nat.div_eq_of_lt_le a (by rw [Nat.add_mul, Nat.one_mul]; exact b)
  · rw [if_neg, List.getElem?_eq_none (by rw [E.all_len]; simpa using Nat.le_of_not_lt hq), List.getElem?_eq_none (by rw [E.all_len]; exact Nat.le_of_not_lt hq)]
    rintro ⟨a, b⟩
    apply hq
    have : (k + 1) * E.size ≤ m.length * E.size := Nat.mul_le_mul_right _ hk
    rw [Nat.add_mul, Nat.one_mul] at this
    omega

theorem Owns.set_ {base : Nat} {e : TypeId} {g n c : Nat} (h : Owns E w base e (.slice (some ⟨g, 0, none⟩) n c) m) {k : Nat} (hk : k < m.length) (y : α) :
    Owns E (w.setCells g (k * E.size) (E.cells y)) base e (.slice (some ⟨g, 0, none⟩) n c) (m.set k y) := by
  have hn := h.len
  subst hn
  rcases h.2 with ⟨h1, _⟩ | ⟨g', cap, cur, h1, hg, hh, hnc, hcap, hsz, ht⟩
  · cases h1
  · injection h1 with h2 h3 h4
    injection h2 with h2
    injection h2 with h2
    subst h2 h4
    have hb := Blk.setCells_ (E.cells y) (show Blk w g e cur from hh) (k * E.size)
    refine ⟨by rw [E.all_len], .inr ⟨g, c, _, by rw [List.length_set], hg, hb, by rw [List.length_set]; exact hnc, hcap, by rw [arrSets_size]; exact hsz, ?_⟩⟩
    rw [List.length_set]
    have hle : (k + 1) * E.size ≤ m.length * E.size := Nat.mul_le_mul_right _ hk
    have hle2 : m.length * E.size ≤ c * E.size := Nat.mul_le_mul_right _ hnc
    rw [Nat.add_mul, Nat.one_mul] at hle
    apply List.ext_getElem?
    intro q
    rw [all_set k y m hk q]
    by_cases hq : q < m.length * E.size
    · rw [List.getElem?_take_of_lt hq, Array.getElem?_toList, arrSets_get _ _ _ _ (by rw [E.len]; omega), E.len]
      split
      · rfl
      · rw [← ht, List.getElem?_take_of_lt hq, Array.getElem?_toList]
    · rw [List.getElem?_take_eq_none (by omega), if_neg (by omega), List.getElem?_eq_none (by rw [E.all_len]; omega)]

/-- The cells of element k may be written. -/
theorem Owns.there_ {base : Nat} {e : TypeId} {g n c : Nat} (h : Owns E w base e (.slice (some ⟨g, 0, none⟩) n c) m) :
    ∃ cur : Array Value, Blk w g e cur ∧ cur.size = c * E.size ∧ m.length ≤ c ∧ ∀ (k : Nat) (hk : k < m.length) (j : Nat), j < E.size → cur[k * E.size + j]? = (E.cells m[k])[j]? := by
  have hn := h.len
  subst hn
  rcases h.2 with ⟨h1, _⟩ | ⟨g', cap, cur, h1, hg, hh, hnc, hcap, hsz, ht⟩
  · cases h1
  · injection h1 with h2 h3 h4
    injection h2 with h2
    injection h2 with h2
    subst h2 h4
    refine ⟨cur, hh, hsz, hnc, fun k hk j hj => ?_⟩
    rw [← E.all_at m k hk j hj, ← ht]
    have hle : (k + 1) * E.size ≤ m.length * E.size := Nat.mul_le_mul_right _ hk
    rw [Nat.add_mul, Nat.one_mul] at hle
    rw [List.getElem?_take_of_lt (by omega), Array.getElem?_toList]
end

end Go.Proofs.Ytgmfnhianhngiaa
