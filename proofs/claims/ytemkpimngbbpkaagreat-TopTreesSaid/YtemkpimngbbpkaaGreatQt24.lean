/- Layer 26 (reach): slices.Clone and slices.DeleteFunc of numbers. -/
import Derived.Shelf.Slices.Clone
import Derived.Test.YtemkpimngbbpkaaGreatQt02
namespace Go.Proofs.YtemkpimngbbpkaaGreat
set_option linter.unusedVariables false
set_option linter.unusedSimpArgs false
open Go.RowKit Go.Shelf
theorem Owns.cutoff {α : Type} {E : Elt α} {w : World} {base : Nat} {e : TypeId} {g n c : Nat} {m : List α} (h : Owns E w base e (.slice (some ⟨g, 0, none⟩) n c) m) {a : Nat} (ha : a <= m.length) (vs : List Value) (hvs : a * E.size + vs.length <= c * E.size) :
 Owns E (w.setCells g (a * E.size) vs) base e (.slice (some ⟨g, 0, none⟩) a c) (m.take a) := by
 have hn := h.len
 subst hn
 rcases h.2 with ⟨h1, _⟩ | ⟨g', cap, cur, h1, hg, hh, hnc, hcap, hsz, ht⟩
 ·cases h1
 ·injection h1 with h2 h3 h4
  injection h2 with h2
  injection h2 with h2
  subst h2 h4
  have hb := Blk.setCells_ vs (show Blk w g e cur from hh) (a * E.size)
  have hl : (m.take a).length = a := by rw [List.length_take, Nat.min_eq_left ha]
  refine ⟨by rw [E.all_len], .inr ⟨g, c, _, by rw [hl], hg, hb, by omega, hcap, by rw [arrSets_size]; exact hsz, ?_⟩⟩
  rw [hl]
  have hle : a * E.size <= m.length * E.size := Nat.mul_le_mul_right _ ha
  have he : E.all m = E.all (m.take a) ++ E.all (m.drop a) := by rw [<- E.all_append, List.take_append_drop]
  have hla : (E.all (m.take a)).length = a * E.size := by rw [E.all_len, hl]
  apply List.ext_getElem?
  intro q
  by_cases hq : q < a * E.size
  ·rw [List.getElem?_take_of_lt hq, Array.getElem?_toList, arrSets_get _ _ _ _ (by rw [hsz]; exact hvs), if_neg (by omega)]
   have h5 : (E.all m)[q]? = (E.all (m.take a))[q]? := by rw [he, List.getElem?_append_left (by omega)]
   rw [<- h5, <- ht, List.getElem?_take_of_lt (by omega), Array.getElem?_toList]
  ·rw [List.getElem?_take_eq_none (by omega), List.getElem?_eq_none (by omega)]
end Go.Proofs.YtemkpimngbbpkaaGreat
