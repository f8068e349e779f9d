
/- Layer 26 (reach): the reference's hubs, and whether two matrices are equal. -/
import Derived.Test.YtifopbkhflpbfaaGreatRchR
namespace Go.Proofs.YtifopbkhflpbfaaGreat
set_option linter.unusedVariables false
set_option linter.unusedSimpArgs false
open Go.RowKit Go.Shelf

theorem allT_take {l : List Bool} {k : Nat} (h : k < l.length) : allT (l.take (k + 1)) = (allT (l.take k) && l[k]) := by
  unfold allT
  rw [List.take_add_one, List.getElem?_eq_getElem h, List.any_append]
  cases l[k] <;> cases (l.take k).any (fun y => y == false) <;> rfl
theorem MatRd.keptd {β : Type} {E : Elt β} {w w' : World} {base base' : Nat} {v v' : Value} {rows : List (List Bool)} {l : List β} {e : TypeId} (h : MatRd w base v rows) (ho : Owns E w base' e v' l) (h1 : 4 ≠ e) (h2 : 59 ≠ e) (hg : w.grownBy w' v'.ownBlock) : MatRd w' base v rows := by
  obtain ⟨hs, o1, o2, o3⟩ := h
  exact ⟨hs, o1.keptd ho h2 hg, o2, fun i hi hj => (o3 i hi hj).keptd ho h1 hg⟩

end Go.Proofs.YtifopbkhflpbfaaGreat
