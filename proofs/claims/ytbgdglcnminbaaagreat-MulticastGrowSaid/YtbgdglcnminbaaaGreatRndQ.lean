/- A region that draws its order and only reads, inside a round of a range over a function. -/
import Derived.Test.YtbgdglcnminbaaaGreatBase
import Derived.Sort.QuietIn
import Derived.RangeFuncNested
import Derived.Lib.QuietBelowIn
namespace Go.Proofs.YtbgdglcnminbaaaGreat
set_option linter.unusedVariables false
open Go Go.RowKit

def noDefer (l : List Oper) : Bool := l.all fun o => match o.op with
  | .defer _ => false
  | _ => true
theorem noDefer_get {l : List Oper} (h : noDefer l = true) {i : Nat} {o : Oper} (hi : l.toArray[i]? = some o) : ∀ c, o.op ≠ .defer c := by
  intro c hc
  have hm : o ∈ l := by
    have := List.mem_of_getElem? (l := l) (i := i) (a := o) (by simpa using hi)
    exact this
  have := List.all_eq_true.1 h o hm
  rw [hc] at this
  cases this
section
variable {F : Fence} {n : Nat} {P : Program} {Q : Exit → Act → World → Prop}
theorem op_round {o : Oper} {a : Act} {w : World} {K : Act → World → Prop} (l0 : Nat) (hro : F.round = none) (hd : ∀ c, o.op ≠ .defer c) (h : o.wpIn F n P a w K Q) : o.wpIn (F.inRound l0) n P a w K Q := by
  unfold Oper.wpIn at h ⊢
  rw [hro, Oper.semAt_none] at h
  rw [Fence.inRound_round, Oper.semAt_some l0 _ _ hd]
  exact h
theorem wpOpIn_round {l : List Oper} {i : Nat} {a : Act} {w : World} {K K' : Act → World → Prop} (l0 : Nat) (hro : F.round = none) (hd : noDefer l = true) (hK : ∀ a w, K a w → K' a w) (h : wpOpIn F n P l.toArray Q i K a w) : wpOpIn (F.inRound l0) n P l.toArray Q i K' a w := by
  have h := wpOpIn_mono hK h
  unfold wpOpIn at h ⊢
  split
  · rename_i h0; simp only [h0] at h; exact h
  · rename_i o h0
    simp only [h0] at h
    split
    · rename_i hw; simp only [hw, if_true] at h; exact op_round l0 hro (noDefer_get hd h0) h
    · rename_i hw; simp only [hw] at h; exact h
theorem wpAnyIn_round {l : List Oper} {md : Region.Mode} (l0 : Nat) (hro : F.round = none) (hd : noDefer l = true) : ∀ (fuel : Nat) (listed : Array Bool) (a : Act) (w : World), wpAnyIn F n P md l.toArray Q fuel listed a w → wpAnyIn (F.inRound l0) n P md l.toArray Q fuel listed a w
  | 0, _, _, _, h => h
  | fuel + 1, _, _, _, h => ⟨h.1, fun i hi => wpOpIn_round l0 hro hd (wpAnyIn_round l0 hro hd fuel _) (h.2 i hi)⟩
open Go.Sort in
theorem wpIn_region_quiet_round {l0 id : Nat} {a : Act} {w : World} {l : List Oper} (hro : F.round = none) (hm : P.follows .mixedOrders = true) (hB : Region.lexB .any l.toArray = true) (hd : noDefer l = true)
    (h : wpQuietIn F n P l.toArray (fun w' => ∃ n, w' = w.drewN n) (fun a' => ∀ w', (∃ n, w' = w.drewN n) → Q .normal a' w') l a) : (Code.region id l.toArray true).wpIn (F.inRound l0) n P Q a w := by
  simp only [Region.lexB, Bool.and_eq_true] at hB
  refine wpIn_region_any hm (wpAnyIn_round l0 hro hd _ _ _ _ (wpAnyIn_of_quiet (C := fun w' => ∃ n, w' = w.drewN n) (Q := fun a' => ∀ w', (∃ n, w' = w.drewN n) → Q .normal a' w') hro (fun _ w' hw' h => h w' hw') _ _ _ _ ⟨1, rfl⟩ ?_))
  have := wpAnyQIn_lex (F := F) (n := n) (C := fun w' => ∃ n, w' = w.drewN n) (md := .any) hB.1 l.toArray.toList 0 (Array.replicate l.toArray.size false) a (by simp) (by simpa using hB.2) (by simpa using h)
  simpa using this
end
theorem quiet_drew {W w1 : World} (h : ∃ n, w1 = W.drewN n) : Ext W w1 := by obtain ⟨n, rfl⟩ := h; exact (Ext.refl W).drewN n

end Go.Proofs.YtbgdglcnminbaaaGreat
