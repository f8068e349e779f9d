
/- Layer 24 (journey): words for JourneyHops: a map of times that reads as a list of times. -/
import Derived.Test.YtgmfnhianhngiaaJrL1
import Derived.Maps.OwnSet
import Derived.Maps.OwnOps
import Derived.Maps.RangeWalk
import Derived.Maps.Ext
namespace Go.Proofs.Ytgmfnhianhngiaa
set_option linter.unusedVariables false
set_option linter.unusedSimpArgs false
open Go.RowKit Go.Shelf Go.Maps

theorem law_int : Keyed Try.prog 3 := int_keyed Try.underlying3
theorem zero_int (w : World) : (zeroValue 3).run Try.prog w = .ok (.int .i64 0) w := by kernel_rfl
theorem wf64 {z : Int} (h : -9223372036854775808 ≤ z ∧ z ≤ 9223372036854775807) : (Lit.int .i64 z).wf = true := by
  simp [Lit.wf, IntKind.min, IntKind.max, IntKind.bits, IntKind.signed]; omega

/-- The datum of a map of times reads as the list of the times. -/
def LD (N : Nat) (out : List Int) (D : DataW Unit) : Prop :=
  ∀ k : Int, 0 ≤ k → k < N → Maps.has D (.int .i64 k) = decide (0 ≤ gi out k) ∧ (0 ≤ gi out k → ∀ z, D.atKey (.int .i64 k) z = .lit (.int .i64 (gi out k)))
theorem key_int (k : Int) : WideAt.IsKeyLit (Lit.int .i64 k) := trivial
theorem lit_ne {j k : Int} (h : k ≠ j) : (Lit.int .i64 k) ≠ (Lit.int .i64 j) := fun e => h (by injection e)
theorem LD.put {N : Nat} {out : List Int} {D : DataW Unit} (h : LD N out D) (hm : Maps.IsMap D) (hl : out.length = N) {j a : Int} (h0 : 0 ≤ j) (h1 : j < N) (ha : 0 ≤ a) :
    LD N (out.set j.toNat a) (D.put (.int .i64 j) (.lit (.int .i64 a))) := by
  intro k k0 k1
  rw [gi_set (by omega)]
  by_cases e : k = j
  · subst e
    rw [if_pos rfl]
    exact ⟨by rw [has_put_same hm (key_int k)]; simp [ha], fun _ z => atKey_put_same hm (key_int k) _ _⟩
  · rw [if_neg (by omega)]
    have h2 := h k k0 k1
    exact ⟨by rw [has_put_other (lit_ne e)]; exact h2.1, fun h3 z => by rw [atKey_put_other (lit_ne e)]; exact h2.2 h3 z⟩
theorem LD.start {N : Nat} {src t0 : Int} (h0 : 0 ≤ src) (h1 : src < N) (ht : 0 ≤ t0) : LD N (lstart N src t0) ((DataW.map []).put (.int .i64 src) (.lit (.int .i64 t0))) := by
  intro k k0 k1
  rw [lstart_gi h0 h1 k0 k1]
  by_cases e : k = src
  · subst e
    rw [if_pos rfl]
    exact ⟨by rw [has_put_same isMap_empty (key_int k)]; simp [ht], fun _ z => atKey_put_same isMap_empty (key_int k) _ _⟩
  · rw [if_neg e]
    exact ⟨by rw [has_put_other (lit_ne e)]; rfl, fun h => by omega⟩
theorem LD.look {N : Nat} {out : List Int} {D : DataW Unit} (h : LD N out D) {k c : Int} (k0 : 0 ≤ k) (k1 : k < N) (hat : D.atKey (.int .i64 k) (.lit (.int .i64 0)) = .lit (.int .i64 c)) :
    Maps.has D (.int .i64 k) = decide (0 ≤ gi out k) ∧ c = if 0 ≤ gi out k then gi out k else 0 := by
  have h2 := h k k0 k1
  refine ⟨h2.1, ?_⟩
  split
  · rename_i h3
    rw [h2.2 h3] at hat
    injection hat with hat
    injection hat with _ hat
    exact hat.symm
  · rename_i h3
    have h4 : Maps.has D (.int .i64 k) = false := by rw [h2.1]; simpa using h3
    rw [atKey_of_not_has h4] at hat
    injection hat with hat
    injection hat with _ hat
    exact hat.symm
theorem own_size {w : World} {P : Program} {k : TypeId} {R : Value → Option (DataW Unit × List MemPlace)} {b n : Nat} {D : DataW Unit} (h : w.ownsMap P k R b n D) : Maps.size D ≤ n := by
  obtain ⟨es, clock, h1, h2, h3, rfl⟩ := h
  show (List.foldr DataW.insert [] _).length ≤ n
  rw [length_sorted]
  simpa using h3

theorem own_ext {H : Type} {w w' : World} {P : Program} {k : TypeId} {R : Value → Option (DataW H × List MemPlace)} {b n : Nat} {D : DataW H} (h : w.ownsMap P k R b n D) (hb : Ext w w') : w'.ownsMap P k R b n D := by
  obtain ⟨es, clock, h1, rest⟩ := h
  exact ⟨es, clock, (Below.block hb b (Array.getElem?_eq_some_iff.1 h1).1).trans h1, rest⟩
/-- At the head of the loop over the rounds. -/
def MapS (p : Pln) (q : Req) (w5 : World) (k B c : Nat) (wr : World) : Prop :=
  w5.heap.size ≤ B ∧ c ≤ 1 + 100 * k ∧ (∃ D : DataW Unit, wr.ownsMap Try.prog 3 (plainElem Try.prog 3) B c D ∧ LD p.quo.length (p.RrQ q k) D) ∧ Ext w5 wr
/-- While the times are copied. -/
def MapC (B c : Nat) (wo : World) (D : DataW Unit) (n : Nat) (wx : World) : Prop :=
  ∃ (left : Lit → Bool) (Dout : DataW Unit), wx.ranges Try.prog 3 (plainElem Try.prog 3) B (wo.heap.size + 1) c D left n ∧ n ≤ Maps.size D ∧ wx.ownsMap Try.prog 3 (plainElem Try.prog 3) wo.heap.size (Maps.size D - n) Dout ∧ Agree Dout D left ∧ Ext wo wx
/-- While the contacts are taken. -/
def MapN (p : Pln) (n : Int) (m : List Int) (B c : Nat) (wo : World) (D : DataW Unit) (j : Nat) (wx : World) : Prop :=
  ∃ Dn : DataW Unit, wx.ownsMap Try.prog 3 (plainElem Try.prog 3) wo.heap.size (c + j) Dn ∧ LD p.quo.length ((p.cons.take j).foldl (rstep n m) m) Dn ∧ wx.ownsMap Try.prog 3 (plainElem Try.prog 3) B c D ∧ Ext wo wx

/-- The entry of a map that is made with its entries. -/
theorem wpList_insert_own {H : Type} {P : Program} (w : World) {ops : Array Oper} {rest : List Oper} {o : Oper} {a : Act} {Q : Exit → Act → World → Prop}
    (hg : o.guard = none) (m x v : Operand) (t : TypeId) (hop : o.op = Op.insert t m x v)
    (k e : TypeId) (K : Keyed P k) (ht : P.underlying t = some (.map k e)) (R : Value → Option (DataW H × List MemPlace)) (b n : Nat) (D : DataW H)
    (hm : a.eval m = .map (some b)) (hown : w.ownsMap P k R b n D) (hn : n < maxLen) (key val : Value) (kl : Lit) (hx : a.eval x = key) (hv : a.eval v = val) (hkey : keyOf P k key = some kl)
    (d : DataW H) (ps : List MemPlace) (hval : R val = some (d, ps))
    (hK : ∀ w', w'.ownsMap P k R b (n + 1) (D.put kl d) → w.grownBy w' (some b) → wpList P ops Q rest (a.put o.dst undef) w') :
    wpList P ops Q (o :: rest) a w := by
  refine wpList_plain hg fun K' hK' => ?_
  obtain ⟨w', hrun, r1, r2⟩ := hown.update K ht hn hkey hval
  unfold Oper.wp
  simp [execOp, hop, hm, hx, hv, hrun, Result.andThen]
  exact hK' _ _ (hK w' r1 r2)

end Go.Proofs.Ytgmfnhianhngiaa
