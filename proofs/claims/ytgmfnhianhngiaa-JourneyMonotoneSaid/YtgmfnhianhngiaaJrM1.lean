
/- Layer 24 (journey): lists of contacts copied. -/
import Derived.Test.YtgmfnhianhngiaaJrL1
import Derived.Test.YtgmfnhianhngiaaJrMono
namespace Go.Proofs.Ytgmfnhianhngiaa
set_option linter.unusedVariables false
set_option linter.unusedSimpArgs false
open Go.RowKit Go.Shelf

theorem Owns.made_con (w : World) (base : Nat) (e : TypeId) (hb : base ≤ w.heap.size) : Owns ECon (w.alloc (.cells #[] e)) base e (.slice (some ⟨w.heap.size, 0, none⟩) 0 0) [] := Owns.made w base e hb

set_option maxHeartbeats 1000000 in
theorem cloneCon_any (A : Option Addr) (c : Nat) (l : List Con) (w : World) (hA : Rd ECon w A l) (hmax : l.length ≤ 1000000) :
    Calls Try.prog 16 #[.slice A l.length c] w fun e w' => ∃ v, e = .returned v ∧ Owns ECon w' w.heap.size 36 v l ∧ Ext w w' := by
  obtain ⟨i0, hi0, hz0, hz1, hz2⟩ := info_parts info_con
  have q22 : ∀ (w : World) (a : Option Addr) (n c n' c' : Nat), (binOp .eql 23 (.slice a n c) (.slice none n' c')).run Try.prog w = .ok (.bool a.isNone) w := fun w a n c n' c' => Lib.run_eql_slice_nil w _ _ a n c n' c' Try.underlying23
  cases A with
  | none =>
    have hl : l = [] := by
      cases l with
      | nil => rfl
      | cons x l => obtain ⟨b, o, h, _⟩ := hA.at (k := 0) (by simp); cases h
    subst hl
    go_enter Try.func16, Try.ntmps16
    go_wp2
    go_ret
    exact ⟨_, rfl, Owns.none_ _ _, Ext.refl _⟩
  | some a =>
    go_enter Try.func16, Try.ntmps16
    go_wp2_with (at_builtin; refine wpList_cat rfl (.tmp 5) (.tmp 6) _ rfl w.heap.size 36 i0 _ 56 Try.underlying23 hi0 hz0 hz1 hz2 rfl (.slice (some ⟨w.heap.size, 0, none⟩) 0 0) rfl (Owns.made w w.heap.size _ (Nat.le_refl _)) c _ rfl rfl (hA.ext ((Ext.refl _).alloc _)) (by simp [maxLen]; omega) (by simp; omega) (by simp) ?_; intro v6 w6 hv6 hg6 hat6)
    go_ret
    exact ⟨_, rfl, hv6, ext_grown ((Ext.refl w).alloc _) (Owns.made (E := ECon) w w.heap.size _ (Nat.le_refl _)) (Nat.le_refl _) hg6⟩

theorem Rd.keptg {α : Type} {E : Elt α} {a w : World} {g b o : Nat} {l : List α} (h : Rd E a (some ⟨b, o, none⟩) l) (hg : a.grownBy w (some g)) (hne : b ≠ g) : Rd E w (some ⟨b, o, none⟩) l :=
  ⟨h.1, fun hn => by
    obtain ⟨ad, e, hb, hc⟩ := h.2 hn
    injection e with e
    subst e
    exact ⟨_, rfl, Nat.lt_of_lt_of_le hb hg.size, fun j u hu => (World.cell?_of_block (hg.block _ (by rw [block_of_add]; exact hb) (by rw [block_of_add]; intro e; injection e with e; exact hne e))).trans (hc j u hu)⟩⟩
theorem Owns.rd_set {α : Type} {E : Elt α} {w : World} {base g0 : Nat} {e : TypeId} {A : Option Addr} {n c : Nat} {l : List α} (h : Owns E w base e (.slice A n c) l) (hg : g0 < base) (o : Nat) (u : Value) : Rd E (w.setCell ⟨g0, o, none⟩ u) A l := by
  have hl := h.len
  have hr := h.rd
  rcases h.2 with ⟨e1, e2⟩ | ⟨g, cap, cur, e1, _⟩
  · injection e1 with e1 e3
    subst e1
    have hz : l = [] := List.eq_nil_of_length_eq_zero (by omega)
    subst hz
    exact Rd.nil
  · injection e1 with e1
    subst e1
    have hb := h.block (g := g) rfl
    exact Rd.keptg hr (grown_setCell (World.grownBy.refl w _) o u) (by omega)
def Pln.plus (p : Pln) (c : Con) : Pln := ⟨p.quo, p.cons ++ [c]⟩

end Go.Proofs.Ytgmfnhianhngiaa
