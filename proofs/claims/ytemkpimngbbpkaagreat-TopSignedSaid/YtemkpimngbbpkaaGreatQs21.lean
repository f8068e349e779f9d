/- Layer 26 (reach): slices.Clone and slices.DeleteFunc of numbers. -/
import Derived.Shelf.Slices.Clone
import Derived.Test.YtemkpimngbbpkaaGreatQs03
namespace Go.Proofs.YtemkpimngbbpkaaGreat
set_option linter.unusedVariables false
set_option linter.unusedSimpArgs false
open Go.RowKit Go.Shelf
theorem info_intD : (Tryz.prog.info? 3).map (fun i => (i.zero, i.size, i.bytes)) = some (some (.int .i64 0), 1, 8) := by kernel_rfl
set_option maxHeartbeats 1000000 in
theorem cloneInt_any (A : Option Addr) (c : Nat) (l : List Int) (w : World) (hA : Rd EInt w A l) (hmax : l.length <= 1000000) :
 Calls Tryz.prog 54 #[.slice A l.length c] w fun e w' => ∃ v, e = .returned v /\ Owns EInt w' w.heap.size 3 v l /\ Ext w w' := by
 obtain ⟨i0, hi0, hz0, hz1, hz2⟩ := info_parts info_intD
 have q22 : ∀ (w : World) (a : Option Addr) (n c n' c' : Nat), (binOp .eql 30 (.slice a n c) (.slice none n' c')).run Tryz.prog w = .ok (.bool a.isNone) w := fun w a n c n' c' => Lib.run_eql_slice_nil w _ _ a n c n' c' Tryz.underlying30
 cases A with
 | none =>
   have hl : l = [] := by
    cases l with
    | nil => rfl
    | cons x l => obtain ⟨b, o, h, _⟩ := hA.at (k := 0) (by simp); cases h
   subst hl
   go_enter Tryz.func54, Tryz.ntmps54
   go_wp2
   go_ret
   exact ⟨_, rfl, Owns.none_ _ _, Ext.refl _⟩
 | some a =>
   go_enter Tryz.func54, Tryz.ntmps54
   go_wp2_with (at_builtin; refine wpList_cat rfl (.tmp 5) (.tmp 6) _ rfl w.heap.size 3 i0 _ 8 Tryz.underlying30 hi0 hz0 hz1 hz2 rfl (.slice (some ⟨w.heap.size, 0, none⟩) 0 0) rfl (Owns.made w w.heap.size _ (Nat.le_refl _)) c _ rfl rfl (hA.ext ((Ext.refl _).alloc _)) (by simp [maxLen]; omega) (by simp; omega) (by simp) ?_; intro v6 w6 hv6 hg6 hat6)
   go_ret
   exact ⟨_, rfl, hv6, ext_grown ((Ext.refl w).alloc _) (Owns.made (E := EInt) w w.heap.size _ (Nat.le_refl _)) (Nat.le_refl _) hg6⟩
theorem Owns.cutoff {α : Type} {E : Elt α} {w : World} {base : Nat} {e : TypeId} {g n c : Nat} {m : List α} (h : Owns E w base e (.slice (some ⟨g, 0, none⟩) n c) m) {a : Nat} (ha : a <= m.length) (vs : List Value) (hvs : a * E.size + vs.length <= c * E.size) :
 Owns E (w.setCells g (a * E.size) vs) base e (.slice (some ⟨g, 0, none⟩) a c) (m.take a) := by
 have hn := h.len
 subst hn
 rcases h.2 with ⟨h1, _⟩ | ⟨g', cap, cur, h1, hg, hh, hnc, hcap, hsz, ht⟩
 ·cases h1
 ·injection h1 with h2 h3 h4
  injection h2 with h2
  injection h2 with h2
  subst h2 h4
  have hb := Blk.setCells_ vs (show Blk w g e cur from hh) (a * E.size)
  have hl : (m.take a).length = a := by rw [List.length_take, Nat.min_eq_left ha]
  refine ⟨by rw [E.all_len], .inr ⟨g, c, _, by rw [hl], hg, hb, by omega, hcap, by rw [arrSets_size]; exact hsz, ?_⟩⟩
  rw [hl]
  have hle : a * E.size <= m.length * E.size := Nat.mul_le_mul_right _ ha
  have he : E.all m = E.all (m.take a) ++ E.all (m.drop a) := by rw [<- E.all_append, List.take_append_drop]
  have hla : (E.all (m.take a)).length = a * E.size := by rw [E.all_len, hl]
  apply List.ext_getElem?
  intro q
  by_cases hq : q < a * E.size
  ·rw [List.getElem?_take_of_lt hq, Array.getElem?_toList, arrSets_get _ _ _ _ (by rw [hsz]; exact hvs), if_neg (by omega)]
   have h5 : (E.all m)[q]? = (E.all (m.take a))[q]? := by rw [he, List.getElem?_append_left (by omega)]
   rw [<- h5, <- ht, List.getElem?_take_of_lt (by omega), Array.getElem?_toList]
  ·rw [List.getElem?_take_eq_none (by omega), List.getElem?_eq_none (by omega)]
end Go.Proofs.YtemkpimngbbpkaaGreat
