
/- Layer 26 (reach): slices.Clone and slices.DeleteFunc of numbers. -/
import Derived.Test.YtmaengcmhopmbaaGreatRchW1
import Derived.Shelf.Slices.Clone
namespace Go.Proofs.YtmaengcmhopmbaaGreat
set_option linter.unusedVariables false
set_option linter.unusedSimpArgs false
open Go.RowKit Go.Shelf

theorem info_intD : (Tryz.prog.info? 3).map (fun i => (i.zero, i.size, i.bytes)) = some (some (.int .i64 0), 1, 8) := by kernel_rfl
theorem PredI.mono {w0 w : World} {f : FuncId} {cs : Array Value} {p : Int → Bool} (h : PredI w0 f cs p) (hb : Ext w0 w) : PredI w f cs p :=
  ⟨h.enters, fun x w' hw => h.says x w' (hb.trans hw)⟩
theorem Owns.ints {w : World} {base : Nat} {e : TypeId} {g n c : Nat} {m : List Int} (h : Owns EInt w base e (.slice (some ⟨g, 0, none⟩) n c) m) {k : Nat} (hk : k < m.length) :
    g < w.heap.size ∧ (∀ i, w.frozen? ⟨g, i, none⟩ = false) ∧ w.cell? ⟨g, k, none⟩ = some (.int .i64 m[k]) := by
  have h1 := h.gi (i := (k : Int)) (by simpa using hk)
  rw [gi_get hk, Int.toNat_natCast] at h1
  exact ⟨h.free.1, h.free.2, h1⟩
/-- The beginning of a list of the call's own, where the rest was written. -/
theorem Owns.cutoff {α : Type} {E : Elt α} {w : World} {base : Nat} {e : TypeId} {g n c : Nat} {m : List α} (h : Owns E w base e (.slice (some ⟨g, 0, none⟩) n c) m) {a : Nat} (ha : a ≤ m.length) (vs : List Value) (hvs : a * E.size + vs.length ≤ c * E.size) :
    Owns E (w.setCells g (a * E.size) vs) base e (.slice (some ⟨g, 0, none⟩) a c) (m.take a) := by
  have hn := h.len
  subst hn
  rcases h.2 with ⟨h1, _⟩ | ⟨g', cap, cur, h1, hg, hh, hnc, hcap, hsz, ht⟩
  · cases h1
  · injection h1 with h2 h3 h4
    injection h2 with h2
    injection h2 with h2
    subst h2 h4
    have hb := Blk.setCells_ vs (show Blk w g e cur from hh) (a * E.size)
    have hl : (m.take a).length = a := by rw [List.length_take, Nat.min_eq_left ha]
    refine ⟨by rw [E.all_len], .inr ⟨g, c, _, by rw [hl], hg, hb, by omega, hcap, by rw [arrSets_size]; exact hsz, ?_⟩⟩
    rw [hl]
    have hle : a * E.size ≤ m.length * E.size := Nat.mul_le_mul_right _ ha
    have he : E.all m = E.all (m.take a) ++ E.all (m.drop a) := by rw [← E.all_append, List.take_append_drop]
    have hla : (E.all (m.take a)).length = a * E.size := by rw [E.all_len, hl]
    apply List.ext_getElem?
    intro q
    by_cases hq : q < a * E.size
    · rw [List.getElem?_take_of_lt hq, Array.getElem?_toList, arrSets_get _ _ _ _ (by rw [hsz]; exact hvs), if_neg (by omega)]
      have h5 : (E.all m)[q]? = (E.all (m.take a))[q]? := by rw [he, List.getElem?_append_left (by omega)]
      rw [← h5, ← ht, List.getElem?_take_of_lt (by omega), Array.getElem?_toList]
    · rw [List.getElem?_take_eq_none (by omega), List.getElem?_eq_none (by omega)]
theorem findI_hit {p : Int → Bool} {l : List Int} (h : l.any p = true) : ∃ k : Nat, findI p l = (k : Int) ∧ k < l.length ∧ (l.take (k + 1)).filter (fun o => !p o) = l.take k := by
  refine ⟨l.findIdx p, by unfold findI; rw [if_pos h], List.findIdx_lt_length.2 (by simpa using List.any_eq_true.1 h), ?_⟩
  have hk : l.findIdx p < l.length := List.findIdx_lt_length.2 (by simpa using List.any_eq_true.1 h)
  rw [List.take_succ_eq_append_getElem hk, List.filter_append]
  have h1 : (l.take (l.findIdx p)).filter (fun o => !p o) = l.take (l.findIdx p) := by
    rw [List.filter_eq_self]
    intro y hy
    obtain ⟨j, hj, rfl⟩ := List.mem_take_iff_getElem.1 hy
    have := List.not_of_lt_findIdx (p := p) (xs := l) (i := j) (by omega)
    simpa using this
  have h2 : p l[l.findIdx p] = true := List.findIdx_getElem
  rw [h1]; simp [h2]
theorem take_setI {m : List Int} {i : Nat} (h : i < m.length) (y : Int) : (m.set i y).take (i + 1) = m.take i ++ [y] := by
  rw [List.take_succ_eq_append_getElem (by simpa using h), List.getElem_set_self, List.take_set_of_le (Nat.le_refl _)]
theorem zero_int : ∀ w, (zeroValue 3).run Tryz.prog w = .ok (.int .i64 0) w := fun w => by kernel_rfl
theorem zeroCells1_len (n : Nat) : (Builtin.zeroCells #[.int .i64 0] n).toList.length = n := by simp [Builtin.zeroCells]
theorem zeroCells1_one (n : Nat) : ∀ v ∈ (Builtin.zeroCells #[.int .i64 0] n).toList, v.oneCell' = true := by
  intro v hv
  simp only [Builtin.zeroCells, Array.toList_map, List.mem_map] at hv
  obtain ⟨i, _, rfl⟩ := hv
  show ((#[Value.int .i64 0] : Array Value)[i % 1]!).oneCell' = true
  rw [Nat.mod_one]
  rfl
theorem run_clear_int {w : World} {g : Nat} {e : TypeId} {cur : Array Value} {n c : Nat} (hk : Blk w g e cur) (hn : n ≤ cur.size) (a : Nat) (han : a < n) (ty : TypeId) :
    (Builtin.clear_ #[22] ty #[.slice (some ⟨g, a, none⟩) (n - a) (c - a)]).run Tryz.prog w = .ok (.tuple #[]) (w.setCells g a (Builtin.zeroCells #[.int .i64 0] (n - a)).toList) := by
  have hl := zeroCells1_len (n - a)
  have hst := run_storeCells_cells (P := Tryz.prog) g a (Builtin.zeroCells #[.int .i64 0] (n - a)).toList 0 w
    (fun j hj => by
      rw [hk.cell]
      rw [hl] at hj
      rw [Array.getElem?_eq_getElem (by omega)]
      rfl)
    (fun j hj => hk.frozen _) (zeroCells1_one _)
  rw [Nat.add_zero] at hst
  obtain ⟨d, hd⟩ : ∃ d, n - a = d + 1 := ⟨n - a - 1, by omega⟩
  rw [hd] at hst ⊢
  simp only [Builtin.clear_]
  simp [run_underlying Tryz.underlying22, zero_int, Value.cells, hst]

end Go.Proofs.YtmaengcmhopmbaaGreat
