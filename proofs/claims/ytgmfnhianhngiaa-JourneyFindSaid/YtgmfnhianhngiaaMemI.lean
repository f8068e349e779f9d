/- Lists in memory: lists of integers; a list's beginning. -/
import Derived.Test.YtgmfnhianhngiaaMem4
namespace Go.Proofs.Ytgmfnhianhngiaa
set_option linter.unusedVariables false
open Go.RowKit

def EInt : Elt Int := ⟨fun x => [.int .i64 x], 1, fun _ => rfl, by omega, fun x u hu => by simp at hu; subst hu; rfl⟩
theorem Rd.int {w : World} {A : Option Addr} {l : List Int} (h : Rd EInt w A l) {k : Nat} (hk : k < l.length) : ∃ b o, A = some ⟨b, o, none⟩ ∧ b < w.heap.size ∧ w.cell? ⟨b, o + k, none⟩ = some (.int .i64 l[k]) := by
  obtain ⟨b, o, rfl, hb, hc⟩ := h.at hk
  refine ⟨b, o, rfl, hb, ?_⟩
  have := hc 0 (.int .i64 l[k]) rfl
  simpa [EInt] using this

section
variable {α : Type} {E : Elt α} {w w' : World} {A : Option Addr} {l m : List α} {P : Program}
theorem Rd.take (h : Rd E w A l) (k : Nat) : Rd E w A (l.take k) := by
  refine ⟨E.all_len _, fun hn => ?_⟩
  have hn' : 0 < (l.take k).length := hn
  rw [List.length_take] at hn'
  obtain ⟨ad, e, hb, hc⟩ := h.2 (by omega)
  refine ⟨ad, e, hb, fun j u hu => hc j u ?_⟩
  have : E.all l = E.all (l.take k) ++ E.all (l.drop k) := by rw [← E.all_append, List.take_append_drop]
  rw [this, List.getElem?_append_left (List.getElem?_eq_some_iff.1 hu).1]
  exact hu
theorem addr_map0 (A : Option Addr) (s : Nat) : A.map (·.add (0 * s)) = A := by
  cases A <;> simp [Addr.add]
theorem run_take {t e : TypeId} {i : TypeInfo} (ht : P.underlying t = some (.slice e)) (hi : P.info? e = some i) {n c k : Nat} (hk : k ≤ c) (w : World) :
    (Instr.slice t (.slice A n c) none (some (.int .i64 (k : Int))) none).run P w = .ok (.slice A k c) w := by
  have he : P.elem t = e := by simp [Program.elem, ht]
  rw [run_slice_h w t A n c (by rw [he]; exact ht) .i64 (k : Int) (by omega) (by omega), he, run_sizeOf w hi]
  simp only [Result.andThen, sliced, addr_map0, ite_self]
  simp
theorem run_takeAt {t e : TypeId} {i : TypeInfo} (ht : P.underlying t = some (.slice e)) (hi : P.info? e = some i) {n c k : Nat} (hk : k ≤ c) (w : World) :
    (Instr.sliceAt t (.slice A n c) none (some (.int .i64 (k : Int))) none).run P w = .ok (.slice A k c) w := by
  have he : P.elem t = e := by simp [Program.elem, ht]
  rw [run_sliceAt_slice w t _ _ _ _ (by rw [he]; exact ht)]
  exact run_take ht hi hk w
theorem take_snoc {l : List α} {k : Nat} {x : α} (h : k < l.length) (hx : l[k] = x) : l.take (k + 1) = l.take k ++ [x] := by
  rw [List.take_succ_eq_append_getElem h, hx]
theorem any_step {p : α → Bool} {l : List α} {k : Nat} {y : α} (h : k < l.length) (hy : l[k] = y) (h0 : (l.take k).any p = false) (h1 : p y = false) : (l.take (k + 1)).any p = false := by
  rw [take_snoc h hy, List.any_append, h0]; simp [h1]
theorem any_hit {p : α → Bool} {l : List α} {k : Nat} {y : α} (h : k < l.length) (hy : l[k] = y) (h1 : p y = true) : l.any p = true :=
  List.any_eq_true.2 ⟨y, hy ▸ List.getElem_mem h, h1⟩
def findI (p : α → Bool) (l : List α) : Int := if l.any p then (l.findIdx p : Nat) else -1
theorem findI_at {p : α → Bool} {l : List α} {k : Nat} (h : k < l.length) (h1 : (l.take k).any p = false) (h2 : p l[k] = true) : findI p l = k := by
  have h3 : l.any p = true := List.any_eq_true.2 ⟨l[k], List.getElem_mem h, h2⟩
  have h4 : l.findIdx p = k := (List.findIdx_eq h).2 ⟨h2, fun j hj => by
    have h5 := List.any_eq_false.1 h1 (l[j]'(by omega)) (by
      rw [List.mem_take_iff_getElem]
      exact ⟨j, by omega, rfl⟩)
    simpa using h5⟩
  unfold findI
  rw [if_pos h3, h4]
theorem findI_nope {p : α → Bool} {l : List α} (h : l.any p = false) : findI p l = -1 := by unfold findI; rw [h]; rfl
theorem findI_neg {p : α → Bool} {l : List α} : decide (0 ≤ findI p l) = l.any p := by
  unfold findI
  split
  · rename_i h; rw [h]; simp
  · rename_i h; simp at h; simp; exact h
end

end Go.Proofs.Ytgmfnhianhngiaa
