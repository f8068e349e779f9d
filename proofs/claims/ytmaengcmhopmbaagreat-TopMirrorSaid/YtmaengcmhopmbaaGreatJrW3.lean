
/- Layer 24 (journey): the reference's start, arrivals, Foremost. -/
import Derived.Test.YtmaengcmhopmbaaGreatJrWA
namespace Go.Proofs.YtmaengcmhopmbaaGreat
set_option linter.unusedVariables false
open Go.RowKit Go.Shelf

theorem Rd.of_owns {α : Type} {E : Elt α} {w : World} {base : Nat} {e : TypeId} {v : Value} {l : List α} (h : Owns E w base e v l) : ∃ A c, v = .slice A l.length c ∧ Rd E w A l ∧ l.length ≤ c := by
  obtain ⟨A, c, rfl, hr⟩ := h.form
  exact ⟨A, c, rfl, hr, h.cap⟩
/-- The first k times at the start. -/
def strt24 (src t0 : Int) (k : Nat) : List Int := (List.range k).map fun i : Nat => if (i : Int) = src then t0 else -1
theorem strt24_len (src t0 : Int) (k : Nat) : (strt24 src t0 k).length = k := by simp [strt24]
theorem strt24_succ (src t0 : Int) (k : Nat) : strt24 src t0 (k + 1) = strt24 src t0 k ++ [if (k : Int) = src then t0 else -1] := by simp [strt24, List.range_succ]
theorem strt24_eq {src t0 : Int} {N : Nat} (h0 : 0 ≤ src) (h1 : src < N) : strt24 src t0 N = lstart N src t0 := by
  apply gi_ext (by rw [strt24_len, lstart_len])
  intro i i0 i1
  rw [strt24_len] at i1
  rw [lstart_gi h0 h1 i0 i1]
  have h2 : i.toNat < N := by omega
  unfold gi strt24
  rw [List.getD_eq_getElem?_getD]
  simp only [List.getElem?_map, List.getElem?_range h2, Option.map_some, Option.getD_some]
  rw [Int.toNat_of_nonneg i0]

theorem rnds_len (cons : List Con) (n : Int) (m : List Int) : ∀ k, (rnds cons n m k).length = m.length
  | 0 => rfl
  | k + 1 => by
    show (rnd cons n _).length = _
    unfold rnd
    rw [rfold_len, rnds_len cons n m k]

end Go.Proofs.YtmaengcmhopmbaaGreat
