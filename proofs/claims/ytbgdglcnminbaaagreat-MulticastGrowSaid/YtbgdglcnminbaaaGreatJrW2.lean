
/- Layer 24 (journey): the reference's round, start, arrivals. -/
import Derived.Test.YtbgdglcnminbaaaGreatJrW1
import Derived.Laws.IdiomCopy
import Derived.Deep.AppendLies
import Derived.Deep.RegionLaw
import Derived.Deep.CutRange
namespace Go.Proofs.YtbgdglcnminbaaaGreat
set_option linter.unusedVariables false
open Go.RowKit Go.Shelf

theorem info_int : (Tryz.prog.info? 3).map (fun i => (i.zero, i.size, i.bytes)) = some (some (.int .i64 0), 1, 8) := by kernel_rfl
theorem Owns.some_ {α : Type} {E : Elt α} {w : World} {base : Nat} {e : TypeId} {A : Option Addr} {n c : Nat} {l : List α} (h : Owns E w base e (.slice A n c) l) (hl : 0 < l.length) : ∃ b, A = some ⟨b, 0, none⟩ ∧ base ≤ b := by
  have hn := h.len
  rcases h.2 with ⟨e1, e2⟩ | ⟨g, cap, cur, e1, _⟩
  · injection e1 with e1 e3
    omega
  · injection e1 with e1
    subst e1
    exact ⟨g, rfl, (h.block (g := g) rfl).1⟩

theorem rstep_len (n : Int) (m out : List Int) (c : Con) : (rstep n m out c).length = out.length := by
  unfold rstep
  split
  · exact relax_len _ _ _
  · rfl
theorem rfold_len (n : Int) (m : List Int) : ∀ (l : List Con) (out : List Int), (l.foldl (rstep n m) out).length = out.length
  | [], _ => rfl
  | c :: l, out => by rw [List.foldl_cons, rfold_len n m l, rstep_len]
theorem rfold_snoc {n : Int} {m out : List Int} {cons : List Con} {k : Nat} {y : Con} (h : k < cons.length) (hy : cons[k] = y) : (cons.take (k + 1)).foldl (rstep n m) out = rstep n m ((cons.take k).foldl (rstep n m) out) y := by
  rw [take_snoc h hy, List.foldl_append]; rfl
/-- Behind the statement 'h, ok := hop(..)'. -/
def HopR (w : World) (i : Nat) (c : Con) (t n : Int) (h ok : Value) (w' : World) : Prop :=
  ∃ B, h = .pointer (some ⟨B, 0, none⟩) ∧ w.heap.size ≤ B ∧ ok = .bool (decide (earr c t n ≠ -1)) ∧ Blk w' B 51 (hopR i c t n).cells.toArray ∧ Ext w w'

theorem hop_cells {i : Nat} {c : Con} {t n : Int} (he : earr c t n ≠ -1) : (hopR i c t n).cells.toArray = #[.int .i64 i, .int .i64 (c.beg t), .int .i64 (c.beg t + c.dur n), .int .i64 (earr c t n)] := by
  have h := hopAt_arr (i := i) he
  unfold hopR
  rw [if_neg he]
  rw [← h]
  rfl
theorem HopR.yes {w w' : World} {i : Nat} {c : Con} {t n : Int} {h ok : Value} (he : earr c t n ≠ -1) (hr : HopR w i c t n h ok w') :
    ∃ B, h = .pointer (some ⟨B, 0, none⟩) ∧ w.heap.size ≤ B ∧ ok = .bool true ∧ Blk w' B 51 #[.int .i64 i, .int .i64 (c.beg t), .int .i64 (c.beg t + c.dur n), .int .i64 (earr c t n)] ∧ Ext w w' := by
  obtain ⟨B, h1, h2, h3, h4, h5⟩ := hr
  rw [hop_cells he] at h4
  exact ⟨B, h1, h2, by rw [h3]; simp [he], h4, h5⟩
theorem HopR.no {w w' : World} {i : Nat} {c : Con} {t n : Int} {h ok : Value} (he : earr c t n = -1) (hr : HopR w i c t n h ok w') :
    ∃ B, h = .pointer (some ⟨B, 0, none⟩) ∧ ok = .bool false ∧ Ext w w' := by
  obtain ⟨B, h1, h2, h3, h4, h5⟩ := hr
  exact ⟨B, h1, by rw [h3]; simp [he], h5⟩

end Go.Proofs.YtbgdglcnminbaaaGreat
