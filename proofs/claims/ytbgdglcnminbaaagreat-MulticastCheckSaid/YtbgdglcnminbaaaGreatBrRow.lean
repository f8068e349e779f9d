
/- What lists of branches and of numbers that come in read as. -/
import Derived.Test.YtbgdglcnminbaaaGreatPlnRow
import Derived.Test.YtbgdglcnminbaaaGreatMcA0
namespace Go.Proofs.YtbgdglcnminbaaaGreat
set_option linter.unusedVariables false
open Go.ChangeShapes Go.WideShapes Go.ChangeAt Go.RowKit Go.Deep

structure Br.Wf (b : Br) : Prop where
  con : I64 b.con
  beg : I64 b.beg
  en : I64 b.en
  arr : I64 b.arr
  par : I64 b.par
set_option maxRecDepth 100000 in
theorem flat_br : flatK Tryz.prog 4 57 = some (List.replicate 5 .i64) := by kernel_rfl
set_option maxRecDepth 100000 in
theorem dec_br (cs : List Value) (h : CKs (List.replicate 5 .i64) cs) : ∃ x : Br, cs = EBr.cells x ∧ x.Wf := by
  obtain ⟨zs, hl, rfl, hw⟩ := CKs.ints h
  match zs, hl with
  | [a, b, c, d, e], _ => exact ⟨⟨a, b, c, d, e⟩, rfl, ⟨wf_bd (hw _ (by simp)), wf_bd (hw _ (by simp)), wf_bd (hw _ (by simp)), wf_bd (hw _ (by simp)), wf_bd (hw _ (by simp))⟩⟩
section
variable {H : Type} {enc : TypeId × Value → H} {w : World} {base : Nat} {spare : Nat → Bool} {held : Bool} {r : Reach} {b0 : Nat} {v : Value} {d : DataW H} {p : List MemPlace}
set_option maxRecDepth 100000 in
theorem open_brs (hv : Value.okWide Tryz.prog w r b0 34 v) (h : DataW.Trod enc Tryz.prog w base spare held 34 v d p) : ∃ A c l, v = .slice A l.length c ∧ Rd EBr w A l ∧ l.length ≤ c ∧ c ≤ maxLen ∧ ∀ x ∈ l, x.Wf := by
  obtain ⟨A, c, l, h1, h2, h3, h4, h5⟩ := open_list EBr Br.Wf Tryz.underlying34 flat_br (by kernel_rfl) dec_br hv h
  exact ⟨A, c, l, h1, h2, h3, h4, h5⟩
set_option maxRecDepth 100000 in
theorem open_ints (hv : Value.okWide Tryz.prog w r b0 22 v) (h : DataW.Trod enc Tryz.prog w base spare held 22 v d p) : ∃ A c l, v = .slice A l.length c ∧ Rd EInt w A l ∧ l.length ≤ c ∧ c ≤ maxLen ∧ ∀ x ∈ l, I64 x := by
  obtain ⟨A, c, l, h1, h2, h3, h4, h5⟩ := open_list EInt I64 Tryz.underlying22 flat_int (by kernel_rfl) dec_int hv h
  exact ⟨A, c, l, h1, h2, h3, h4, h5⟩
end
end Go.Proofs.YtbgdglcnminbaaaGreat
