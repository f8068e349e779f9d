/- What a contact that comes in reads as. -/
import Derived.Test.YtkahnfjdngiebaaRow
import Derived.Test.YtkahnfjdngiebaaCon
import Derived.Test.YtkahnfjdngiebaaRows
namespace Go.Proofs.Ytkahnfjdngiebaa
set_option linter.unusedVariables false
open Go.ChangeShapes Go.WideShapes Go.ChangeAt Go.RowKit Go.Deep

theorem row_own : ownKnob Try.prog.godebug = none := by kernel_rfl
theorem row_laid : laidOutB Try.prog = true := by kernel_rfl

structure Con.Wf (c : Con) : Prop where
  src : (Lit.int .i64 c.src).wf = true
  dst : (Lit.int .i64 c.dst).wf = true
  st : (Lit.int .i64 c.st).wf = true
  en : (Lit.int .i64 c.en).wf = true
  rate : (Lit.int .i64 c.rate).wf = true
  rng : (Lit.int .i64 c.rng).wf = true
  loss : (Lit.int .i64 c.loss).wf = true

theorem wf_bd {z : Int} (h : (Lit.int .i64 z).wf = true) : -9223372036854775808 ≤ z ∧ z ≤ 9223372036854775807 := by
  simp [Lit.wf, IntKind.min, IntKind.max, IntKind.bits, IntKind.signed] at h; omega
theorem wf_bd16 {z : Int} (h : (Lit.int .u16 z).wf = true) : 0 ≤ z ∧ z ≤ 65535 := by
  simp [Lit.wf, IntKind.min, IntKind.max, IntKind.bits, IntKind.signed] at h; omega
theorem wf_bd8 {z : Int} (h : (Lit.int .u8 z).wf = true) : 0 ≤ z ∧ z ≤ 255 := by
  simp [Lit.wf, IntKind.min, IntKind.max, IntKind.bits, IntKind.signed] at h; omega

theorem open_con {H : Type} {enc : TypeId × Value → H} {w : World} {base : Nat} {spare : Nat → Bool} {held : Bool} {r : Reach} {b0 : Nat} {v : Value} {d : DataW H} {p : List MemPlace}
    (hv : Value.okWide Try.prog w r b0 23 v) (h : DataW.Trod enc Try.prog w base spare held 23 v d p) : ∃ c : Con, v = c.val ∧ c.Wf := by
  obtain ⟨zs, hl, rfl, hw⟩ := open_agg_ints Try.underlying23 (by kernel_rfl) (by kernel_rfl) (ti := 3) rfl Try.underlying3 hv h
  match zs, hl with
  | [a, b, c, d, e, f, g], _ =>
    exact ⟨⟨a, b, c, d, e, f, g⟩, rfl, hw _ (by simp), hw _ (by simp), hw _ (by simp), hw _ (by simp), hw _ (by simp), hw _ (by simp), hw _ (by simp)⟩

end Go.Proofs.Ytkahnfjdngiebaa
