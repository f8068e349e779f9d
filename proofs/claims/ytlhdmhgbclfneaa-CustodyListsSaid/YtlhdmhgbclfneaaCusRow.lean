/- What offers that come in read as. -/
import Derived.Test.YtlhdmhgbclfneaaOpen
import Derived.Test.YtlhdmhgbclfneaaCus
import Derived.Test.YtlhdmhgbclfneaaRows
namespace Go.Proofs.Ytlhdmhgbclfneaa
set_option linter.unusedVariables false
open Go.ChangeShapes Go.WideShapes Go.ChangeAt Go.RowKit Go.Deep

theorem row_own : ownKnob Try.prog.godebug = none := by kernel_rfl
theorem row_laid : laidOutB Try.prog = true := by kernel_rfl

theorem wf_bd {z : Int} (h : (Lit.int .i64 z).wf = true) : -9223372036854775808 ≤ z ∧ z ≤ 9223372036854775807 := by
  simp [Lit.wf, IntKind.min, IntKind.max, IntKind.bits, IntKind.signed] at h; omega
theorem wf_bd8 {z : Int} (h : (Lit.int .u8 z).wf = true) : 0 ≤ z ∧ z ≤ 255 := by
  simp [Lit.wf, IntKind.min, IntKind.max, IntKind.bits, IntKind.signed] at h; omega

theorem flat_off : flatK Try.prog 4 26 = some (List.replicate 8 .i64) := by kernel_rfl
theorem dec_off (cs : List Value) (h : CKs (List.replicate 8 .i64) cs) : ∃ x : Off, cs = EOff.cells x ∧ True := by
  obtain ⟨zs, hl, rfl, _⟩ := CKs.ints h
  match zs, hl with
  | [a, b, c, d, e, f, g, i], _ => exact ⟨⟨⟨a, b, c, d, e⟩, f, g, i⟩, rfl, trivial⟩

theorem open_off {H : Type} {enc : TypeId × Value → H} {w : World} {base : Nat} {spare : Nat → Bool} {held : Bool} {r : Reach} {b0 : Nat} {v : Value} {d : DataW H} {p : List MemPlace}
    (hv : Value.okWide Try.prog w r b0 26 v) (h : DataW.Trod enc Try.prog w base spare held 26 v d p) : ∃ x : Off, v = x.val := by
  obtain ⟨cs, rfl, hk⟩ := open_flat Try.underlying26 flat_off hv h
  obtain ⟨x, rfl, _⟩ := dec_off cs hk
  exact ⟨x, rfl⟩
theorem open_offs {H : Type} {enc : TypeId × Value → H} {w : World} {base : Nat} {spare : Nat → Bool} {held : Bool} {r : Reach} {b0 : Nat} {v : Value} {d : DataW H} {p : List MemPlace}
    (hv : Value.okWide Try.prog w r b0 22 v) (h : DataW.Trod enc Try.prog w base spare held 22 v d p) : ∃ A c l, v = .slice A l.length c ∧ Rd EOff w A l ∧ l.length ≤ c ∧ c ≤ maxLen := by
  obtain ⟨A, c, l, h1, h2, h3, h4, _⟩ := open_list EOff (fun _ => True) Try.underlying22 flat_off (by kernel_rfl) dec_off hv h
  exact ⟨A, c, l, h1, h2, h3, h4⟩

end Go.Proofs.Ytlhdmhgbclfneaa
