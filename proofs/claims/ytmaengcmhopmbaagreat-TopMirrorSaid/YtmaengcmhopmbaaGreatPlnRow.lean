
/- What plans, contacts and requests that come in read as. -/
import Derived.Test.YtmaengcmhopmbaaGreatOpen
import Derived.Test.YtmaengcmhopmbaaGreatPlnA
import Derived.Test.YtmaengcmhopmbaaGreatRows
namespace Go.Proofs.YtmaengcmhopmbaaGreat
set_option linter.unusedVariables false
open Go.ChangeShapes Go.WideShapes Go.ChangeAt Go.RowKit Go.Deep

theorem row_own : ownKnob Tryz.prog.godebug = none := by kernel_rfl
theorem row_laid : laidOutB Tryz.prog = true := by kernel_rfl

theorem wf_bd {z : Int} (h : (Lit.int .i64 z).wf = true) : -9223372036854775808 ≤ z ∧ z ≤ 9223372036854775807 := by
  simp [Lit.wf, IntKind.min, IntKind.max, IntKind.bits, IntKind.signed] at h; omega
theorem wf_bd16 {z : Int} (h : (Lit.int .u16 z).wf = true) : 0 ≤ z ∧ z ≤ 65535 := by
  simp [Lit.wf, IntKind.min, IntKind.max, IntKind.bits, IntKind.signed] at h; omega
theorem wf_bd8 {z : Int} (h : (Lit.int .u8 z).wf = true) : 0 ≤ z ∧ z ≤ 255 := by
  simp [Lit.wf, IntKind.min, IntKind.max, IntKind.bits, IntKind.signed] at h; omega

def I64 (z : Int) : Prop := -9223372036854775808 ≤ z ∧ z ≤ 9223372036854775807
set_option maxRecDepth 100000 in
theorem flat_int : flatK Tryz.prog 4 3 = some (List.replicate 1 .i64) := by kernel_rfl
theorem dec_int (cs : List Value) (h : CKs (List.replicate 1 .i64) cs) : ∃ x : Int, cs = EInt.cells x ∧ I64 x := by
  obtain ⟨zs, hl, rfl, hw⟩ := CKs.ints h
  match zs, hl with
  | [a], _ => exact ⟨a, rfl, wf_bd (hw _ (by simp))⟩

structure Con.Wf (c : Con) : Prop where
  src : I64 c.src
  dst : I64 c.dst
  st : I64 c.st
  en : I64 c.en
  rate : I64 c.rate
  rng : I64 c.rng
  loss : I64 c.loss
set_option maxRecDepth 100000 in
theorem flat_con : flatK Tryz.prog 4 61 = some (List.replicate 7 .i64) := by kernel_rfl
set_option maxRecDepth 100000 in
theorem dec_con (cs : List Value) (h : CKs (List.replicate 7 .i64) cs) : ∃ x : Con, cs = ECon.cells x ∧ x.Wf := by
  obtain ⟨zs, hl, rfl, hw⟩ := CKs.ints h
  match zs, hl with
  | [a, b, c, d, e, f, g], _ => exact ⟨⟨a, b, c, d, e, f, g⟩, rfl, ⟨wf_bd (hw _ (by simp)), wf_bd (hw _ (by simp)), wf_bd (hw _ (by simp)), wf_bd (hw _ (by simp)), wf_bd (hw _ (by simp)), wf_bd (hw _ (by simp)), wf_bd (hw _ (by simp))⟩⟩

section
variable {H : Type} {enc : TypeId × Value → H} {w : World} {base : Nat} {spare : Nat → Bool} {held : Bool} {r : Reach} {b0 : Nat} {v : Value} {d : DataW H} {p : List MemPlace}
set_option maxRecDepth 100000 in
theorem open_con (hv : Value.okWide Tryz.prog w r b0 61 v) (h : DataW.Trod enc Tryz.prog w base spare held 61 v d p) : ∃ c : Con, v = c.val ∧ c.Wf := by
  obtain ⟨cs, rfl, hk⟩ := open_flat Tryz.underlying61 flat_con hv h
  obtain ⟨x, rfl, hx⟩ := dec_con cs hk
  exact ⟨x, rfl, hx⟩
set_option maxRecDepth 100000 in
theorem open_plan (hv : Value.okWide Tryz.prog w r b0 25 v) (h : DataW.Trod enc Tryz.prog w base spare held 25 v d p) :
    ∃ Aq cq Ac cc, ∃ p : Pln, v = p.val Aq cq Ac cc ∧ Rd EInt w Aq p.quo ∧ Rd ECon w Ac p.cons ∧ p.quo.length ≤ cq ∧ p.cons.length ≤ cc ∧ cq ≤ maxLen ∧ cc ≤ maxLen ∧ (∀ x ∈ p.quo, I64 x) ∧ ∀ c ∈ p.cons, c.Wf := by
  obtain ⟨v0, v1, m, y0, y1, rfl, h0, h1⟩ := open_two Tryz.underlying25 (by kernel_rfl) (by kernel_rfl) hv h
  obtain ⟨Aq, cq, lq, rfl, g1, g2, g3, g4⟩ := open_list_cell EInt I64 Tryz.underlying22 flat_int (by kernel_rfl) dec_int h0
  obtain ⟨Ac, cc, lc, rfl, k1, k2, k3, k4⟩ := open_list_cell ECon Con.Wf Tryz.underlying23 flat_con (by kernel_rfl) dec_con h1
  exact ⟨Aq, cq, Ac, cc, ⟨lq, lc⟩, rfl, g1, k1, g2, k2, g3, k3, g4, k4⟩
structure Req.Wf (q : Req) : Prop where
  src : I64 q.src
  dst : I64 q.dst
  size : I64 q.size
  ready : I64 q.ready
  dead : I64 q.dead
  prio : I64 q.prio
set_option maxRecDepth 100000 in
theorem flat_req : flatK Tryz.prog 4 27 = some (List.replicate 6 .i64 ++ [.bool]) := by kernel_rfl
set_option maxRecDepth 100000 in
theorem open_req (hv : Value.okWide Tryz.prog w r b0 27 v) (h : DataW.Trod enc Tryz.prog w base spare held 27 v d p) : ∃ q : Req, v = q.val ∧ q.Wf := by
  obtain ⟨cs, rfl, hk⟩ := open_flat Tryz.underlying27 flat_req hv h
  obtain ⟨us, ws, rfl, h1, h2⟩ := CKs.split hk
  obtain ⟨zs, hl, rfl, hw⟩ := CKs.ints h1
  obtain ⟨b', rfl⟩ : ∃ b', ws = [.bool b'] := by
    cases ws with
    | nil => exact h2.elim
    | cons x xs =>
      cases xs with
      | nil =>
        obtain ⟨⟨b', hb⟩, _⟩ := h2
        exact ⟨b', by rw [hb]⟩
      | cons y ys => exact h2.2.elim
  match zs, hl with
  | [a, b, c, d, e, f], _ => exact ⟨⟨a, b, c, d, e, f, b'⟩, rfl, ⟨wf_bd (hw _ (by simp)), wf_bd (hw _ (by simp)), wf_bd (hw _ (by simp)), wf_bd (hw _ (by simp)), wf_bd (hw _ (by simp)), wf_bd (hw _ (by simp))⟩⟩
end

end Go.Proofs.YtmaengcmhopmbaaGreat
