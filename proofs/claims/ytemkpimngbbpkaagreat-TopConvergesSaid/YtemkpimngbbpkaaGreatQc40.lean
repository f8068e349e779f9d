/- What a script that comes in reads as. -/
import Derived.Test.YtemkpimngbbpkaaGreatQc25
import Derived.Test.YtemkpimngbbpkaaGreatQc39
namespace Go.Proofs.YtemkpimngbbpkaaGreat
set_option linter.unusedVariables false
set_option linter.unusedSimpArgs false
open Go.ChangeShapes Go.WideShapes Go.ChangeAt Go.RowKit Go.Deep
set_option maxRecDepth 100000 in
theorem flat_act : Go.Proofs.YtemkpimngbbpkaaGreat.flatK Tryz.prog 4 143 = some (List.replicate 3 .i64 ++ [.bool]) := by kernel_rfl
theorem dec_act (cs : List Value) (h : CKs (List.replicate 3 .i64 ++ [.bool]) cs) : ∃ x : Act1, cs = EAct.cells x /\ True := by
 obtain ⟨us, ws, rfl, h1, h2⟩ := CKs.split h
 obtain ⟨zs, hl, rfl, hw⟩ := CKs.ints h1
 obtain ⟨b', rfl⟩ : ∃ b', ws = [.bool b'] := by
  cases ws with
  | nil => exact h2.elim
  | cons x xs =>
    cases xs with
    | nil =>
      obtain ⟨⟨b', hb⟩, _⟩ := h2
      exact ⟨b', by rw [hb]⟩
    | cons y ys => exact h2.2.elim
 match zs, hl with
 | [a, b, c], _ => exact ⟨⟨a, b, c, b'⟩, rfl, trivial⟩
section
variable {H : Type} {enc : TypeId × Value -> H} {w : World} {base : Nat} {spare : Nat -> Bool} {held : Bool} {r : Reach} {b0 : Nat} {v : Value} {d : DataW H} {p : List MemPlace}
set_option maxRecDepth 100000 in
theorem open_script (hv : Value.okWide Tryz.prog w r b0 48 v) (h : DataW.Trod enc Tryz.prog w base spare held 48 v d p) :
 ∃ Aa ca Ac cc, ∃ (acts : List Act1) (cons : List Con), v = .agg #[.slice Aa acts.length ca, .slice Ac cons.length cc] /\ Rd EAct w Aa acts /\ Rd ECon w Ac cons /\ acts.length <= maxLen /\ cons.length <= maxLen := by
 obtain ⟨v0, v1, m, y0, y1, rfl, h0, h1⟩ := open_two Tryz.underlying48 (by kernel_rfl) (by kernel_rfl) hv h
 obtain ⟨Aq, cq, lq, rfl, g1, g2, g3, g4⟩ := open_list_cell EAct (fun _ => True) Tryz.underlying45 flat_act (by kernel_rfl) dec_act h0
 obtain ⟨Ac, cc, lc, rfl, k1, k2, k3, k4⟩ := open_list_cell ECon Con.Wf Tryz.underlying46 flat_con (by kernel_rfl) dec_con h1
 exact ⟨Aq, cq, Ac, cc, lq, lc, rfl, g1, k1, Nat.le_trans g2 g3, Nat.le_trans k2 k3⟩
end
end Go.Proofs.YtemkpimngbbpkaaGreat
