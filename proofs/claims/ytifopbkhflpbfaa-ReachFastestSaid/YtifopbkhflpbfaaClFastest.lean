/- Proved: for every input mailboatlaw26.ReachFastest returns true, and its arguments read behind the call as before. No condition. -/
import Derived.Test.YtifopbkhflpbfaaPlnRow
import Derived.Test.YtifopbkhflpbfaaRchFa
namespace Go.Proofs.Ytifopbkhflpbfaa
set_option linter.unusedVariables false
open Go.ChangeShapes Go.WideShapes Go.ChangeAt Go.RowKit

set_option maxRecDepth 100000 in
theorem flat_hop : Go.Proofs.Ytifopbkhflpbfaa.flatK Try.prog 4 62 = some (List.replicate 4 .i64) := by kernel_rfl
theorem dec_hop (cs : List Value) (h : CKs (List.replicate 4 .i64) cs) : ∃ x : Hp, cs = EHp.cells x ∧ True := by
  obtain ⟨zs, hl, rfl, hw⟩ := CKs.ints h
  match zs, hl with
  | [a, b, c, d], _ => exact ⟨⟨a, b, c, d⟩, rfl, trivial⟩
set_option maxRecDepth 100000 in
theorem open_hops {H : Type} {enc : TypeId × Value → H} {w : World} {base : Nat} {spare : Nat → Bool} {held : Bool} {r : Reach} {b0 : Nat} {v : Value} {d : DataW H} {p : List MemPlace}
    (hv : Value.okWide Try.prog w r b0 51 v) (h : DataW.Trod enc Try.prog w base spare held 51 v d p) : ∃ A c l, v = .slice A l.length c ∧ Rd EHp w A l ∧ l.length ≤ c ∧ c ≤ maxLen := by
  obtain ⟨A, c, l, h1, h2, h3, h4, _⟩ := open_list EHp (fun _ => True) Try.underlying51 flat_hop (by kernel_rfl) dec_hop hv h
  exact ⟨A, c, l, h1, h2, h3, h4⟩

set_option maxRecDepth 100000 in
theorem reachFastest_lifted (os : Os) (started : os.Started) (H : Type) (enc : TypeId × Value → H) :
    ReturnsInHanded {} Try.checked os 7 .any (Rows.reachFastestSpec.pre6 enc Try.prog Try.f7 Rows.reachFastestRow.domain false) (Rows.reachFastestSpec.post enc Try.prog Try.f7 false true false false) := by
  refine returnsInHanded_of_change (C := Try.checked) row_own started (by kernel_rfl) Try.func7
    (ChangeSpec.witness6 (enc := enc) (C := Try.checked) false ⟨#[], #[.agg #[.slice none 0 0, .slice none 0 0], .int .i64 0, .int .i64 0, .int .i64 0, .slice none 0 0], []⟩ 8 (by kernel_rfl) (by kernel_rfl) (by kernel_rfl) (by kernel_rfl)) ?_
  intro W base args ds gs before hval0 hW hcnd _
  have hval : ∀ (j : Nat) t v, Try.f7.params[j]? = some t → args[j]? = some v → Value.okWide Try.prog W .any base t v := hval0
  have hW' := hW
  obtain ⟨p, q, hA0, hV, rfl, hfz, hnd⟩ := hW
  have hA : DataW.TrodAll enc Try.prog W 0 (fun _ => true) true Try.f7.params.toList args.toList ds p := hA0
  rw [Try.params7] at hA hval
  obtain ⟨v0, vs0, d0, ds0, p0, q0, hargs, rfl, rfl, h0, r0⟩ := trodAll_cons hA
  obtain ⟨v1, vs1, d1, ds1, p1, q1, rfl, rfl, rfl, h1, r1⟩ := trodAll_cons r0
  obtain ⟨v2, vs2, d2, ds2, p2, q2, rfl, rfl, rfl, h2, r2⟩ := trodAll_cons r1
  obtain ⟨v3, vs3, d3, ds3, p3, q3, rfl, rfl, rfl, h3, r3⟩ := trodAll_cons r2
  obtain ⟨v4, vs4, d4, ds4, p4, q4, rfl, rfl, rfl, h4, r4⟩ := trodAll_cons r3
  obtain ⟨rfl, rfl, rfl⟩ := trodAll_nil r4
  obtain rfl : args = #[v0, v1, v2, v3, v4] := by cases args; simp_all
  obtain ⟨rfl, rfl⟩ := trodVars_none hV
  obtain ⟨Aq, cq, Ac, cc, pl, rfl, g1, g2, g3, g4, g5, g6, _⟩ := open_plan (hval 0 25 v0 rfl rfl) h0
  obtain ⟨n, rfl, rfl, rfl, wn⟩ := open_int Try.underlying3 (hval 1 3 v1 rfl rfl) h1
  obtain ⟨m, rfl, rfl, rfl, wm⟩ := open_int Try.underlying3 (hval 2 3 v2 rfl rfl) h2
  obtain ⟨k, rfl, rfl, rfl, wk⟩ := open_int Try.underlying3 (hval 3 3 v3 rfl rfl) h3
  obtain ⟨Al, cl, l, rfl, hl, hl1, hl2⟩ := open_hops (hval 4 51 v4 rfl rfl) h4
  refine (fastest_walk Aq cq Ac cc pl n m k Al cl l W ⟨g1, g2, g3, g4, g5, g6⟩ hl (Nat.le_trans hl1 hl2)).mono fun e W' ⟨he, hg⟩ => ?_
  subst he
  exact ⟨_, rfl, law_post row_laid (by kernel_rfl) rfl rfl rfl Try.underlying4 hW' hg⟩

theorem reachFastest_holds : Rows.ReachFastestSaid :=
  OpenClaim.holds_of_wide 7 Try.f7 rfl rfl rfl rfl rfl rfl rfl ⟨rfl, rfl, rfl, rfl, rfl⟩ rfl rfl rfl rfl rfl (by kernel_rfl) Try.func7 (by kernel_rfl)
    (of_decide_eq_true (by kernel_rfl)) (by unfold Func.isWrapper; first | (rw [if_pos (by decide +kernel)]; kernel_rfl) | (rw [if_neg (by decide +kernel)]; exact ⟨rfl, rfl⟩))
    (fun os started H enc _ => reachFastest_lifted os started H enc)
#print axioms reachFastest_holds

end Go.Proofs.Ytifopbkhflpbfaa
