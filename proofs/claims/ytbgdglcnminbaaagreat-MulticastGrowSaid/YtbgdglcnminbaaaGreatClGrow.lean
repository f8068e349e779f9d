/- Proved: for every input mailboatlaw35.MulticastGrow returns true, and its arguments read behind the call as before. No condition. -/
import Derived.Test.YtbgdglcnminbaaaGreatRowsA
import Derived.Test.YtbgdglcnminbaaaGreatMlGr
namespace Go.Proofs.YtbgdglcnminbaaaGreat
set_option linter.unusedVariables false
open Go.ChangeShapes Go.WideShapes Go.ChangeAt Go.RowKit

set_option maxRecDepth 100000 in
theorem multicastGrow_lifted (os : Os) (started : os.Started) (H : Type) (enc : TypeId × Value → H) :
    ReturnsInHanded {} Tryz.checked os 3 .any (Rows.multicastGrowSpec.pre6 enc Tryz.prog Tryz.f3 Rows.multicastGrowRow.domain false) (Rows.multicastGrowSpec.post enc Tryz.prog Tryz.f3 false true false false) := by
  refine returnsInHanded_of_change (C := Tryz.checked) row_own started (by kernel_rfl) Tryz.func3
    (ChangeSpec.witness6 (enc := enc) (C := Tryz.checked) false ⟨#[], #[.agg #[.slice none 0 0, .slice none 0 0, .slice none 0 0, .slice none 0 0], .agg #[.int .i64 0, .int .i64 0, .int .i64 0, .int .i64 0, .int .i64 0, .int .i64 0, .bool false], .slice none 0 0], []⟩ 8 (by kernel_rfl) (by kernel_rfl) (by kernel_rfl) (by kernel_rfl)) ?_
  intro W base args ds gs before hval0 hW hcnd _
  have hval : ∀ (j : Nat) t v, Tryz.f3.params[j]? = some t → args[j]? = some v → Value.okWide Tryz.prog W .any base t v := hval0
  have hW' := hW
  obtain ⟨p, q, hA0, hV, rfl, hfz, hnd⟩ := hW
  have hA : DataW.TrodAll enc Tryz.prog W 0 (fun _ => true) true Tryz.f3.params.toList args.toList ds p := hA0
  rw [Tryz.params3] at hA hval
  obtain ⟨v0, vs0, d0, ds0, p0, q0, hargs, rfl, rfl, h0, r0⟩ := trodAll_cons hA
  obtain ⟨v1, vs1, d1, ds1, p1, q1, rfl, rfl, rfl, h1, r1⟩ := trodAll_cons r0
  obtain ⟨v2, vs2, d2, ds2, p2, q2, rfl, rfl, rfl, h2, r2⟩ := trodAll_cons r1
  obtain ⟨rfl, rfl, rfl⟩ := trodAll_nil r2
  obtain rfl : args = #[v0, v1, v2] := by cases args; simp_all
  obtain ⟨rfl, rfl⟩ := trodVars_none hV
  obtain ⟨Aq, cq, Ac, cc, pl, Al, cl, bk, Ah, ch, hd, rfl, hT⟩ := open_tabs (hval 0 29 v0 rfl rfl) h0
  obtain ⟨q, rfl, wq⟩ := open_req (hval 1 31 v1 rfl rfl) h1
  obtain ⟨Am, cm, mem, rfl, hm, hm1, hm2, hm3⟩ := open_ints (hval 2 22 v2 rfl rfl) h2
  refine (growlaw_walk Aq cq Ac cc pl Al cl bk Ah ch hd q Am cm mem W hT hm (Nat.le_trans hm1 hm2)).mono fun e W' ⟨he, hg⟩ => ?_
  subst he
  exact ⟨_, rfl, law_post row_laid (by kernel_rfl) rfl rfl rfl Tryz.underlying4 hW' hg⟩

theorem multicastGrow_holds : Rows.MulticastGrowSaid :=
  OpenClaim.holds_of_wide 3 Tryz.f3 rfl rfl rfl rfl rfl rfl rfl ⟨rfl, rfl, rfl, rfl, rfl⟩ rfl rfl rfl rfl rfl (by kernel_rfl) Tryz.func3 (by kernel_rfl)
    (of_decide_eq_true (by kernel_rfl)) (by unfold Func.isWrapper; first | (rw [if_pos (by decide +kernel)]; kernel_rfl) | (rw [if_neg (by decide +kernel)]; exact ⟨rfl, rfl⟩))
    (fun os started H enc _ => multicastGrow_lifted os started H enc)
#print axioms multicastGrow_holds

end Go.Proofs.YtbgdglcnminbaaaGreat
