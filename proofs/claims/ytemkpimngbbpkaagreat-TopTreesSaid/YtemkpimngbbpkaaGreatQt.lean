/- Proved: for every input mailboattop.TopTrees returns true, and its arguments read behind the call as before. No condition. -/
import Derived.Test.YtemkpimngbbpkaaGreatQt34
import Derived.Test.YtemkpimngbbpkaaGreatQt50
import Derived.Test.YtemkpimngbbpkaaGreatQt51
namespace Go.Proofs.YtemkpimngbbpkaaGreat
set_option linter.unusedVariables false
set_option linter.unusedSimpArgs false
open Go.ChangeShapes Go.WideShapes Go.ChangeAt Go.RowKit
set_option maxRecDepth 100000 in
theorem topTrees_lifted (os : Os) (started : os.Started) (H : Type) (enc : TypeId × Value -> H) :
 ReturnsInHanded {} Tryz.checked os 6 .any (Rows.topTreesSpec.pre6 enc Tryz.prog Tryz.f6 Rows.topTreesRow.domain false) (Rows.topTreesSpec.post enc Tryz.prog Tryz.f6 false true false false) := by
 refine returnsInHanded_of_change (C := Tryz.checked) row_own started (by kernel_rfl) Tryz.func6
  (ChangeSpec.witness6 (enc := enc) (C := Tryz.checked) false ⟨#[], #[.agg #[.slice none 0 0, .slice none 0 0], .slice none 0 0, .slice none 0 0], []⟩ 8 (by kernel_rfl) (by kernel_rfl) (by kernel_rfl) (by kernel_rfl)) ?_
 intro W base args ds gs before hval0 hW hcnd _
 have hval : ∀ (j : Nat) t v, Tryz.f6.params[j]? = some t -> args[j]? = some v -> Value.okWide Tryz.prog W .any base t v := hval0
 have hW' := hW
 obtain ⟨p, q, hA0, hV, rfl, hfz, hnd⟩ := hW
 have hA : DataW.TrodAll enc Tryz.prog W 0 (fun _ => true) true Tryz.f6.params.toList args.toList ds p := hA0
 rw [Tryz.params6] at hA hval
 obtain ⟨v0, vs0, d0, ds0, p0, q0, hargs, rfl, rfl, h0, r0⟩ := trodAll_cons hA
 obtain ⟨v1, vs1, d1, ds1, p1, q1, rfl, rfl, rfl, h1, r1⟩ := trodAll_cons r0
 obtain ⟨v2, vs2, d2, ds2, p2, q2, rfl, rfl, rfl, h2, r2⟩ := trodAll_cons r1
 obtain ⟨rfl, rfl, rfl⟩ := trodAll_nil r2
 obtain rfl : args = #[v0, v1, v2] := by cases args; simp_all
 obtain ⟨rfl, rfl⟩ := trodVars_none hV
 obtain ⟨Aq, cq, Ac, cc, p, rfl, hq, hc, hqc, hcc, hqm, hcm, _, _⟩ := open_plan (hval 0 68 v0 rfl rfl) h0
 obtain ⟨Al, cl, ql, rfl, hl, hl2, hl3, _⟩ := open_reqs (hval 1 77 v1 rfl rfl) h1
 obtain ⟨Ag, cg, gs, rfl, hg, hg2, hg3, hg4⟩ := open_groups (hval 2 78 v2 rfl rfl) h2
 refine (trees_walk Aq cq Ac cc p Al cl ql Ag cg gs W ⟨hq, hc, hqc, hcc, hqm, hcm⟩ hl hg hg4 (Nat.le_trans hl2 hl3) (Nat.le_trans hg2 hg3)).mono fun e W' ⟨he, hg⟩ => ?_
 subst he
 exact ⟨_, rfl, law_post row_laid (by kernel_rfl) rfl rfl rfl Tryz.underlying4 hW' hg⟩
theorem topTrees_holds : Rows.TopTreesSaid :=
 OpenClaim.holds_of_wide 6 Tryz.f6 rfl rfl rfl rfl rfl rfl rfl ⟨rfl, rfl, rfl, rfl, rfl⟩ rfl rfl rfl rfl rfl topTrees_named Tryz.func6 topTrees_joined
  (of_decide_eq_true (by kernel_rfl)) (by unfold Func.isWrapper; first | (rw [if_pos (by decide +kernel)]; kernel_rfl) | (rw [if_neg (by decide +kernel)]; exact ⟨rfl, rfl⟩))
  (fun os started H enc _ => topTrees_lifted os started H enc)
#print axioms topTrees_holds
end Go.Proofs.YtemkpimngbbpkaaGreat
