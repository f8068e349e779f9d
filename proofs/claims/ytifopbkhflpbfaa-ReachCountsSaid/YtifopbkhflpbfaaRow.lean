/- From a walk 'it returns true, and old memory stays' to the given statement: lemmas of no law in particular. -/
import Derived.Test.YtifopbkhflpbfaaBase
import Derived.ProofKit
import Derived.OpenShut
import Derived.Deep.Fields
import Derived.Deep.Slices
import Derived.ChangeSame
import Derived.Carry
namespace Go.Proofs.Ytifopbkhflpbfaa
set_option linter.unusedVariables false
open Go.ChangeShapes Go.WideShapes Go.ChangeAt Go.RowKit Go.Deep

section
variable {H : Type} {enc : TypeId × Value → H} {P : Program}

theorem trodAll_stays (hl : laidOutB P = true) {W W' : World} {sp : Nat → Bool} : ∀ {ts : List TypeId} {vs : List Value} {ds : List (DataW H)} {ps : List MemPlace},
    ts.all (fun t => P.readableRec t && decide (t < P.types.size)) = true → DataW.TrodAll enc P W 0 (fun _ => true) true ts vs ds ps → (∀ p ∈ ps, W.sameAt W' p) → (∀ p ∈ ps, sp p.block = true) →
    DataW.TrodAll enc P W' 0 sp true ts vs ds ps
  | [], [], [], _, _, h, _, _ => h
  | [], [], _ :: _, _, _, h, _, _ => h.elim
  | [], _ :: _, _, _, _, h, _, _ => h.elim
  | _ :: _, [], _, _, _, h, _, _ => h.elim
  | _ :: _, _ :: _, [], _, _, h, _, _ => h.elim
  | t :: ts, v :: vs, d :: ds, ps, hr, h, hs, hp => by
    obtain ⟨p, q, h1, h2, rfl⟩ := h
    simp only [List.all_cons, Bool.and_eq_true, decide_eq_true_eq] at hr
    exact ⟨p, q, WideElems.Trod_stays hl hr.1.1 hr.1.2 h1 (fun x hx => hs x (List.mem_append_left _ hx)) (fun x hx => hp x (List.mem_append_left _ hx)),
      trodAll_stays hl hr.2 h2 (fun x hx => hs x (List.mem_append_right _ hx)) (fun x hx => hp x (List.mem_append_right _ hx)), rfl⟩

/-- A law: it returned true, and what lay before the call lies as it lay. -/
theorem law_post {f : Func} {s : ChangeSpec} {W W' : World} {args : Array Value} {ds gs : List (DataW H)} {before : List MemPlace} {tb : TypeId}
    (hl : laidOutB P = true) (hr : f.params.toList.all (fun t => P.readableRec t && decide (t < P.types.size)) = true) (hsv : s.vars = [])
    (hfn : s.fn H (ds ++ gs) = { results := [.lit (.bool true)], args := ds }) (hrt : f.resultTypes = #[tb]) (htb : P.underlying tb = some .bool)
    (hW : DataW.Whole enc P f.params.toList s.vars false W args.toList ds gs before) (hb : Ext W W') : s.post enc P f false true false false W args (.bool true) W' := by
  have hlt := fun p (hp : p ∈ before) => hW.lt p hp
  have hW2 := hW
  obtain ⟨p, q, hA, hV, rfl, _, _⟩ := hW2
  have hq : q = [] := by
    rw [hsv] at hV
    exact (trodVars_none hV).2
  subst hq
  refine ⟨ds, gs, p ++ [], [], p, [], hW, ?_, ?_, ?_, World.keptBut_mono (fun x hx => ⟨hx, .inr (.inl (by simpa using hx))⟩) (hb.frame (· ∈ p ++ [])), fun h => by cases h⟩
  · rw [hfn, hrt]
    exact trodAll_cons_mk (shut_bool htb _) trodAll_mk0
  · rw [hfn]
    exact trodAll_stays hl hr hA (fun x hx => hb.same (hlt x (List.mem_append_left _ hx))) (fun x hx => by simpa using hlt x (List.mem_append_left _ hx))
  · rw [hfn, hsv]
    rfl

/-- The number in a cell. -/
def cellInt : Option Value → Int
  | some (.int _ z) => z
  | _ => 0
/-- A struct of numbers, by value. -/
theorem open_agg_ints {w : World} {base : Nat} {spare : Nat → Bool} {held : Bool} {r : Reach} {b0 : Nat} {t ti : TypeId} {fs : Array Field} {v : Value} {d : DataW H} {p : List MemPlace} (hs : P.underlying t = some (.struct fs)) (hone : oneCellFields P fs = true)
    (hC : P.cellsOf t = fs.size) (hf : fs.toList.map (·.type) = List.replicate fs.size ti) (hti : P.underlying ti = some (.int .i64))
    (hv : Value.okWide P w r b0 t v) (h : DataW.Trod enc P w base spare held t v d p) :
    ∃ zs : List Int, zs.length = fs.size ∧ v = .agg (zs.map (Value.int .i64)).toArray ∧ ∀ z ∈ zs, (Lit.int .i64 z).wf = true := by
  obtain ⟨cs, rfl, hsz⟩ := okWide_struct hs hv
  obtain ⟨fuel, hf2⟩ := h
  obtain ⟨xs, n, _, hx, _, hlen, hg⟩ := DataW.trod_struct hs hf2
  have key : ∀ j, j < fs.size → ∃ z, cs[j]? = some (.int .i64 z) ∧ (Lit.int .i64 z).wf = true := by
    intro j hj
    have hfj : fs[j]? = some fs[j] := by simp [hj]
    obtain ⟨o, k⟩ := hone_of hone j fs[j] hfj
    have hty : fs[j].type = ti := by
      have h1 : (fs.toList.map (·.type))[j]? = some fs[j].type := by simp [hj]
      rw [hf] at h1
      simp [hj] at h1
      exact h1.symm
    have h1 := hg j fs[j] hfj
    rw [o, k, hty] at h1
    have hj' : j < cs.size := by rw [hsz, hC]; exact hj
    have h2 : ((Value.agg cs).cells.toList.drop j).take 1 = [cs[j]] := by
      simp only [Value.cells]
      rw [List.drop_eq_getElem_cons (by simpa using hj')]
      simp
    rw [h2] at h1
    cases hxj : xs[j]? with
    | none => rw [List.getElem?_eq_none_iff] at hxj; omega
    | some y =>
      rw [hxj] at h1
      obtain ⟨z, hz, _, hw⟩ := DataW.trod_int hti h1
      refine ⟨z, ?_, hw⟩
      simp at hz
      simp [hj', hz]
  refine ⟨(List.range fs.size).map (fun j => cellInt cs[j]?), by simp, ?_, ?_⟩
  · congr 1
    apply Array.ext_getElem?
    intro j
    by_cases hj : j < fs.size
    · obtain ⟨z, hz, _⟩ := key j hj
      simp [hj, hz, cellInt]
    · have : ¬ j < cs.size := by rw [hsz, hC]; exact hj
      simp [hj, this]
  · intro z hz
    simp only [List.mem_map, List.mem_range] at hz
    obtain ⟨j, hj, e⟩ := hz
    obtain ⟨z', hz', hw⟩ := key j hj
    rw [hz'] at e
    simp [cellInt] at e
    rw [← e]; exact hw

end
end Go.Proofs.Ytifopbkhflpbfaa
