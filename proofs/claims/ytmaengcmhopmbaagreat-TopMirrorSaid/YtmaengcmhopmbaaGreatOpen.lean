/- From a walk to the given statement; what comes in, as plain data. -/
import Derived.Test.YtmaengcmhopmbaaGreatBase
import Derived.ProofKit
import Derived.OpenShut
import Derived.Deep.Fields
import Derived.Deep.Slices
import Derived.ChangeSame
import Derived.Carry
import Derived.Test.YtmaengcmhopmbaaGreatMemA

/- From a walk 'it returns true, and old memory stays' to the given statement: lemmas of no law in particular. -/
namespace Go.Proofs.YtmaengcmhopmbaaGreat
set_option linter.unusedVariables false
open Go.ChangeShapes Go.WideShapes Go.ChangeAt Go.RowKit Go.Deep

section
variable {H : Type} {enc : TypeId × Value → H} {P : Program}

theorem trodAll_stays (hl : laidOutB P = true) {W W' : World} {sp : Nat → Bool} : ∀ {ts : List TypeId} {vs : List Value} {ds : List (DataW H)} {ps : List MemPlace},
    ts.all (fun t => P.readableRec t && decide (t < P.types.size)) = true → DataW.TrodAll enc P W 0 (fun _ => true) true ts vs ds ps → (∀ p ∈ ps, W.sameAt W' p) → (∀ p ∈ ps, sp p.block = true) →
    DataW.TrodAll enc P W' 0 sp true ts vs ds ps
  | [], [], [], _, _, h, _, _ => h
  | [], [], _ :: _, _, _, h, _, _ => h.elim
  | [], _ :: _, _, _, _, h, _, _ => h.elim
  | _ :: _, [], _, _, _, h, _, _ => h.elim
  | _ :: _, _ :: _, [], _, _, h, _, _ => h.elim
  | t :: ts, v :: vs, d :: ds, ps, hr, h, hs, hp => by
    obtain ⟨p, q, h1, h2, rfl⟩ := h
    simp only [List.all_cons, Bool.and_eq_true, decide_eq_true_eq] at hr
    exact ⟨p, q, WideElems.Trod_stays hl hr.1.1 hr.1.2 h1 (fun x hx => hs x (List.mem_append_left _ hx)) (fun x hx => hp x (List.mem_append_left _ hx)),
      trodAll_stays hl hr.2 h2 (fun x hx => hs x (List.mem_append_right _ hx)) (fun x hx => hp x (List.mem_append_right _ hx)), rfl⟩

/-- A law: it returned true, and what lay before the call lies as it lay. -/
theorem law_post {f : Func} {s : ChangeSpec} {W W' : World} {args : Array Value} {ds gs : List (DataW H)} {before : List MemPlace} {tb : TypeId}
    (hl : laidOutB P = true) (hr : f.params.toList.all (fun t => P.readableRec t && decide (t < P.types.size)) = true) (hsv : s.vars = [])
    (hfn : s.fn H (ds ++ gs) = { results := [.lit (.bool true)], args := ds }) (hrt : f.resultTypes = #[tb]) (htb : P.underlying tb = some .bool)
    (hW : DataW.Whole enc P f.params.toList s.vars false W args.toList ds gs before) (hb : Ext W W') : s.post enc P f false true false false W args (.bool true) W' := by
  have hlt := fun p (hp : p ∈ before) => hW.lt p hp
  have hW2 := hW
  obtain ⟨p, q, hA, hV, rfl, _, _⟩ := hW2
  have hq : q = [] := by
    rw [hsv] at hV
    exact (trodVars_none hV).2
  subst hq
  refine ⟨ds, gs, p ++ [], [], p, [], hW, ?_, ?_, ?_, World.keptBut_mono (fun x hx => ⟨hx, .inr (.inl (by simpa using hx))⟩) (hb.frame (· ∈ p ++ [])), fun h => by cases h⟩
  · rw [hfn, hrt]
    exact trodAll_cons_mk (shut_bool htb _) trodAll_mk0
  · rw [hfn]
    exact trodAll_stays hl hr hA (fun x hx => hb.same (hlt x (List.mem_append_left _ hx))) (fun x hx => by simpa using hlt x (List.mem_append_left _ hx))
  · rw [hfn, hsv]
    rfl

/-- The number in a cell. -/
def cellInt : Option Value → Int
  | some (.int _ z) => z
  | _ => 0
/-- A struct of numbers, by value. -/
theorem open_agg_ints {w : World} {base : Nat} {spare : Nat → Bool} {held : Bool} {r : Reach} {b0 : Nat} {t ti : TypeId} {fs : Array Field} {v : Value} {d : DataW H} {p : List MemPlace} (hs : P.underlying t = some (.struct fs)) (hone : oneCellFields P fs = true)
    (hC : P.cellsOf t = fs.size) (hf : fs.toList.map (·.type) = List.replicate fs.size ti) (hti : P.underlying ti = some (.int .i64))
    (hv : Value.okWide P w r b0 t v) (h : DataW.Trod enc P w base spare held t v d p) :
    ∃ zs : List Int, zs.length = fs.size ∧ v = .agg (zs.map (Value.int .i64)).toArray ∧ ∀ z ∈ zs, (Lit.int .i64 z).wf = true := by
  obtain ⟨cs, rfl, hsz⟩ := okWide_struct hs hv
  obtain ⟨fuel, hf2⟩ := h
  obtain ⟨xs, n, _, hx, _, hlen, hg⟩ := DataW.trod_struct hs hf2
  have key : ∀ j, j < fs.size → ∃ z, cs[j]? = some (.int .i64 z) ∧ (Lit.int .i64 z).wf = true := by
    intro j hj
    have hfj : fs[j]? = some fs[j] := by simp [hj]
    obtain ⟨o, k⟩ := hone_of hone j fs[j] hfj
    have hty : fs[j].type = ti := by
      have h1 : (fs.toList.map (·.type))[j]? = some fs[j].type := by simp [hj]
      rw [hf] at h1
      simp [hj] at h1
      exact h1.symm
    have h1 := hg j fs[j] hfj
    rw [o, k, hty] at h1
    have hj' : j < cs.size := by rw [hsz, hC]; exact hj
    have h2 : ((Value.agg cs).cells.toList.drop j).take 1 = [cs[j]] := by
      simp only [Value.cells]
      rw [List.drop_eq_getElem_cons (by simpa using hj')]
      simp
    rw [h2] at h1
    cases hxj : xs[j]? with
    | none => rw [List.getElem?_eq_none_iff] at hxj; omega
    | some y =>
      rw [hxj] at h1
      obtain ⟨z, hz, _, hw⟩ := DataW.trod_int hti h1
      refine ⟨z, ?_, hw⟩
      simp at hz
      simp [hj', hz]
  refine ⟨(List.range fs.size).map (fun j => cellInt cs[j]?), by simp, ?_, ?_⟩
  · congr 1
    apply Array.ext_getElem?
    intro j
    by_cases hj : j < fs.size
    · obtain ⟨z, hz, _⟩ := key j hj
      simp [hj, hz, cellInt]
    · have : ¬ j < cs.size := by rw [hsz, hC]; exact hj
      simp [hj, this]
  · intro z hz
    simp only [List.mem_map, List.mem_range] at hz
    obtain ⟨j, hj, e⟩ := hz
    obtain ⟨z', hz', hw⟩ := key j hj
    rw [hz'] at e
    simp [cellInt] at e
    rw [← e]; exact hw

end
end Go.Proofs.YtmaengcmhopmbaaGreat

/- What comes in: a struct of numbers and truth values (structs in structs too), and a slice of such, read as plain data. -/
namespace Go.Proofs.YtmaengcmhopmbaaGreat
set_option linter.unusedVariables false
open Go.ChangeShapes Go.WideShapes Go.ChangeAt Go.RowKit Go.Deep

inductive CK where
  | i64
  | bool
  | num (k : IntKind)
def CK.ok : CK → Value → Prop
  | .i64, v => ∃ z : Int, v = .int .i64 z ∧ (Lit.int .i64 z).wf = true
  | .num k, v => ∃ z : Int, v = .int k z ∧ (Lit.int k z).wf = true
  | .bool, v => ∃ b : Bool, v = .bool b
def CKs : List CK → List Value → Prop
  | [], [] => True
  | k :: ks, v :: vs => k.ok v ∧ CKs ks vs
  | _, _ => False
theorem CKs.append : ∀ {ks ls : List CK} {vs us : List Value}, CKs ks vs → CKs ls us → CKs (ks ++ ls) (vs ++ us)
  | [], _, [], _, _, h => h
  | _ :: _, _, [], _, h, _ => h.elim
  | [], _, _ :: _, _, h, _ => h.elim
  | _ :: _, _, _ :: _, _, h, g => ⟨h.1, CKs.append h.2 g⟩
theorem CKs.len : ∀ {ks : List CK} {vs : List Value}, CKs ks vs → vs.length = ks.length
  | [], [], _ => rfl
  | _ :: _, [], h => h.elim
  | [], _ :: _, h => h.elim
  | _ :: _, _ :: _, h => by simp [CKs.len h.2]

theorem CKs.ints : ∀ {n : Nat} {vs : List Value}, CKs (List.replicate n .i64) vs → ∃ zs : List Int, zs.length = n ∧ vs = zs.map (Value.int .i64) ∧ ∀ z ∈ zs, (Lit.int .i64 z).wf = true
  | 0, [], _ => ⟨[], rfl, rfl, by simp⟩
  | 0, _ :: _, h => h.elim
  | _ + 1, [], h => h.elim
  | n + 1, v :: vs, h => by
    obtain ⟨⟨z, rfl, hz⟩, h2⟩ := h
    obtain ⟨zs, h3, rfl, h4⟩ := CKs.ints (n := n) h2
    exact ⟨z :: zs, by simp [h3], rfl, by simpa using ⟨hz, h4⟩⟩
theorem CKs.split : ∀ {ks ls : List CK} {vs : List Value}, CKs (ks ++ ls) vs → ∃ us ws, vs = us ++ ws ∧ CKs ks us ∧ CKs ls ws
  | [], _, vs, h => ⟨[], vs, rfl, trivial, h⟩
  | _ :: _, _, [], h => h.elim
  | _ :: _, _, v :: vs, h => by
    obtain ⟨us, ws, rfl, h1, h2⟩ := CKs.split h.2
    exact ⟨v :: us, ws, rfl, ⟨h.1, h1⟩, h2⟩

def tile (P : Program) (g : TypeId → Option (List CK)) : List Field → Nat → Option (List CK)
  | [], _ => some []
  | f :: fs, off =>
    if f.offset = off then
      match g f.type with
      | some ks => if P.cellsOf f.type = ks.length then (match tile P g fs (off + ks.length) with | some ls => some (ks ++ ls) | none => none) else none
      | none => none
    else none
def flatK (P : Program) : Nat → TypeId → Option (List CK)
  | 0, _ => none
  | n + 1, t =>
    match P.underlying t with
    | some (.int .i64) => some [.i64]
    | some (.int k) => some [.num k]
    | some .bool => some [.bool]
    | some (.struct fs) =>
      match tile P (flatK P n) fs.toList 0 with
      | some ks => if P.cellsOf t = ks.length then some ks else none
      | none => none
    | _ => none

section
variable {H : Type} {enc : TypeId × Value → H} {P : Program} {w : World} {base : Nat} {spare : Nat → Bool} {held : Bool}
theorem tile_ok (g : TypeId → Option (List CK)) (m : Nat) (cs : List Value) (hg : ∀ t ks, g t = some ks → ∀ vs x, DataW.trod enc P w base spare held m t vs = some x → CKs ks vs) :
    ∀ (fs : List Field) (off : Nat) (ks : List CK), tile P g fs off = some ks → (∀ f ∈ fs, ∃ x, DataW.trod enc P w base spare held m f.type ((cs.drop f.offset).take (P.cellsOf f.type)) = some x) → CKs ks ((cs.drop off).take ks.length)
  | [], off, ks, h, _ => by
    simp only [tile, Option.some.injEq] at h
    subst h; exact trivial
  | f :: fs, off, ks, h, hr => by
    simp only [tile] at h
    split at h
    · rename_i h0
      split at h
      · rename_i ks1 h1
        split at h
        · rename_i h2
          split at h
          · rename_i ls h3
            injection h with h
            subst h
            obtain ⟨x, hx⟩ := hr f (by simp)
            have a1 := hg _ _ h1 _ _ hx
            rw [h0, h2] at a1
            have a2 := tile_ok g m cs hg fs _ ls h3 (fun f' hf' => hr f' (by simp [hf']))
            have e : (cs.drop off).take (ks1 ++ ls).length = (cs.drop off).take ks1.length ++ (cs.drop (off + ks1.length)).take ls.length := by
              rw [List.length_append, List.take_add, List.drop_drop]
            rw [e]
            exact CKs.append a1 a2
          · cases h
        · cases h
      · cases h
    · cases h
theorem flat_trod : ∀ (n : Nat) (t : TypeId) (ks : List CK), flatK P n t = some ks → ∀ m vs x, DataW.trod enc P w base spare held m t vs = some x → CKs ks vs
  | 0, _, _, h => by cases h
  | n + 1, t, ks, h => by
    intro m vs x hx
    unfold flatK at h
    split at h
    · rename_i ht
      injection h with h
      subst h
      obtain ⟨z, rfl, _, hw⟩ := DataW.trod_int ht hx
      exact ⟨⟨z, rfl, hw⟩, trivial⟩
    · rename_i ht
      injection h with h
      subst h
      obtain ⟨z, rfl, _, hw⟩ := DataW.trod_int ht hx
      exact ⟨⟨z, rfl, hw⟩, trivial⟩
    · rename_i ht
      injection h with h
      subst h
      obtain ⟨z, rfl, _⟩ := DataW.trod_bool ht hx
      exact ⟨⟨z, rfl⟩, trivial⟩
    · rename_i fs ht
      split at h
      · rename_i ks1 h1
        split at h
        · rename_i h2
          injection h with h
          subst h
          obtain ⟨xs, m', _, _, hl, hxl, hf⟩ := DataW.trod_struct ht hx
          have := tile_ok (flatK P n) m' vs (fun t ks hk vs x hx => flat_trod n t ks hk m' vs x hx) fs.toList 0 ks1 h1 (fun f hf' => by
            obtain ⟨i, hi, he⟩ := List.getElem_of_mem hf'
            have hi' : i < fs.size := by simpa using hi
            have h3 := hf i f (by rw [Array.getElem?_eq_getElem hi']; rw [← he]; rfl)
            exact ⟨xs[i], h3.trans (List.getElem?_eq_getElem (by omega))⟩)
          rw [List.drop_zero, ← h2, ← hl, List.take_length] at this
          exact this
        · cases h
      · cases h
    · cases h

/-- A struct by value. -/
theorem open_flat {r : Reach} {b0 : Nat} {t : TypeId} {fs : Array Field} {v : Value} {d : DataW H} {p : List MemPlace} {ks : List CK} {n : Nat} (hs : P.underlying t = some (.struct fs)) (hk : flatK P n t = some ks)
    (hv : Value.okWide P w r b0 t v) (h : DataW.Trod enc P w base spare held t v d p) : ∃ cs : List Value, v = .agg cs.toArray ∧ CKs ks cs := by
  obtain ⟨cs, rfl, hsz⟩ := okWide_struct hs hv
  obtain ⟨fuel, hf⟩ := h
  exact ⟨cs.toList, by simp, flat_trod n t ks hk _ _ _ hf⟩

theorem list_of {α : Type} {q : Nat → α → Prop} : ∀ (n : Nat), (∀ i, i < n → ∃ x, q i x) → ∃ l : List α, l.length = n ∧ ∀ (i : Nat) (h : i < l.length), q i l[i]
  | 0, _ => ⟨[], rfl, fun i h => by simp at h⟩
  | n + 1, h => by
    obtain ⟨l, hl, hq⟩ := list_of n (fun i hi => h i (by omega))
    obtain ⟨x, hx⟩ := h n (by omega)
    refine ⟨l ++ [x], by simp [hl], fun i hi => ?_⟩
    by_cases hin : i < l.length
    · rw [List.getElem_append_left hin]; exact hq i hin
    · have : i = n := by simp [hl] at hi; omega
      subst this
      subst hl
      simpa using hx

/-- A slice of elements. -/
theorem open_list_at {α : Type} (E : Elt α) (wf : α → Prop) {t e : TypeId} {ks : List CK} {n : Nat} {v : Value} {d : DataW H} {p : List MemPlace} (ht : P.underlying t = some (.slice e)) (hk : flatK P n e = some ks) (hC : P.cellsOf e = E.size)
    (dec : ∀ cs, CKs ks cs → ∃ x : α, cs = E.cells x ∧ wf x) (hone : v.cells.toList = [v]) (h : DataW.Trod enc P w base spare held t v d p) :
    ∃ (A : Option Addr) (c : Nat) (l : List α), v = .slice A l.length c ∧ Rd E w A l ∧ l.length ≤ c ∧ c ≤ maxLen ∧ ∀ x ∈ l, wf x := by
  obtain ⟨fuel, hf⟩ := h
  rcases open_slice ht hf with ⟨h1, _⟩ | ⟨a, len, cap, m, n', D, Pl, h1, hb, hl, hm, hmm, _, hi⟩
  · rw [hone] at h1
    injection h1 with h1
    subst h1
    exact ⟨none, 0, [], rfl, Rd.nil, Nat.le_refl _, Nat.zero_le _, by simp⟩
  · rw [hone] at h1
    injection h1 with h1
    subst h1
    have hlm : len ≤ m := by rw [hmm]; split <;> omega
    obtain ⟨l, hll, hq⟩ := list_of (q := fun i (x : α) => wf x ∧ w.cells? base (a.add (i * P.cellsOf e)) (P.cellsOf e) = some (E.cells x)) len (fun i hil => by
      obtain ⟨cs', hc, ht'⟩ := hi i (by omega)
      obtain ⟨x, hx, hwf⟩ := dec cs' (flat_trod n e ks hk _ _ _ ht')
      exact ⟨x, hwf, by rw [hc, hx]⟩)
    subst hll
    refine ⟨some a, cap, l, rfl, ⟨E.all_len l, fun hn => ⟨a, rfl, ?_, ?_⟩⟩, hl, hm, ?_⟩
    · have h0 := (hq 0 hn).2
      obtain ⟨_, hcl, hat⟩ := World.cells?_some h0
      have h2 := hat 0 (by rw [hC]; exact E.pos)
      have h3 : (E.cells l[0])[0]? = some ((E.cells l[0])[0]'(by rw [E.len]; exact E.pos)) := List.getElem?_eq_getElem _
      rw [h3] at h2
      have := cell_lt h2
      simpa [block_of_add] using this
    · intro j u hu
      have hpos := E.pos
      have hj : j < (E.all l).length := (List.getElem?_eq_some_iff.1 hu).1
      rw [E.all_len] at hj
      have hk1 : j / E.size < l.length := Nat.div_lt_of_lt_mul (by rw [Nat.mul_comm]; exact hj)
      have hr : j % E.size < E.size := Nat.mod_lt _ hpos
      have e1 : j / E.size * E.size + j % E.size = j := by rw [Nat.mul_comm]; exact Nat.div_add_mod j E.size
      have h2 := E.all_at l (j / E.size) hk1 (j % E.size) hr
      rw [e1, hu] at h2
      obtain ⟨_, hcl, hat⟩ := World.cells?_some (hq _ hk1).2
      have h3 := hat (j % E.size) (by rw [hC]; exact hr)
      rw [← h2, hC, Go.Deep.add_add, e1] at h3
      exact h3
    · intro x hx
      obtain ⟨i, hi', he⟩ := List.getElem_of_mem hx
      rw [← he]
      exact (hq i hi').1
theorem open_list {α : Type} (E : Elt α) (wf : α → Prop) {r : Reach} {b0 : Nat} {t e : TypeId} {ks : List CK} {n : Nat} {v : Value} {d : DataW H} {p : List MemPlace} (ht : P.underlying t = some (.slice e)) (hk : flatK P n e = some ks) (hC : P.cellsOf e = E.size)
    (dec : ∀ cs, CKs ks cs → ∃ x : α, cs = E.cells x ∧ wf x) (hv : Value.okWide P w r b0 t v) (h : DataW.Trod enc P w base spare held t v d p) :
    ∃ (A : Option Addr) (c : Nat) (l : List α), v = .slice A l.length c ∧ Rd E w A l ∧ l.length ≤ c ∧ c ≤ maxLen ∧ ∀ x ∈ l, wf x :=
  open_list_at E wf ht hk hC dec (by obtain ⟨a, l, c, rfl⟩ := okWide_slice ht hv; rfl) h
/-- A cell that holds a slice. -/
theorem open_list_cell {α : Type} (E : Elt α) (wf : α → Prop) {t e : TypeId} {ks : List CK} {n m : Nat} {v : Value} {x : DataW H × List MemPlace} (ht : P.underlying t = some (.slice e)) (hk : flatK P n e = some ks) (hC : P.cellsOf e = E.size)
    (dec : ∀ cs, CKs ks cs → ∃ x : α, cs = E.cells x ∧ wf x) (h : DataW.trod enc P w base spare held m t [v] = some x) :
    ∃ (A : Option Addr) (c : Nat) (l : List α), v = .slice A l.length c ∧ Rd E w A l ∧ l.length ≤ c ∧ c ≤ maxLen ∧ ∀ x ∈ l, wf x := by
  have hone : v.cells.toList = [v] := by
    rcases open_slice ht h with ⟨h1, _⟩ | ⟨a, len, cap, m, n', D, Pl, h1, _⟩
    · injection h1 with h1; subst h1; rfl
    · injection h1 with h1; subst h1; rfl
  exact open_list_at E wf ht hk hC dec hone ⟨m, by rw [hone]; exact h⟩
/-- A struct of two slices. -/
theorem open_two {r : Reach} {b0 : Nat} {t : TypeId} {f0 f1 : Field} {v : Value} {d : DataW H} {p : List MemPlace} (hs : P.underlying t = some (.struct #[f0, f1])) (hone : oneCellFields P #[f0, f1] = true) (hC : P.cellsOf t = 2)
    (hv : Value.okWide P w r b0 t v) (h : DataW.Trod enc P w base spare held t v d p) :
    ∃ v0 v1 m y0 y1, v = .agg #[v0, v1] ∧ DataW.trod enc P w base spare held m f0.type [v0] = some y0 ∧ DataW.trod enc P w base spare held m f1.type [v1] = some y1 := by
  obtain ⟨cs, rfl, hsz⟩ := okWide_struct hs hv
  obtain ⟨l⟩ := cs
  match l, hsz.trans hC with
  | [c0, c1], _ =>
    obtain ⟨fuel, hf⟩ := h
    obtain ⟨xs, n, _, hx, _, hlen, hg⟩ := DataW.trod_struct hs hf
    obtain ⟨o0, k0⟩ := hone_of hone 0 f0 rfl
    obtain ⟨o1, k1⟩ := hone_of hone 1 f1 rfl
    match xs, hlen with
    | [y0, y1], _ =>
      exact ⟨c0, c1, n, y0, y1, rfl, by simpa [Value.cells, o0, k0] using hg 0 f0 rfl, by simpa [Value.cells, o1, k1] using hg 1 f1 rfl⟩
end
end Go.Proofs.YtmaengcmhopmbaaGreat
