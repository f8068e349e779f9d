/- A region that draws its order: what a load reads need hold only till the stores behind it. · A region that draws its order and only reads, inside a round of a range over a function. -/
import Derived.OrdersHeld
import Derived.Deep.RegionHeld
import Derived.Sort.QuietIn
import Derived.RangeFuncNested
import Derived.Lib.QuietBelowIn
import Derived.Test.YtemkpimngbbpkaaGreatQs01
namespace Go.Proofs.YtemkpimngbbpkaaGreat
set_option linter.unusedVariables false
set_option linter.unusedSimpArgs false
section
open Go
section
variable {P : Program} {ops : Array Oper} {Q : Exit -> Act -> World -> Prop} {md : Region.Mode} {S : World -> Prop} {T : Nat -> Bool}
def wpAnyP (P : Program) (md : Region.Mode) (ops : Array Oper) (Q : Exit -> Act -> World -> Prop) (T : Nat -> Bool) (S : World -> Prop) : Nat -> Array Bool -> Act -> World -> Prop
 | 0, listed, a, w => Region.ready md ops listed = [] /\ Q .normal a w
 | fuel + 1, listed, a, w =>
   (Region.ready md ops listed = [] -> Q .normal a w) /\
   ∀ i ∈ Region.ready md ops listed, wpOp P ops Q i (fun a' w' => (T i = false -> S w -> S w') /\ wpAnyP P md ops Q T S fuel (listed.setIfInBounds i true) a' w') a w
theorem wpAny_of_P : ∀ (fuel : Nat) (listed : Array Bool) (a : Act) (w : World), wpAnyP P md ops Q T S fuel listed a w -> wpAny P md ops Q fuel listed a w
 | 0, _, _, _, h => h
 | fuel + 1, _, _, _, h => ⟨h.1, fun i hi => wpOp_mono (fun a' w' h' => wpAny_of_P fuel _ a' w' h'.2) (h.2 i hi)⟩
theorem wpAnyP_first {R : World -> Prop} {i : Nat} {oi : Oper} {v : Value} (hi : ops[i]? = some oi) (hsel : ∀ (j : Nat) (o : Oper) cs b, ops[j]? = some o -> o.op ≠ .select cs b)
 (hQ : ∀ c a w, Q (.panic c) (a.put oi.dst v) w -> Q (.panic c) a w)
 (hstep : ∀ j oj, ops[j]? = some oj -> (∀ e ∈ oj.after, Region.binds md e = true -> e.on ≠ i) -> ∀ w w', R w -> (T j = false -> S w -> S w') -> R w') :
 ∀ (fuel : Nat) (listed : Array Bool) (a : Act) (w : World),
   (∀ j oj, ops[j]? = some oj -> j ≠ i -> listed.getD j true = false -> (∀ e ∈ oj.after, Region.binds md e = true -> e.on ≠ i) -> oi.apart ops oj = true) ->
   i ∈ Region.ready md ops listed -> YieldsIf P ops R oi v a -> R w ->
   wpAnyP P md ops Q T S fuel (listed.setIfInBounds i true) (a.put oi.dst v) w -> wpAnyP P md ops Q T S (fuel + 1) listed a w := by
 intro fuel
 induction fuel with
 | zero =>
   intro listed a w _ hr hy hS H
   refine ⟨fun h => (by rw [h] at hr; cases hr), fun j hj => ?_⟩
   by_cases hji : j = i
   ·subst hji; exact hy.wpOp hi hS ⟨fun _ h => h, H⟩
   ·have := ready_mono hj hji
    rw [H.1] at this
    cases this
 | succ fuel ih =>
   intro listed a w hfree hr hy hS H
   refine ⟨fun h => (by rw [h] at hr; cases hr), fun j hj => ?_⟩
   by_cases hji : j = i
   ·subst hji; exact hy.wpOp hi hS ⟨fun _ h => h, H⟩
   ·have h1 := H.2 j (ready_mono hj hji)
    obtain ⟨hjun, oj, hoj, hall⟩ := mem_ready.1 hj
    have hnot : ∀ e ∈ oj.after, Region.binds md e = true -> e.on ≠ i := fun e he hb heq => by
     have h1 := hall e he hb
     have h0 := (mem_ready.1 hr).1
     rw [heq] at h1
     rcases Nat.lt_or_ge i listed.size with h' | h'
     ·simp [h'] at h0 h1; rw [h0] at h1; cases h1
     ·simp [Array.getElem?_eq_none h'] at h1
    have h2 := wpOp_putIf hoj (hfree j oj hoj hji hjun hnot) (fun cs b => hsel i oi cs b hi) (fun cs b => hsel j oj cs b hoj) hQ hy h1
    have hfree' : ∀ k ok, ops[k]? = some ok -> k ≠ i -> (listed.setIfInBounds j true).getD k true = false ->
     (∀ e ∈ ok.after, Region.binds md e = true -> e.on ≠ i) -> oi.apart ops ok = true := fun k ok hk hki hun hno => by
     refine hfree k ok hk hki ?_ hno
     by_cases hjk : j = k
     ·subst hjk; exact hjun
     ·rw [getD_set_ne true hjk] at hun; exact hun
    refine wpOp_mono (fun a' w' h3 => ⟨h3.2.1, ih (listed.setIfInBounds j true) a' w' hfree' (ready_mono hr (Ne.symm hji)) h3.1 (hstep j oj hoj hnot w w' hS h3.2.1) ?_⟩) h2
    rw [Array.setIfInBounds_comm _ _ hji]
    exact h3.2.2
def waitsFor (md : Region.Mode) (ops : Array Oper) (T : Nat -> Bool) (i : Nat) : Bool :=
 (List.range ops.size).all fun j => !T j || (match ops[j]? with | some o => o.after.any (fun e => Region.binds md e && e.on == i) | none => true)
theorem waitsFor_spec {i : Nat} (h : waitsFor md ops T i = true) (j : Nat) (oj : Oper) (hj : ops[j]? = some oj) (hno : ∀ e ∈ oj.after, Region.binds md e = true -> e.on ≠ i) : T j = false := by
 unfold waitsFor at h
 have hlt : j < ops.size := (Array.getElem?_eq_some_iff.1 hj).1
 have h1 := List.all_eq_true.1 h j (List.mem_range.2 hlt)
 cases hT : T j with
 | false => rfl
 | true =>
   rw [hT, hj] at h1
   simp only [Bool.not_true, Bool.false_or, Array.any_eq_true'] at h1
   obtain ⟨e, he, h2⟩ := h1
   simp only [Bool.and_eq_true, beq_iff_eq] at h2
   exact (hno e he h2.1 h2.2).elim
theorem wpAnyP_take {i : Nat} {oi : Oper} {v : Value} {fuel : Nat} {listed : Array Bool} {a : Act} {w : World} (hi : ops[i]? = some oi) (hTw : waitsFor md ops T i = true)
 (hs : Region.noSelect ops = true) (hf : Region.free md ops listed i = true) (hr : (Region.ready md ops listed).contains i = true)
 (hQ : ∀ c a w, Q (.panic c) (a.put oi.dst v) w -> Q (.panic c) a w) (hy : YieldsIf P ops S oi v a) (hS : S w)
 (h : wpAnyP P md ops Q T S fuel (listed.setIfInBounds i true) (a.put oi.dst v) w) : wpAnyP P md ops Q T S (fuel + 1) listed a w :=
 wpAnyP_first hi (Region.noSelect_spec hs) hQ (fun j oj hj hno w w' hw hw' => hw' (waitsFor_spec hTw j oj hj hno) hw) fuel listed a w (Region.free_spec hi hf) (by simpa using hr) hy hS h
theorem wpAnyP_takeT {i : Nat} {oi : Oper} {v : Value} {fuel : Nat} {listed : Array Bool} {a : Act} {w : World} (hi : ops[i]? = some oi)
 (hs : Region.noSelect ops = true) (hf : Region.free md ops listed i = true) (hr : (Region.ready md ops listed).contains i = true)
 (hQ : ∀ c a w, Q (.panic c) (a.put oi.dst v) w -> Q (.panic c) a w) (hy : Yields P ops oi v a)
 (h : wpAnyP P md ops Q T S fuel (listed.setIfInBounds i true) (a.put oi.dst v) w) : wpAnyP P md ops Q T S (fuel + 1) listed a w :=
 wpAnyP_first (R := fun _ => True) hi (Region.noSelect_spec hs) hQ (fun _ _ _ _ _ _ _ _ => trivial) fuel listed a w (Region.free_spec hi hf) (by simpa using hr) hy.yieldsIf trivial h
theorem wpAnyP_all {rs : List Nat} {fuel : Nat} {listed : Array Bool} {a : Act} {w : World} (hr : Region.ready md ops listed = rs) (hne : rs ≠ [])
 (h : ∀ i ∈ rs, wpOp P ops Q i (fun a' w' => (T i = false -> S w -> S w') /\ wpAnyP P md ops Q T S fuel (listed.setIfInBounds i true) a' w') a w) : wpAnyP P md ops Q T S (fuel + 1) listed a w :=
 ⟨fun h0 => absurd (hr ▸ h0) hne, hr ▸ h⟩
theorem wpAnyP_done {listed : Array Bool} {a : Act} {w : World} (hr : Region.ready md ops listed = []) (h : Q .normal a w) :
 ∀ fuel, wpAnyP P md ops Q T S fuel listed a w
 | 0 => ⟨hr, h⟩
 | _ + 1 => ⟨fun _ => h, by rw [hr]; simp⟩
theorem wp_region_P (T : Nat -> Bool) (S : World -> Prop) {id : Nat} {a : Act} {w : World} (hm : P.follows .mixedOrders = true) (hS : S w.drew)
 (h : S w.drew -> wpAnyP P .any ops Q T S ops.size (Array.replicate ops.size false) a w.drew) : (Code.region id ops true).wp P Q a w :=
 wp_region_any hm (wpAny_of_P _ _ _ _ (h hS))
def AllReadyP (P : Program) (md : Region.Mode) (ops : Array Oper) (Q : Exit -> Act -> World -> Prop) (T : Nat -> Bool) (S : World -> Prop) (fuel : Nat) (listed : Array Bool) (a : Act) (w : World) (rs : List Nat) : Prop :=
 ∀ i ∈ rs, wpOp P ops Q i (fun a' w' => (T i = false -> S w -> S w') /\ wpAnyP P md ops Q T S fuel (listed.setIfInBounds i true) a' w') a w
theorem AllReadyP.nil {fuel : Nat} {listed : Array Bool} {a : Act} {w : World} : AllReadyP P md ops Q T S fuel listed a w [] := fun _ h => by cases h
theorem AllReadyP.cons {fuel : Nat} {listed : Array Bool} {a : Act} {w : World} {i : Nat} {o : Oper} {rs : List Nat} (ho : ops[i]? = some o)
 (h : ∀ K' : Act -> World -> Prop, Shut (∀ a w', (T i = false -> S w -> S w') -> wpAnyP P md ops Q T S fuel (listed.setIfInBounds i true) a w' -> K' a w') -> if Region.wanted o (yielded ops a.tmps) = true then Oper.wp P o a w K' Q else K' (a.put o.dst undef) w)
 (hs : AllReadyP P md ops Q T S fuel listed a w rs) : AllReadyP P md ops Q T S fuel listed a w (i :: rs) := fun j hj => by
 rcases List.mem_cons.1 hj with rfl | hj
 ·exact wpOp_step ho (fun K' hK => h K' (fun a w hS hW => hK a w ⟨hS, hW⟩))
 ·exact hs j hj
theorem wpAnyP_ready {rs : List Nat} {fuel : Nat} {listed : Array Bool} {a : Act} {w : World} (hr : Region.ready md ops listed = rs) (hne : rs ≠ [])
 (h : AllReadyP P md ops Q T S fuel listed a w rs) : wpAnyP P md ops Q T S (fuel + 1) listed a w := wpAnyP_all hr hne h
end
end
section
open Go Go.RowKit
theorem sp1 : (∀ (l : List Value) (i : Nat) (a : Value), l.toArray.setIfInBounds i a = (l.set i a).toArray) /\ (∀ (a b : Value) (l : List Value), (a :: l).set 0 b = b :: l) /\ (∀ (a b : Value) (l : List Value) (n : Nat), (a :: l).set (n + 1) b = a :: l.set n b) :=
 ⟨fun _ _ _ => List.setIfInBounds_toArray .., fun _ _ _ => rfl, fun _ _ _ _ => rfl⟩
theorem pT {P : Program} {ops : Array Oper} {Q : Exit -> Act -> World -> Prop} {md : Region.Mode} {S : World -> Prop} {T : Nat -> Bool} (i : Nat) {oi : Oper} {v : Value} {fuel : Nat} {listed : Array Bool} {a : Act} {w : World} (hi : ops[i]? = some oi)
 (hQ : ∀ c a w, Q (.panic c) (a.put oi.dst v) w -> Q (.panic c) a w) (hw : Region.wanted oi (yielded ops a.tmps) = true) (hy : ∀ w, (execOp a.eval oi).run P w = .ok (.value v) w)
 (h : wpAnyP P md ops Q T S fuel (listed.setIfInBounds i true) (a.put oi.dst v) w)
 (hs : Region.noSelect ops = true := by kernel_rfl) (hf : Region.free md ops listed i = true := by kernel_rfl) (hr : (Region.ready md ops listed).contains i = true := by kernel_rfl) : wpAnyP P md ops Q T S (fuel + 1) listed a w :=
 wpAnyP_takeT hi hs hf hr hQ (.inl ⟨hw, hy⟩) h
theorem pK {P : Program} {ops : Array Oper} {Q : Exit -> Act -> World -> Prop} {md : Region.Mode} {S : World -> Prop} {T : Nat -> Bool} (i : Nat) {oi : Oper} {v : Value} {fuel : Nat} {listed : Array Bool} {a : Act} {w : World} (hi : ops[i]? = some oi)
 (hQ : ∀ c a w, Q (.panic c) (a.put oi.dst v) w -> Q (.panic c) a w) (hw : Region.wanted oi (yielded ops a.tmps) = true) (hy : ∀ w, S w -> (execOp a.eval oi).run P w = .ok (.value v) w) (hS : S w)
 (h : wpAnyP P md ops Q T S fuel (listed.setIfInBounds i true) (a.put oi.dst v) w)
 (hT : waitsFor md ops T i = true := by kernel_rfl) (hs : Region.noSelect ops = true := by kernel_rfl) (hf : Region.free md ops listed i = true := by kernel_rfl) (hr : (Region.ready md ops listed).contains i = true := by kernel_rfl) : wpAnyP P md ops Q T S (fuel + 1) listed a w :=
 wpAnyP_take hi hT hs hf hr hQ (.inl ⟨hw, hy⟩) hS h
theorem pO {P : Program} {ops : Array Oper} {Q : Exit -> Act -> World -> Prop} {md : Region.Mode} {S : World -> Prop} {T : Nat -> Bool} (i : Nat) {o : Oper} {fuel : Nat} {listed : Array Bool} {a : Act} {w : World} (ho : ops[i]? = some o)
 (h : ∀ K' : Act -> World -> Prop, Shut (∀ a w', (T i = false -> S w -> S w') -> wpAnyP P md ops Q T S fuel (listed.setIfInBounds i true) a w' -> K' a w') -> if Region.wanted o (yielded ops a.tmps) = true then Oper.wp P o a w K' Q else K' (a.put o.dst undef) w)
 (hr : Region.ready md ops listed = [i] := by kernel_rfl) : wpAnyP P md ops Q T S (fuel + 1) listed a w :=
 wpAnyP_ready hr (by simp) (AllReadyP.cons ho h AllReadyP.nil)
end
section
open Go Go.RowKit
def noDefer (l : List Oper) : Bool := l.all fun o => match o.op with
 | .defer _ => false
 | _ => true
theorem noDefer_get {l : List Oper} (h : noDefer l = true) {i : Nat} {o : Oper} (hi : l.toArray[i]? = some o) : ∀ c, o.op ≠ .defer c := by
 intro c hc
 have hm : o ∈ l := by
  have := List.mem_of_getElem? (l := l) (i := i) (a := o) (by simpa using hi)
  exact this
 have := List.all_eq_true.1 h o hm
 rw [hc] at this
 cases this
section
variable {F : Fence} {n : Nat} {P : Program} {Q : Exit -> Act -> World -> Prop}
theorem op_round {o : Oper} {a : Act} {w : World} {K : Act -> World -> Prop} (l0 : Nat) (hro : F.round = none) (hd : ∀ c, o.op ≠ .defer c) (h : o.wpIn F n P a w K Q) : o.wpIn (F.inRound l0) n P a w K Q := by
 unfold Oper.wpIn at h ⊢
 rw [hro, Oper.semAt_none] at h
 rw [Fence.inRound_round, Oper.semAt_some l0 _ _ hd]
 exact h
theorem wpOpIn_round {l : List Oper} {i : Nat} {a : Act} {w : World} {K K' : Act -> World -> Prop} (l0 : Nat) (hro : F.round = none) (hd : noDefer l = true) (hK : ∀ a w, K a w -> K' a w) (h : wpOpIn F n P l.toArray Q i K a w) : wpOpIn (F.inRound l0) n P l.toArray Q i K' a w := by
 have h := wpOpIn_mono hK h
 unfold wpOpIn at h ⊢
 split
 ·rename_i h0; simp only [h0] at h; exact h
 ·rename_i o h0
  simp only [h0] at h
  split
  ·rename_i hw; simp only [hw, if_true] at h; exact op_round l0 hro (noDefer_get hd h0) h
  ·rename_i hw; simp only [hw] at h; exact h
theorem wpAnyIn_round {l : List Oper} {md : Region.Mode} (l0 : Nat) (hro : F.round = none) (hd : noDefer l = true) : ∀ (fuel : Nat) (listed : Array Bool) (a : Act) (w : World), wpAnyIn F n P md l.toArray Q fuel listed a w -> wpAnyIn (F.inRound l0) n P md l.toArray Q fuel listed a w
 | 0, _, _, _, h => h
 | fuel + 1, _, _, _, h => ⟨h.1, fun i hi => wpOpIn_round l0 hro hd (wpAnyIn_round l0 hro hd fuel _) (h.2 i hi)⟩
open Go.Sort in
theorem wpIn_region_quiet_round {l0 id : Nat} {a : Act} {w : World} {l : List Oper} (hro : F.round = none) (hm : P.follows .mixedOrders = true) (hB : Region.lexB .any l.toArray = true) (hd : noDefer l = true)
 (h : wpQuietIn F n P l.toArray (fun w' => ∃ n, w' = w.drewN n) (fun a' => ∀ w', (∃ n, w' = w.drewN n) -> Q .normal a' w') l a) : (Code.region id l.toArray true).wpIn (F.inRound l0) n P Q a w := by
 simp only [Region.lexB, Bool.and_eq_true] at hB
 refine wpIn_region_any hm (wpAnyIn_round l0 hro hd _ _ _ _ (wpAnyIn_of_quiet (C := fun w' => ∃ n, w' = w.drewN n) (Q := fun a' => ∀ w', (∃ n, w' = w.drewN n) -> Q .normal a' w') hro (fun _ w' hw' h => h w' hw') _ _ _ _ ⟨1, rfl⟩ ?_))
 have := wpAnyQIn_lex (F := F) (n := n) (C := fun w' => ∃ n, w' = w.drewN n) (md := .any) hB.1 l.toArray.toList 0 (Array.replicate l.toArray.size false) a (by simp) (by simpa using hB.2) (by simpa using h)
 simpa using this
end
theorem quiet_drew {W w1 : World} (h : ∃ n, w1 = W.drewN n) : Ext W w1 := by obtain ⟨n, rfl⟩ := h; exact (Ext.refl W).drewN n
end
end Go.Proofs.YtemkpimngbbpkaaGreat
