/- A region that draws its order: what a load reads need hold only till the stores behind it. · A region that draws its order and only reads, inside a round of a range over a function. · A region that draws its order, in a fence without a round: what a load reads need hold only till the operations of T. -/
import Derived.OrdersHeld
import Derived.Deep.RegionHeld
import Derived.Sort.QuietIn
import Derived.RangeFuncNested
import Derived.Lib.QuietBelowIn
import Derived.OrdersIn
import Derived.Test.YtemkpimngbbpkaaGreatQc01
namespace Go.Proofs.YtemkpimngbbpkaaGreat
set_option linter.unusedVariables false
set_option linter.unusedSimpArgs false
open Go
section
variable {P : Program} {ops : Array Oper} {Q : Exit -> Act -> World -> Prop} {md : Region.Mode} {S : World -> Prop} {T : Nat -> Bool}
def wpAnyP (P : Program) (md : Region.Mode) (ops : Array Oper) (Q : Exit -> Act -> World -> Prop) (T : Nat -> Bool) (S : World -> Prop) : Nat -> Array Bool -> Act -> World -> Prop
 | 0, listed, a, w => Region.ready md ops listed = [] /\ Q .normal a w
 | fuel + 1, listed, a, w =>
   (Region.ready md ops listed = [] -> Q .normal a w) /\
   ∀ i ∈ Region.ready md ops listed, wpOp P ops Q i (fun a' w' => (T i = false -> S w -> S w') /\ wpAnyP P md ops Q T S fuel (listed.setIfInBounds i true) a' w') a w
theorem wpAny_of_P : ∀ (fuel : Nat) (listed : Array Bool) (a : Act) (w : World), wpAnyP P md ops Q T S fuel listed a w -> wpAny P md ops Q fuel listed a w
 | 0, _, _, _, h => h
 | fuel + 1, _, _, _, h => ⟨h.1, fun i hi => wpOp_mono (fun a' w' h' => wpAny_of_P fuel _ a' w' h'.2) (h.2 i hi)⟩
theorem wpAnyP_first {R : World -> Prop} {i : Nat} {oi : Oper} {v : Value} (hi : ops[i]? = some oi) (hsel : ∀ (j : Nat) (o : Oper) cs b, ops[j]? = some o -> o.op ≠ .select cs b)
 (hQ : ∀ c a w, Q (.panic c) (a.put oi.dst v) w -> Q (.panic c) a w)
 (hstep : ∀ j oj, ops[j]? = some oj -> (∀ e ∈ oj.after, Region.binds md e = true -> e.on ≠ i) -> ∀ w w', R w -> (T j = false -> S w -> S w') -> R w') :
 ∀ (fuel : Nat) (listed : Array Bool) (a : Act) (w : World),
   (∀ j oj, ops[j]? = some oj -> j ≠ i -> listed.getD j true = false -> (∀ e ∈ oj.after, Region.binds md e = true -> e.on ≠ i) -> oi.apart ops oj = true) ->
   i ∈ Region.ready md ops listed -> YieldsIf P ops R oi v a -> R w ->
   wpAnyP P md ops Q T S fuel (listed.setIfInBounds i true) (a.put oi.dst v) w -> wpAnyP P md ops Q T S (fuel + 1) listed a w := by
 intro fuel
 induction fuel with
 | zero =>
   intro listed a w _ hr hy hS H
   refine ⟨fun h => (by rw [h] at hr; cases hr), fun j hj => ?_⟩
   by_cases hji : j = i
   ·subst hji; exact hy.wpOp hi hS ⟨fun _ h => h, H⟩
   ·have := ready_mono hj hji
    rw [H.1] at this
    cases this
 | succ fuel ih =>
   intro listed a w hfree hr hy hS H
   refine ⟨fun h => (by rw [h] at hr; cases hr), fun j hj => ?_⟩
   by_cases hji : j = i
   ·subst hji; exact hy.wpOp hi hS ⟨fun _ h => h, H⟩
   ·have h1 := H.2 j (ready_mono hj hji)
    obtain ⟨hjun, oj, hoj, hall⟩ := mem_ready.1 hj
    have hnot : ∀ e ∈ oj.after, Region.binds md e = true -> e.on ≠ i := fun e he hb heq => by
     have h1 := hall e he hb
     have h0 := (mem_ready.1 hr).1
     rw [heq] at h1
     rcases Nat.lt_or_ge i listed.size with h' | h'
     ·simp [h'] at h0 h1; rw [h0] at h1; cases h1
     ·simp [Array.getElem?_eq_none h'] at h1
    have h2 := wpOp_putIf hoj (hfree j oj hoj hji hjun hnot) (fun cs b => hsel i oi cs b hi) (fun cs b => hsel j oj cs b hoj) hQ hy h1
    have hfree' : ∀ k ok, ops[k]? = some ok -> k ≠ i -> (listed.setIfInBounds j true).getD k true = false ->
     (∀ e ∈ ok.after, Region.binds md e = true -> e.on ≠ i) -> oi.apart ops ok = true := fun k ok hk hki hun hno => by
     refine hfree k ok hk hki ?_ hno
     by_cases hjk : j = k
     ·subst hjk; exact hjun
     ·rw [getD_set_ne true hjk] at hun; exact hun
    refine wpOp_mono (fun a' w' h3 => ⟨h3.2.1, ih (listed.setIfInBounds j true) a' w' hfree' (ready_mono hr (Ne.symm hji)) h3.1 (hstep j oj hoj hnot w w' hS h3.2.1) ?_⟩) h2
    rw [Array.setIfInBounds_comm _ _ hji]
    exact h3.2.2
def waitsFor (md : Region.Mode) (ops : Array Oper) (T : Nat -> Bool) (i : Nat) : Bool :=
 (List.range ops.size).all fun j => !T j || (match ops[j]? with | some o => o.after.any (fun e => Region.binds md e && e.on == i) | none => true)
theorem waitsFor_spec {i : Nat} (h : waitsFor md ops T i = true) (j : Nat) (oj : Oper) (hj : ops[j]? = some oj) (hno : ∀ e ∈ oj.after, Region.binds md e = true -> e.on ≠ i) : T j = false := by
 unfold waitsFor at h
 have hlt : j < ops.size := (Array.getElem?_eq_some_iff.1 hj).1
 have h1 := List.all_eq_true.1 h j (List.mem_range.2 hlt)
 cases hT : T j with
 | false => rfl
 | true =>
   rw [hT, hj] at h1
   simp only [Bool.not_true, Bool.false_or, Array.any_eq_true'] at h1
   obtain ⟨e, he, h2⟩ := h1
   simp only [Bool.and_eq_true, beq_iff_eq] at h2
   exact (hno e he h2.1 h2.2).elim
theorem wpAnyP_take {i : Nat} {oi : Oper} {v : Value} {fuel : Nat} {listed : Array Bool} {a : Act} {w : World} (hi : ops[i]? = some oi) (hTw : waitsFor md ops T i = true)
 (hs : Region.noSelect ops = true) (hf : Region.free md ops listed i = true) (hr : (Region.ready md ops listed).contains i = true)
 (hQ : ∀ c a w, Q (.panic c) (a.put oi.dst v) w -> Q (.panic c) a w) (hy : YieldsIf P ops S oi v a) (hS : S w)
 (h : wpAnyP P md ops Q T S fuel (listed.setIfInBounds i true) (a.put oi.dst v) w) : wpAnyP P md ops Q T S (fuel + 1) listed a w :=
 wpAnyP_first hi (Region.noSelect_spec hs) hQ (fun j oj hj hno w w' hw hw' => hw' (waitsFor_spec hTw j oj hj hno) hw) fuel listed a w (Region.free_spec hi hf) (by simpa using hr) hy hS h
theorem wpAnyP_takeT {i : Nat} {oi : Oper} {v : Value} {fuel : Nat} {listed : Array Bool} {a : Act} {w : World} (hi : ops[i]? = some oi)
 (hs : Region.noSelect ops = true) (hf : Region.free md ops listed i = true) (hr : (Region.ready md ops listed).contains i = true)
 (hQ : ∀ c a w, Q (.panic c) (a.put oi.dst v) w -> Q (.panic c) a w) (hy : Yields P ops oi v a)
 (h : wpAnyP P md ops Q T S fuel (listed.setIfInBounds i true) (a.put oi.dst v) w) : wpAnyP P md ops Q T S (fuel + 1) listed a w :=
 wpAnyP_first (R := fun _ => True) hi (Region.noSelect_spec hs) hQ (fun _ _ _ _ _ _ _ _ => trivial) fuel listed a w (Region.free_spec hi hf) (by simpa using hr) hy.yieldsIf trivial h
theorem wpAnyP_all {rs : List Nat} {fuel : Nat} {listed : Array Bool} {a : Act} {w : World} (hr : Region.ready md ops listed = rs) (hne : rs ≠ [])
 (h : ∀ i ∈ rs, wpOp P ops Q i (fun a' w' => (T i = false -> S w -> S w') /\ wpAnyP P md ops Q T S fuel (listed.setIfInBounds i true) a' w') a w) : wpAnyP P md ops Q T S (fuel + 1) listed a w :=
 ⟨fun h0 => absurd (hr ▸ h0) hne, hr ▸ h⟩
theorem wpAnyP_done {listed : Array Bool} {a : Act} {w : World} (hr : Region.ready md ops listed = []) (h : Q .normal a w) :
 ∀ fuel, wpAnyP P md ops Q T S fuel listed a w
 | 0 => ⟨hr, h⟩
 | _ + 1 => ⟨fun _ => h, by rw [hr]; simp⟩
theorem wp_region_P (T : Nat -> Bool) (S : World -> Prop) {id : Nat} {a : Act} {w : World} (hm : P.follows .mixedOrders = true) (hS : S w.drew)
 (h : S w.drew -> wpAnyP P .any ops Q T S ops.size (Array.replicate ops.size false) a w.drew) : (Code.region id ops true).wp P Q a w :=
 wp_region_any hm (wpAny_of_P _ _ _ _ (h hS))
def AllReadyP (P : Program) (md : Region.Mode) (ops : Array Oper) (Q : Exit -> Act -> World -> Prop) (T : Nat -> Bool) (S : World -> Prop) (fuel : Nat) (listed : Array Bool) (a : Act) (w : World) (rs : List Nat) : Prop :=
 ∀ i ∈ rs, wpOp P ops Q i (fun a' w' => (T i = false -> S w -> S w') /\ wpAnyP P md ops Q T S fuel (listed.setIfInBounds i true) a' w') a w
theorem AllReadyP.nil {fuel : Nat} {listed : Array Bool} {a : Act} {w : World} : AllReadyP P md ops Q T S fuel listed a w [] := fun _ h => by cases h
theorem AllReadyP.cons {fuel : Nat} {listed : Array Bool} {a : Act} {w : World} {i : Nat} {o : Oper} {rs : List Nat} (ho : ops[i]? = some o)
 (h : ∀ K' : Act -> World -> Prop, Shut (∀ a w', (T i = false -> S w -> S w') -> wpAnyP P md ops Q T S fuel (listed.setIfInBounds i true) a w' -> K' a w') -> if Region.wanted o (yielded ops a.tmps) = true then Oper.wp P o a w K' Q else K' (a.put o.dst undef) w)
 (hs : AllReadyP P md ops Q T S fuel listed a w rs) : AllReadyP P md ops Q T S fuel listed a w (i :: rs) := fun j hj => by
 rcases List.mem_cons.1 hj with rfl | hj
 ·exact wpOp_step ho (fun K' hK => h K' (fun a w hS hW => hK a w ⟨hS, hW⟩))
 ·exact hs j hj
theorem wpAnyP_ready {rs : List Nat} {fuel : Nat} {listed : Array Bool} {a : Act} {w : World} (hr : Region.ready md ops listed = rs) (hne : rs ≠ [])
 (h : AllReadyP P md ops Q T S fuel listed a w rs) : wpAnyP P md ops Q T S (fuel + 1) listed a w := wpAnyP_all hr hne h
end
end Go.Proofs.YtemkpimngbbpkaaGreat
namespace Go.Proofs.YtemkpimngbbpkaaGreat
open Go Go.RowKit
theorem sp1 : (∀ (l : List Value) (i : Nat) (a : Value), l.toArray.setIfInBounds i a = (l.set i a).toArray) /\ (∀ (a b : Value) (l : List Value), (a :: l).set 0 b = b :: l) /\ (∀ (a b : Value) (l : List Value) (n : Nat), (a :: l).set (n + 1) b = a :: l.set n b) :=
 ⟨fun _ _ _ => List.setIfInBounds_toArray .., fun _ _ _ => rfl, fun _ _ _ _ => rfl⟩
theorem pT {P : Program} {ops : Array Oper} {Q : Exit -> Act -> World -> Prop} {md : Region.Mode} {S : World -> Prop} {T : Nat -> Bool} (i : Nat) {oi : Oper} {v : Value} {fuel : Nat} {listed : Array Bool} {a : Act} {w : World} (hi : ops[i]? = some oi)
 (hQ : ∀ c a w, Q (.panic c) (a.put oi.dst v) w -> Q (.panic c) a w) (hw : Region.wanted oi (yielded ops a.tmps) = true) (hy : ∀ w, (execOp a.eval oi).run P w = .ok (.value v) w)
 (h : wpAnyP P md ops Q T S fuel (listed.setIfInBounds i true) (a.put oi.dst v) w)
 (hs : Region.noSelect ops = true := by kernel_rfl) (hf : Region.free md ops listed i = true := by kernel_rfl) (hr : (Region.ready md ops listed).contains i = true := by kernel_rfl) : wpAnyP P md ops Q T S (fuel + 1) listed a w :=
 wpAnyP_takeT hi hs hf hr hQ (.inl ⟨hw, hy⟩) h
theorem pK {P : Program} {ops : Array Oper} {Q : Exit -> Act -> World -> Prop} {md : Region.Mode} {S : World -> Prop} {T : Nat -> Bool} (i : Nat) {oi : Oper} {v : Value} {fuel : Nat} {listed : Array Bool} {a : Act} {w : World} (hi : ops[i]? = some oi)
 (hQ : ∀ c a w, Q (.panic c) (a.put oi.dst v) w -> Q (.panic c) a w) (hw : Region.wanted oi (yielded ops a.tmps) = true) (hy : ∀ w, S w -> (execOp a.eval oi).run P w = .ok (.value v) w) (hS : S w)
 (h : wpAnyP P md ops Q T S fuel (listed.setIfInBounds i true) (a.put oi.dst v) w)
 (hT : waitsFor md ops T i = true := by kernel_rfl) (hs : Region.noSelect ops = true := by kernel_rfl) (hf : Region.free md ops listed i = true := by kernel_rfl) (hr : (Region.ready md ops listed).contains i = true := by kernel_rfl) : wpAnyP P md ops Q T S (fuel + 1) listed a w :=
 wpAnyP_take hi hT hs hf hr hQ (.inl ⟨hw, hy⟩) hS h
theorem pO {P : Program} {ops : Array Oper} {Q : Exit -> Act -> World -> Prop} {md : Region.Mode} {S : World -> Prop} {T : Nat -> Bool} (i : Nat) {o : Oper} {fuel : Nat} {listed : Array Bool} {a : Act} {w : World} (ho : ops[i]? = some o)
 (h : ∀ K' : Act -> World -> Prop, Shut (∀ a w', (T i = false -> S w -> S w') -> wpAnyP P md ops Q T S fuel (listed.setIfInBounds i true) a w' -> K' a w') -> if Region.wanted o (yielded ops a.tmps) = true then Oper.wp P o a w K' Q else K' (a.put o.dst undef) w)
 (hr : Region.ready md ops listed = [i] := by kernel_rfl) : wpAnyP P md ops Q T S (fuel + 1) listed a w :=
 wpAnyP_ready hr (by simp) (AllReadyP.cons ho h AllReadyP.nil)
end Go.Proofs.YtemkpimngbbpkaaGreat
namespace Go.Proofs.YtemkpimngbbpkaaGreat
set_option linter.unusedVariables false
set_option linter.unusedSimpArgs false
open Go Go.RowKit
def noDefer (l : List Oper) : Bool := l.all fun o => match o.op with
 | .defer _ => false
 | _ => true
theorem noDefer_get {l : List Oper} (h : noDefer l = true) {i : Nat} {o : Oper} (hi : l.toArray[i]? = some o) : ∀ c, o.op ≠ .defer c := by
 intro c hc
 have hm : o ∈ l := by
  have := List.mem_of_getElem? (l := l) (i := i) (a := o) (by simpa using hi)
  exact this
 have := List.all_eq_true.1 h o hm
 rw [hc] at this
 cases this
section
variable {F : Fence} {n : Nat} {P : Program} {Q : Exit -> Act -> World -> Prop}
theorem op_round {o : Oper} {a : Act} {w : World} {K : Act -> World -> Prop} (l0 : Nat) (hro : F.round = none) (hd : ∀ c, o.op ≠ .defer c) (h : o.wpIn F n P a w K Q) : o.wpIn (F.inRound l0) n P a w K Q := by
 unfold Oper.wpIn at h ⊢
 rw [hro, Oper.semAt_none] at h
 rw [Fence.inRound_round, Oper.semAt_some l0 _ _ hd]
 exact h
theorem wpOpIn_round {l : List Oper} {i : Nat} {a : Act} {w : World} {K K' : Act -> World -> Prop} (l0 : Nat) (hro : F.round = none) (hd : noDefer l = true) (hK : ∀ a w, K a w -> K' a w) (h : wpOpIn F n P l.toArray Q i K a w) : wpOpIn (F.inRound l0) n P l.toArray Q i K' a w := by
 have h := wpOpIn_mono hK h
 unfold wpOpIn at h ⊢
 split
 ·rename_i h0; simp only [h0] at h; exact h
 ·rename_i o h0
  simp only [h0] at h
  split
  ·rename_i hw; simp only [hw, if_true] at h; exact op_round l0 hro (noDefer_get hd h0) h
  ·rename_i hw; simp only [hw] at h; exact h
theorem wpAnyIn_round {l : List Oper} {md : Region.Mode} (l0 : Nat) (hro : F.round = none) (hd : noDefer l = true) : ∀ (fuel : Nat) (listed : Array Bool) (a : Act) (w : World), wpAnyIn F n P md l.toArray Q fuel listed a w -> wpAnyIn (F.inRound l0) n P md l.toArray Q fuel listed a w
 | 0, _, _, _, h => h
 | fuel + 1, _, _, _, h => ⟨h.1, fun i hi => wpOpIn_round l0 hro hd (wpAnyIn_round l0 hro hd fuel _) (h.2 i hi)⟩
open Go.Sort in
theorem wpIn_region_quiet_round {l0 id : Nat} {a : Act} {w : World} {l : List Oper} (hro : F.round = none) (hm : P.follows .mixedOrders = true) (hB : Region.lexB .any l.toArray = true) (hd : noDefer l = true)
 (h : wpQuietIn F n P l.toArray (fun w' => ∃ n, w' = w.drewN n) (fun a' => ∀ w', (∃ n, w' = w.drewN n) -> Q .normal a' w') l a) : (Code.region id l.toArray true).wpIn (F.inRound l0) n P Q a w := by
 simp only [Region.lexB, Bool.and_eq_true] at hB
 refine wpIn_region_any hm (wpAnyIn_round l0 hro hd _ _ _ _ (wpAnyIn_of_quiet (C := fun w' => ∃ n, w' = w.drewN n) (Q := fun a' => ∀ w', (∃ n, w' = w.drewN n) -> Q .normal a' w') hro (fun _ w' hw' h => h w' hw') _ _ _ _ ⟨1, rfl⟩ ?_))
 have := wpAnyQIn_lex (F := F) (n := n) (C := fun w' => ∃ n, w' = w.drewN n) (md := .any) hB.1 l.toArray.toList 0 (Array.replicate l.toArray.size false) a (by simp) (by simpa using hB.2) (by simpa using h)
 simpa using this
end
theorem quiet_drew {W w1 : World} (h : ∃ n, w1 = W.drewN n) : Ext W w1 := by obtain ⟨n, rfl⟩ := h; exact (Ext.refl W).drewN n
end Go.Proofs.YtemkpimngbbpkaaGreat
namespace Go.Proofs.YtemkpimngbbpkaaGreat
set_option linter.unusedVariables false
set_option linter.unusedSimpArgs false
open Go Go.RowKit
section
variable {F : Fence} {n : Nat} {P : Program} {ops : Array Oper} {Q : Exit -> Act -> World -> Prop} {md : Region.Mode} {S : World -> Prop} {T : Nat -> Bool}
def YieldsFIf (P : Program) (ops : Array Oper) (S : World -> Prop) (o : Oper) (v : Value) (a : Act) : Prop := YieldsIf P ops S o v a /\ ∀ w, o.about P w a.eval = none
theorem YieldsFIf.wpOpIn {i : Nat} {o : Oper} {v : Value} {a : Act} (hro : F.round = none) (hi : ops[i]? = some o) (hy : YieldsFIf P ops S o v a)
 {K : Act -> World -> Prop} {w : World} (hS : S w) (h : K (a.put o.dst v) w) : wpOpIn F n P ops Q i K a w := by
 unfold Go.wpOpIn
 simp only [hi]
 have hab : ∀ f, o.about P w a.eval = some f -> F.fn f := fun f hf => by rw [hy.2 w] at hf; cases hf
 rcases hy.1 with ⟨hw, hv⟩ | ⟨hw, rfl⟩
 ·simp only [hw, if_true, Oper.wpIn, hro, Oper.semAt_none, hv w hS, Oper.uponIn]; exact ⟨hab, h⟩
 ·simp only [hw, Bool.false_eq_true, if_false]; exact ⟨hab, h⟩
theorem YieldsFIf.of_same {o : Oper} {v : Value} {a a' : Act} (hy : YieldsFIf P ops S o v a) (he : execOp a'.eval o = execOp a.eval o)
 (hw : Region.wanted o (yielded ops a'.tmps) = Region.wanted o (yielded ops a.tmps)) (hb : ∀ w, o.about P w a'.eval = o.about P w a.eval) : YieldsFIf P ops S o v a' :=
 ⟨hy.1.of_same he hw, fun w => by rw [hb w]; exact hy.2 w⟩
theorem wpOpIn_putIf {j : Nat} {oi oj : Oper} {v : Value} (hro : F.round = none) (hj : ops[j]? = some oj) (hap : oi.apart ops oj = true)
 (hsi : ∀ cs b, oi.op ≠ .select cs b) (hsj : ∀ cs b, oj.op ≠ .select cs b)
 (hQ : ∀ c a w, Q (.panic c) (a.put oi.dst v) w -> Q (.panic c) a w) {K : Act -> World -> Prop} {a : Act} {w : World}
 (hy : YieldsFIf P ops S oi v a) (h : wpOpIn F n P ops Q j K (a.put oi.dst v) w) :
 wpOpIn F n P ops Q j (fun a' w' => YieldsFIf P ops S oi v a' /\ K (a'.put oi.dst v) w') a w := by
 obtain ⟨h1, h2, h3⟩ := Oper.apart_spec hap
 have keep : ∀ (a : Act), YieldsFIf P ops S oi v a -> ∀ u, YieldsFIf P ops S oi v (a.put oj.dst u) := fun a hy u =>
  hy.of_same (execOp_put oi hsi a oj.dst u h3) (wanted_put oi a oj.dst u h3) (fun w => about_put oi w a oj.dst u h3)
 have keepD : ∀ d, YieldsFIf P ops S oi v { a with defers := d :: a.defers } := fun d => hy.of_same rfl rfl (fun _ => rfl)
 unfold wpOpIn at *
 simp only [hj] at *
 rw [wanted_put oj a oi.dst v h1, about_put oj w a oi.dst v h1] at h
 split
 ·rename_i hw
  simp only [hw, if_true] at h
  unfold Oper.wpIn at *
  rw [about_put oj w a oi.dst v h1] at h
  refine ⟨h.1, ?_⟩
  have h := h.2
  rw [hro, Oper.semAt_none, execOp_put oj hsj a oi.dst v h1] at h
  rw [hro, Oper.semAt_none]
  generalize (execOp a.eval oj).run P w = r at *
  cases r with
  | ok x w' =>
    cases x <;> simp only [Oper.uponIn] at h ⊢
    case value u => exact ⟨keep a hy u, by rw [<- Act.put_comm a v u h2]; exact h⟩
    case skip => exact ⟨keep a hy _, by rw [<- Act.put_comm a v undef h2]; exact h⟩
    case defer d =>
     refine ⟨keep _ (keepD d) _, ?_⟩
     rw [<- Act.put_comm _ v undef h2, <- Act.put_defers]
     exact h
    case enter f args =>
     refine ⟨h.1, CallsIn.mono h.2 fun e w'' he => ?_⟩
     cases e with
     | returned u => exact ⟨keep a hy u, by rw [<- Act.put_comm a v u h2]; exact he⟩
     | panicked c => exact hQ _ _ _ he
     | outgrown => exact he
    case row row args => exact ⟨h.1, RowsIn.mono h.2 fun u w'' he => ⟨keep a hy u, by rw [<- Act.put_comm a v u h2]; exact he⟩⟩
    case round l f tmps assign body =>
     refine ⟨h.1, RoundIn.mono h.2 fun e w'' he => ?_⟩
     cases e with
     | returned u => exact ⟨keep a hy u, by rw [<- Act.put_comm a v u h2]; exact he⟩
     | panicked c => exact hQ _ _ _ he
     | outgrown => exact he
  | halt x w' =>
    cases x <;> simp only [Oper.uponIn] at h ⊢
    case panic u => exact hQ _ _ _ h
 ·rename_i hw
  simp only [hw] at h
  exact ⟨h.1, keep a hy _, by rw [<- Act.put_comm a v undef h2]; exact h.2⟩
def wpAnyI (F : Fence) (n : Nat) (P : Program) (md : Region.Mode) (ops : Array Oper) (Q : Exit -> Act -> World -> Prop) (T : Nat -> Bool) (S : World -> Prop) : Nat -> Array Bool -> Act -> World -> Prop
 | 0, listed, a, w => Region.ready md ops listed = [] /\ Q .normal a w
 | fuel + 1, listed, a, w =>
   (Region.ready md ops listed = [] -> Q .normal a w) /\
   ∀ i ∈ Region.ready md ops listed, wpOpIn F n P ops Q i (fun a' w' => (T i = false -> S w -> S w') /\ wpAnyI F n P md ops Q T S fuel (listed.setIfInBounds i true) a' w') a w
theorem wpAnyIn_of_I : ∀ (fuel : Nat) (listed : Array Bool) (a : Act) (w : World), wpAnyI F n P md ops Q T S fuel listed a w -> wpAnyIn F n P md ops Q fuel listed a w
 | 0, _, _, _, h => h
 | fuel + 1, _, _, _, h => ⟨h.1, fun i hi => wpOpIn_mono (fun a' w' h' => wpAnyIn_of_I fuel _ a' w' h'.2) (h.2 i hi)⟩
def Closed (md : Region.Mode) (ops : Array Oper) (listed : Array Bool) : Prop := ∀ k o, ops[k]? = some o -> listed.getD k false = true -> ∀ e ∈ o.after, Region.binds md e = true -> listed.getD e.on false = true
def closedB (md : Region.Mode) (ops : Array Oper) (listed : Array Bool) : Bool := (List.range ops.size).all fun k => match ops[k]? with
 | none => true
 | some o => !listed.getD k false || o.after.all (fun e => !Region.binds md e || listed.getD e.on false)
theorem closedB_spec {listed : Array Bool} (h : closedB md ops listed = true) : Closed md ops listed := by
 intro k o hk hl e he hb
 have hlt : k < ops.size := (Array.getElem?_eq_some_iff.1 hk).1
 have h1 := List.all_eq_true.1 h k (List.mem_range.2 hlt)
 simp only [hk, hl, Bool.not_true, Bool.false_or, Array.all_eq_true_iff_forall_mem] at h1
 have h2 := h1 e he
 simpa [hb] using h2
theorem Closed.set {listed : Array Bool} {j : Nat} (h : Closed md ops listed) (hj : j ∈ Region.ready md ops listed) : Closed md ops (listed.setIfInBounds j true) := by
 intro k o hk hl e he hb
 obtain ⟨_, oj, hoj, hall⟩ := mem_ready.1 hj
 refine getD_set_true ?_
 by_cases e1 : j = k
 ·subst e1
  rw [hk] at hoj
  injection hoj with hoj
  subst hoj
  exact hall e he hb
 ·rw [getD_set_ne false e1] at hl
  exact h k o hk hl e he hb
def depB (md : Region.Mode) (ops : Array Oper) (i : Nat) : Nat -> Nat -> Bool
 | 0, _ => false
 | f + 1, j => match ops[j]? with
   | none => false
   | some o => o.after.any (fun e => Region.binds md e && (e.on == i || depB md ops i f e.on))
theorem unlisted_of {listed : Array Bool} {i : Nat} (h : listed.getD i true = false) : ¬ listed.getD i false = true := by
 intro h2
 rcases Nat.lt_or_ge i listed.size with h' | h'
 ·simp [h'] at h h2; rw [h] at h2; cases h2
 ·simp [Array.getElem?_eq_none h'] at h
theorem depB_unlisted {listed : Array Bool} {i : Nat} (hc : Closed md ops listed) (hi : listed.getD i true = false) : ∀ (f j : Nat), depB md ops i f j = true -> ¬ listed.getD j false = true
 | 0, _, h => by simp [depB] at h
 | f + 1, j, h => by
   intro hl
   unfold depB at h
   split at h
   ·cases h
   ·rename_i o ho
    rw [Array.any_eq_true'] at h
    obtain ⟨e, he, h2⟩ := h
    simp only [Bool.and_eq_true, Bool.or_eq_true, beq_iff_eq] at h2
    have h3 := hc j o ho hl e he h2.1
    rcases h2.2 with h4 | h4
    ·rw [h4] at h3; exact unlisted_of hi h3
    ·exact depB_unlisted hc hi f e.on h4 h3
theorem depB_unready {listed : Array Bool} {i : Nat} (hc : Closed md ops listed) (hi : listed.getD i true = false) {f j : Nat} (h : depB md ops i f j = true) : ¬ j ∈ Region.ready md ops listed := by
 intro hr
 obtain ⟨_, oj, hoj, hall⟩ := mem_ready.1 hr
 cases f with
 | zero => simp [depB] at h
 | succ f =>
   unfold depB at h
   rw [hoj] at h
   simp only at h
   rw [Array.any_eq_true'] at h
   obtain ⟨e, he, h2⟩ := h
   simp only [Bool.and_eq_true, Bool.or_eq_true, beq_iff_eq] at h2
   have h3 := hall e he h2.1
   rcases h2.2 with h4 | h4
   ·rw [h4] at h3; exact unlisted_of hi h3
   ·exact depB_unlisted hc hi f e.on h4 h3
def waitsT (md : Region.Mode) (ops : Array Oper) (T : Nat -> Bool) (i : Nat) : Bool := (List.range ops.size).all fun j => !T j || depB md ops i ops.size j
theorem waitsT_spec {i : Nat} (h : waitsT md ops T i = true) {j : Nat} {oj : Oper} (hj : ops[j]? = some oj) (ht : T j = true) : depB md ops i ops.size j = true := by
 have hlt : j < ops.size := (Array.getElem?_eq_some_iff.1 hj).1
 have h1 := List.all_eq_true.1 h j (List.mem_range.2 hlt)
 simpa [ht] using h1
theorem wpAnyI_first {R : World -> Prop} {i : Nat} {oi : Oper} {v : Value} (hro : F.round = none) (hi : ops[i]? = some oi) (hsel : ∀ (j : Nat) (o : Oper) cs b, ops[j]? = some o -> o.op ≠ .select cs b)
 (hQ : ∀ c a w, Q (.panic c) (a.put oi.dst v) w -> Q (.panic c) a w)
 (hstep : ∀ (listed : Array Bool) (j : Nat), Closed md ops listed -> listed.getD i true = false -> j ∈ Region.ready md ops listed -> ∀ w w', R w -> (T j = false -> S w -> S w') -> R w') :
 ∀ (fuel : Nat) (listed : Array Bool) (a : Act) (w : World),
   (∀ j oj, ops[j]? = some oj -> j ≠ i -> listed.getD j true = false -> (∀ e ∈ oj.after, Region.binds md e = true -> e.on ≠ i) -> oi.apart ops oj = true) ->
   i ∈ Region.ready md ops listed -> Closed md ops listed -> YieldsFIf P ops R oi v a -> R w ->
   wpAnyI F n P md ops Q T S fuel (listed.setIfInBounds i true) (a.put oi.dst v) w -> wpAnyI F n P md ops Q T S (fuel + 1) listed a w := by
 intro fuel
 induction fuel with
 | zero =>
   intro listed a w _ hr _ hy hS H
   refine ⟨fun h => (by rw [h] at hr; cases hr), fun j hj => ?_⟩
   by_cases hji : j = i
   ·subst hji; exact hy.wpOpIn hro hi hS ⟨fun _ h => h, H⟩
   ·have := ready_mono hj hji
    rw [H.1] at this
    cases this
 | succ fuel ih =>
   intro listed a w hfree hr hcl hy hS H
   refine ⟨fun h => (by rw [h] at hr; cases hr), fun j hj => ?_⟩
   by_cases hji : j = i
   ·subst hji; exact hy.wpOpIn hro hi hS ⟨fun _ h => h, H⟩
   ·have h1 := H.2 j (ready_mono hj hji)
    obtain ⟨hjun, oj, hoj, hall⟩ := mem_ready.1 hj
    have hnot : ∀ e ∈ oj.after, Region.binds md e = true -> e.on ≠ i := fun e he hb heq => by
     have h1 := hall e he hb
     rw [heq] at h1
     exact unlisted_of (mem_ready.1 hr).1 h1
    have h2 := wpOpIn_putIf hro hoj (hfree j oj hoj hji hjun hnot) (fun cs b => hsel i oi cs b hi) (fun cs b => hsel j oj cs b hoj) hQ hy h1
    have hfree' : ∀ k ok, ops[k]? = some ok -> k ≠ i -> (listed.setIfInBounds j true).getD k true = false ->
     (∀ e ∈ ok.after, Region.binds md e = true -> e.on ≠ i) -> oi.apart ops ok = true := fun k ok hk hki hun hno => by
     refine hfree k ok hk hki ?_ hno
     by_cases hjk : j = k
     ·subst hjk; exact hjun
     ·rw [getD_set_ne true hjk] at hun; exact hun
    refine wpOpIn_mono (fun a' w' h3 => ⟨h3.2.1, ih (listed.setIfInBounds j true) a' w' hfree' (ready_mono hr (Ne.symm hji)) (hcl.set hj) h3.1 (hstep listed j hcl (mem_ready.1 hr).1 hj w w' hS h3.2.1) ?_⟩) h2
    rw [Array.setIfInBounds_comm _ _ hji]
    exact h3.2.2
theorem wpAnyI_take {i : Nat} {oi : Oper} {v : Value} {fuel : Nat} {listed : Array Bool} {a : Act} {w : World} (hro : F.round = none) (hi : ops[i]? = some oi) (hTw : waitsT md ops T i = true) (hcl : closedB md ops listed = true)
 (hs : Region.noSelect ops = true) (hf : Region.free md ops listed i = true) (hr : (Region.ready md ops listed).contains i = true)
 (hQ : ∀ c a w, Q (.panic c) (a.put oi.dst v) w -> Q (.panic c) a w) (hy : YieldsFIf P ops S oi v a) (hS : S w)
 (h : wpAnyI F n P md ops Q T S fuel (listed.setIfInBounds i true) (a.put oi.dst v) w) : wpAnyI F n P md ops Q T S (fuel + 1) listed a w :=
 wpAnyI_first hro hi (Region.noSelect_spec hs) hQ (fun listed j hc hun hj w w' hw hw' => by
  cases ht : T j with
  | false => exact hw' ht hw
  | true =>
    obtain ⟨_, oj, hoj, _⟩ := mem_ready.1 hj
    exact absurd hj (depB_unready hc hun (waitsT_spec hTw hoj ht))) fuel listed a w (Region.free_spec hi hf) (by simpa using hr) (closedB_spec hcl) hy hS h
theorem wpAnyI_takeT {i : Nat} {oi : Oper} {v : Value} {fuel : Nat} {listed : Array Bool} {a : Act} {w : World} (hro : F.round = none) (hi : ops[i]? = some oi) (hcl : closedB md ops listed = true)
 (hs : Region.noSelect ops = true) (hf : Region.free md ops listed i = true) (hr : (Region.ready md ops listed).contains i = true)
 (hQ : ∀ c a w, Q (.panic c) (a.put oi.dst v) w -> Q (.panic c) a w) (hy : YieldsFenced P ops oi v a)
 (h : wpAnyI F n P md ops Q T S fuel (listed.setIfInBounds i true) (a.put oi.dst v) w) : wpAnyI F n P md ops Q T S (fuel + 1) listed a w :=
 wpAnyI_first (R := fun _ => True) hro hi (Region.noSelect_spec hs) hQ (fun _ _ _ _ _ _ _ _ _ => trivial) fuel listed a w (Region.free_spec hi hf) (by simpa using hr) (closedB_spec hcl) ⟨hy.1.yieldsIf, hy.2⟩ trivial h
theorem wpAnyI_all {rs : List Nat} {fuel : Nat} {listed : Array Bool} {a : Act} {w : World} (hr : Region.ready md ops listed = rs) (hne : rs ≠ [])
 (h : ∀ i ∈ rs, wpOpIn F n P ops Q i (fun a' w' => (T i = false -> S w -> S w') /\ wpAnyI F n P md ops Q T S fuel (listed.setIfInBounds i true) a' w') a w) : wpAnyI F n P md ops Q T S (fuel + 1) listed a w :=
 ⟨fun h0 => absurd (hr ▸ h0) hne, hr ▸ h⟩
theorem wpAnyI_done {listed : Array Bool} {a : Act} {w : World} (hr : Region.ready md ops listed = []) (h : Q .normal a w) :
 ∀ fuel, wpAnyI F n P md ops Q T S fuel listed a w
 | 0 => ⟨hr, h⟩
 | _ + 1 => ⟨fun _ => h, by rw [hr]; simp⟩
theorem wpIn_region_I (T : Nat -> Bool) (S : World -> Prop) {id : Nat} {a : Act} {w : World} (hm : P.follows .mixedOrders = true) (hS : S w.drew)
 (h : S w.drew -> wpAnyI F n P .any ops Q T S ops.size (Array.replicate ops.size false) a w.drew) : (Code.region id ops true).wpIn F n P Q a w :=
 wpIn_region_any hm (wpAnyIn_of_I _ _ _ _ (h hS))
theorem wpAnyI_one {i : Nat} {o : Oper} {fuel : Nat} {listed : Array Bool} {a : Act} {w : World} (hr : Region.ready md ops listed = [i]) (ho : ops[i]? = some o)
 (h : ∀ K' : Act -> World -> Prop, (∀ a w', (T i = false -> S w -> S w') -> wpAnyI F n P md ops Q T S fuel (listed.setIfInBounds i true) a w' -> K' a w') -> if Region.wanted o (yielded ops a.tmps) = true then Oper.wpIn F n P o a w K' Q else (∀ f, o.about P w a.eval = some f -> F.fn f) /\ K' (a.put o.dst undef) w) :
 wpAnyI F n P md ops Q T S (fuel + 1) listed a w :=
 wpAnyI_all hr (by simp) (fun j hj => by
  obtain rfl := List.mem_singleton.1 hj
  exact wpOpIn_step ho (fun K' hK => h K' (fun a w hS hW => hK a w ⟨hS, hW⟩)))
end
end Go.Proofs.YtemkpimngbbpkaaGreat
