
/- Layer 24 (journey): the walk of Fewest, words. -/
import Derived.Test.YtgmfnhianhngiaaJrW9
import Derived.Shelf.Slices.Clone
namespace Go.Proofs.Ytgmfnhianhngiaa
set_option linter.unusedVariables false
set_option linter.unusedSimpArgs false
open Go.RowKit Go.Shelf

/-- A list of numbers by its header. -/
def ESl : Elt (Option Addr × Nat × Nat) := ⟨fun x => [.slice x.1 x.2.1 x.2.2], 1, fun _ => rfl, by omega, fun x u hu => by simp at hu; subst hu; rfl⟩
theorem Rd.sl {w : World} {A : Option Addr} {l : List (Option Addr × Nat × Nat)} (h : Rd ESl w A l) {k : Nat} (hk : k < l.length) : ∃ b o, A = some ⟨b, o, none⟩ ∧ b < w.heap.size ∧ w.cell? ⟨b, o + k, none⟩ = some (.slice l[k].1 l[k].2.1 l[k].2.2) := by
  obtain ⟨b, o, rfl, hb, hc⟩ := h.at hk
  refine ⟨b, o, rfl, hb, ?_⟩
  have := hc 0 (.slice l[k].1 l[k].2.1 l[k].2.2) rfl
  simpa [ESl] using this
theorem info_sl : (Try.prog.info? 22).map (fun i => (i.zero, i.size, i.bytes)) = some (some (.slice none 0 0), 1, 24) := by kernel_rfl

set_option maxHeartbeats 1000000 in
theorem cloneInt_any (A : Option Addr) (c : Nat) (l : List Int) (w : World) (hA : Rd EInt w A l) (hmax : l.length ≤ 1000000) :
    Calls Try.prog 36 #[.slice A l.length c] w fun e w' => ∃ v, e = .returned v ∧ Owns EInt w' w.heap.size 3 v l ∧ Ext w w' := by
  obtain ⟨i0, hi0, hz0, hz1, hz2⟩ := info_parts info_int
  have q22 : ∀ (w : World) (a : Option Addr) (n c n' c' : Nat), (binOp .eql 22 (.slice a n c) (.slice none n' c')).run Try.prog w = .ok (.bool a.isNone) w := fun w a n c n' c' => Lib.run_eql_slice_nil w _ _ a n c n' c' Try.underlying22
  cases A with
  | none =>
    have hl : l = [] := by
      cases l with
      | nil => rfl
      | cons x l => obtain ⟨b, o, h, _⟩ := hA.at (k := 0) (by simp); cases h
    subst hl
    go_enter Try.func36, Try.ntmps36
    go_wp2
    go_ret
    exact ⟨_, rfl, Owns.none_ _ _, Ext.refl _⟩
  | some a =>
    go_enter Try.func36, Try.ntmps36
    go_wp2_with (at_builtin; refine wpList_cat rfl (.tmp 5) (.tmp 6) _ rfl w.heap.size 3 i0 _ 8 Try.underlying22 hi0 hz0 hz1 hz2 rfl (.slice (some ⟨w.heap.size, 0, none⟩) 0 0) rfl (Owns.made w w.heap.size _ (Nat.le_refl _)) c _ rfl rfl (hA.ext ((Ext.refl _).alloc _)) (by simp [maxLen]; omega) (by simp; omega) (by simp) ?_; intro v6 w6 hv6 hg6 hat6)
    go_ret
    exact ⟨_, rfl, hv6, ext_grown ((Ext.refl w).alloc _) (Owns.made (E := EInt) w w.heap.size _ (Nat.le_refl _)) (Nat.le_refl _) hg6⟩
theorem clone_sl (b o c : Nat) (l : List Int) (w : World) (hA : Rd EInt w (some ⟨b, o, none⟩) l) (hmax : l.length ≤ 1000000) (hpos : 1 ≤ l.length) :
    Calls Try.prog 36 #[.slice (some ⟨b, o, none⟩) l.length c] w fun e w' => ∃ g d, e = .returned (.slice (some ⟨g, 0, none⟩) l.length d) ∧ Owns EInt w' w.heap.size 3 (.slice (some ⟨g, 0, none⟩) l.length d) l ∧ w.heap.size ≤ g ∧ g < w'.heap.size ∧ Ext w w' := by
  refine (cloneInt_any _ c l w hA hmax).mono ?_
  rintro e w' ⟨u, rfl, hu, hb⟩
  obtain ⟨A, d, rfl, hR⟩ := hu.form
  obtain ⟨g, rfl, hg⟩ := hu.some_ (by omega)
  have h3 := hu.block (g := g) rfl
  exact ⟨g, d, rfl, hu, hg, h3.2, hb⟩

/-- The rounds 0 .. k lie in memory. -/
def RndsRd (N : Nat) (R : Nat → List Int) (w : World) (base k : Nat) (v : Value) : Prop :=
  ∃ hs : List (Option Addr × Nat × Nat), Owns ESl w base 22 v hs ∧ hs.length = k + 1 ∧ ∀ (i : Nat) (h : i < hs.length), Owns EInt w base 3 (.slice hs[i].1 hs[i].2.1 hs[i].2.2) (R i)
theorem RndsRd.ext {N : Nat} {R : Nat → List Int} {w w' : World} {base k : Nat} {v : Value} (h : RndsRd N R w base k v) (hb : Ext w w') : RndsRd N R w' base k v := by
  obtain ⟨hs, h1, h2, h3⟩ := h
  exact ⟨hs, h1.ext hb, h2, fun i hi => (h3 i hi).ext hb⟩

theorem Owns.cells {α : Type} {E : Elt α} {w : World} {base : Nat} {e : TypeId} {v : Value} {l : List α} (h : Owns E w base e v l) {r : Nat} (hr : v.ownBlock = some r) : ∃ cur fr, w.heap[r]? = some (.cells cur e fr) := by
  rcases h.2 with ⟨rfl, _⟩ | ⟨g, cap, cur, rfl, _, hh, _⟩
  · cases hr
  · injection hr with hr
    subst hr
    exact ⟨_, _, hh⟩
/-- What grows is a list of another kind. -/
theorem Owns.keptt {α β : Type} {E : Elt α} {E' : Elt β} {w w' : World} {base base' : Nat} {e e' : TypeId} {v v' : Value} {l : List α} {l' : List β} (h : Owns E w base e v l) (h' : Owns E' w base' e' v' l') (hne : e ≠ e') (hg : w.grownBy w' v'.ownBlock) : Owns E w' base e v l :=
  h.kept hg (fun g hv e2 => by
    obtain ⟨c1, f1, h1⟩ := h.cells hv
    obtain ⟨c2, f2, h2⟩ := h'.cells e2.symm
    rw [h1] at h2
    injection h2 with h2
    injection h2 with _ h2 _
    exact hne h2)
theorem DSx.keptl {α : Type} {E : Elt α} {hi lo : Nat} {ds : List Deferred} {w w' : World} {base : Nat} {e : TypeId} {v : Value} {l : List α} (h : DSx hi lo ds w) (ho : Owns E w base e v l) (hg : w.grownBy w' v.ownBlock) : DSx hi lo ds w' := by
  obtain ⟨Ds, h1, h2, h3⟩ := h
  refine ⟨Ds, h1, h2, fun D hD => ⟨(h3 D hD).1, (h3 D hD).2.1, ?_⟩⟩
  have h4 := (h3 D hD).2.2
  exact (hg.block D (Array.getElem?_eq_some_iff.1 h4).1 (fun e => by
    obtain ⟨c, f, ho⟩ := ho.cells e.symm
    rw [h4] at ho; cases ho)).trans h4
theorem RndsRd.push {N : Nat} {R : Nat → List Int} {w w' : World} {base k : Nat} {Ah : Option Addr} {n ch : Nat} {hs : List (Option Addr × Nat × Nat)} {v' : Value} {x : Option Addr × Nat × Nat} (ho : Owns ESl w base 22 (.slice Ah n ch) hs) (hl : hs.length = k + 1) (hrd : ∀ (i : Nat) (h : i < hs.length), Owns EInt w base 3 (.slice hs[i].1 hs[i].2.1 hs[i].2.2) (R i))
    (hx : Owns EInt w base 3 (.slice x.1 x.2.1 x.2.2) (R (k + 1))) (hv : Owns ESl w' base 22 v' (hs ++ [x])) (hg : w.grownBy w' (Value.slice Ah n ch).ownBlock) : RndsRd N R w' base (k + 1) v' := by
  refine ⟨hs ++ [x], hv, by simp [hl], fun i hi => ?_⟩
  rw [List.length_append, List.length_singleton] at hi
  by_cases h : i < hs.length
  · simp only [List.getElem_append_left h]
    exact (hrd i h).keptt ho (by decide) hg
  · have e : i = k + 1 := by omega
    subst e
    rw [List.getElem_append_right (by omega)]
    simp only [hl, Nat.sub_self, List.getElem_cons_zero]
    exact hx.keptt ho (by decide) hg

/-- Between two rounds of the loop over the hops from the node i. -/
def FRel (p : Pln) (src t0 n : Int) (Bx g d : Nat) (k : Nat) (m : List Int) (wo : World) (B lo : Nat) (i : Int) (ds : List Deferred) (pre : List (HopX p i (gi m i) n)) (W : World) : Prop :=
  ∃ out : List Int, RI p.quo.length p.cons n src t0 k m out (fun c => c.src < i ∨ ∃ x ∈ pre, x.1.2 = c) ∧ Owns EInt W wo.heap.size 3 (.slice (some ⟨g, 0, none⟩) p.quo.length d) out ∧
    Blk W Bx 22 #[.slice (some ⟨g, 0, none⟩) p.quo.length d] ∧ Ext wo W ∧ DSx B lo ds W ∧ B ≤ W.heap.size
theorem FRel.ext {p : Pln} {src t0 n : Int} {Bx g d k : Nat} {m : List Int} {wo : World} {B lo : Nat} {i : Int} {ds : List Deferred} {pre : List (HopX p i (gi m i) n)} {W W' : World} (h : FRel p src t0 n Bx g d k m wo B lo i ds pre W) (hb : Ext W W') : FRel p src t0 n Bx g d k m wo B lo i ds pre W' := by
  obtain ⟨out, h1, h2, h3, h4, h5, h6⟩ := h
  exact ⟨out, h1, h2.ext hb, h3.ext hb, h4.trans hb, h5.ext hb, Nat.le_trans h6 hb.size⟩
theorem frel_own {p : Pln} {src t0 n : Int} {Bx g d k : Nat} {m : List Int} {wo : World} {B lo : Nat} {i : Int} {ds : List Deferred} (hB : wo.heap.size ≤ B) : OwnFrom B (FRel p src t0 n Bx g d k m wo B lo i ds) := by
  intro pre X Y row hs hg hr
  obtain ⟨out, h1, h2, h3, h4, h5, h6⟩ := hs
  exact ⟨out, h1, h2.keptc hg (fun r e => (hr r e).2), h3.keptc hg (fun r e => (hr r e).2), h4.keptb hg (fun r e => Nat.le_trans hB (hr r e).1), h5.kept hg (fun r e => (hr r e).1), Nat.le_trans h6 hg.size⟩

end Go.Proofs.Ytgmfnhianhngiaa
