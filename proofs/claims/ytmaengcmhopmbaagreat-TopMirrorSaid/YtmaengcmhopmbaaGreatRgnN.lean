/- A range over a function whose iterator writes boxes that it has made. -/
import Derived.Test.YtmaengcmhopmbaaGreatTaI
import Derived.RangeFuncNested
namespace Go.Proofs.YtmaengcmhopmbaaGreat
set_option linter.unusedVariables false
open Go.RowKit Go.Shelf

/-- What a world keeps while blocks from B on are written. -/
def AbN {β : Type} (B : Nat) (J : β → World → Prop) : Prop := ∀ s A C row, J s A → A.grownBy C row → (∀ r, row = some r → B ≤ r) → J s C
theorem AbN.own {β : Type} {B : Nat} {J : β → World → Prop} (h : AbN B J) : OwnFrom B J := fun s X Y row hs hg hr => h s X Y row hs hg (fun r e => (hr r e).1)
/-- The contract of an iterator that writes boxes of its own. -/
def SeqStopsN {α : Type} (F : Fence) (n : Nat) (P : Program) (g : Nat) (lb : Array Value) (encs : α → Array Value) (Kp : World → World → Prop) (S Sp : List α → Prop) (N : Nat) (w : World) : Prop :=
  ∀ (l : Nat) (J Jx : List α → World → Prop) (W : World), Below w.heap.size w W → AbN W.heap.size J → AbN W.heap.size Jx →
    (∀ pre x A, J pre A → pre.length < N → YieldAt F (n - 1) P l (encs x) A fun e B =>
      (e = .returned (.bool true) ∧ J (pre ++ [x]) B ∧ Kp A B) ∨ (e = .returned (.bool false) ∧ Jx (pre ++ [x]) B)) →
    J [] W →
    CallsIn F n P g (#[.func (.yield l) #[] #[]] ++ lb) W fun e B => (∃ v, e = .returned v) ∧ ((∃ xs, S xs ∧ J xs B) ∨ (∃ pre, Sp pre ∧ Jx pre B))

/-- The two blocks of the loop's books. -/
def Books (D : Nat) (r : Loop) (W : World) : Prop := W.heap[D + 1]? = some (.loop r) ∧ W.heap[D]? = some (.deferred (some []))
theorem Books.lt {D : Nat} {r : Loop} {W : World} (h : Books D r W) : D + 1 < W.heap.size := (Array.getElem?_eq_some_iff.1 h.1).1
theorem Books.from {D : Nat} {r : Loop} {A B : World} (h : Books D r A) (hk : KeepsFrom D A B) : Books D r B :=
  ⟨hk.same _ _ (Nat.le_succ _) h.1 rfl, hk.same _ _ (Nat.le_refl _) h.2 rfl⟩
theorem Books.grownN {D : Nat} {r : Loop} {A B : World} {row : Option Nat} (h : Books D r A) (hg : A.grownBy B row) (hr : ∀ r, row = some r → D + 2 ≤ r) : Books D r B := by
  have := h.lt
  exact ⟨(hg.block _ h.lt (fun e => by have := hr _ e.symm; omega)).trans h.1, (hg.block _ (by omega) (fun e => by have := hr _ e.symm; omega)).trans h.2⟩
theorem Books.put {D : Nat} {r : Loop} {A : World} (h : Books D r A) (r' : Loop) : Books D r' (A.putObj (D + 1) (.loop r')) :=
  ⟨World.putObj_heap_same h.lt, (World.putObj_heap_other (by omega)).trans h.2⟩

theorem wpIn_rangeN {F : Fence} {n : Nat} {P : Program} {α : Type} {g : Operand} {ps : Array Tmp} {assign body : Code} {Q : Exit → Act → World → Prop} {a : Act} {w : World}
    (hro : F.round = none) (h1 : 1 ≤ n) {gf : Nat} {lb : Array Value} (hg : a.eval g = .func (.func gf) #[] lb) (hFg : F.fn gf) (eg : ∀ args w, (callFunc gf args).run P w = .ok (.enter gf args) w)
    {encs : α → Array Value} {Kp : World → World → Prop} {S Sp : List α → Prop} {N : Nat} {w0 : World} (hseq : SeqStopsN F (n - 1) P gf lb encs Kp S Sp N w0)
    (hKt : ∀ {A B C : World}, Kp A B → Kp B C → Kp A C) (hKb : ∀ (W : World) (l : Nat) (o o' : Obj), w.heap.size ≤ l → W.heap[l]? = some o → o.isCells = false → Kp W (W.putObj l o')) (hb0 : Below w0.heap.size w0 w) (hps : ∀ x, (encs x).size = ps.size)
    (I : List α → World → Prop) (Ix : Code → List α → World → Prop) (hIw : AbN w.heap.size I) (hIxw : ∀ c, AbN w.heap.size (Ix c)) (h0 : I [] w) (Ax : α → Act → World → Prop) (hAx : ∀ x a', OwnFrom w.heap.size (fun (_ : Unit) W => Ax x a' W))
    (hassign : ∀ (l : Nat) (pre : List α) (x : α) (W : World) (K : Act → World → Prop), I pre W → (∀ a' W', KeepsFrom w.heap.size W W' → Kp W W' → I pre W' → Ax x a' W' → K a' W') →
      assign.wpIn (F.inRound l) (n - 1 - 1) P (Exit.then K (fun _ _ _ => False)) { tmps := (ps.zip (encs x)).foldl (fun t (p, v) => t.setIfInBounds p v) a.tmps, defers := [] } W)
    (hbody : ∀ (l : Nat) (pre : List α) (x : α) (a' : Act) (W : World), I pre W → Ax x a' W → pre.length < N → body.wpIn (F.inRound l) (n - 1 - 1) P (ownPostG w.heap.size Kp I Ix (pre ++ [x]) W) a' W)
    (hdone : ∀ (D : Nat) (xs : List α) (W : World), w.heap.size ≤ D → S xs → I xs W → W.heap[D]? = some (.deferred (some [])) → Q .normal { a with defers := { target := .collected D, args := #[] } :: a.defers } W)
    (hstop : ∀ (D : Nat) (c : Code) (pre : List α) (W : World), w.heap.size ≤ D → Sp pre → Ix c pre W → W.heap[D]? = some (.deferred (some [])) → c.wpIn F n P Q { a with defers := { target := .collected D, args := #[] } :: a.defers } W) :
    (Code.rangeFunc g ps assign body).wpIn F n P Q a w := by
  have hI : OwnFrom w.heap.size I := hIw.own
  have hIx : ∀ c, OwnFrom w.heap.size (Ix c) := fun c => (hIxw c).own
  refine wpIn_rangeFunc (fun fn hfn => ?_)
  rw [hro]
  obtain ⟨D, hD⟩ : ∃ D, D = w.heap.size := ⟨_, rfl⟩
  let R : LoopState → Option Code → Loop := fun st pe => { state := st, pending := pe, fn, tmps := a.tmps, params := ps, assign, body, defers := D }
  have hR : ∀ st pe, R st pe = { state := st, pending := pe, fn, tmps := a.tmps, params := ps, assign, body, defers := D } := fun _ _ => rfl
  have hent := run_enterLoop_outer (P := P) (w := w) fn a.tmps ps assign body
  rw [← hD, ← hR] at hent
  generalize R = R at hR hent
  obtain ⟨W1, hW1⟩ : ∃ W1, (w.alloc (.deferred (some []))).alloc (.loop (R .ready none)) = W1 := ⟨_, rfl⟩
  have hB1 : Books D (R .ready none) W1 := by
    rw [hD, ← hW1]
    have e := World.alloc_heap_new (w.alloc (.deferred (some []))) (.loop (R .ready none))
    rw [World.size_alloc] at e
    exact ⟨e, (Below.heap_alloc _ _ _ (by simp)).trans (World.alloc_heap_new w _)⟩
  have hI1 : I [] W1 := by rw [← hW1]; exact hI.alloc _ (hI.alloc _ h0)
  have hb1 : Below w0.heap.size w0 W1 := by
    rw [← hW1]; exact hb0.trans ((((Below.refl _ w).alloc (Nat.le_refl _) _).alloc (by simp) _).mono hb0.size)
  have hW1s : D + 2 ≤ W1.heap.size := by rw [hD, ← hW1]; simp
  rw [hW1] at hent
  rw [← hD] at hI hIx hdone hstop hKb hbody hassign hAx hIw hIxw
  refine ⟨_, _, W1, { target := .fn (.func gf) lb, args := #[.func (.yield (D + 1)) #[] #[]] }, W1, gf, #[.func (.yield (D + 1)) #[] #[]] ++ lb, W1, hent, ?_, ?_, ?_, fun _ => h1, ?_⟩
  · simp only [resolve, hg]
    simp [go_sem]
  · intro f' hf'
    simp [Target.leads] at hf'
    subst hf'
    exact hFg
  · simp [invoke, go_sem, eg]
  have putI : ∀ {J : List α → World → Prop} {s : List α} {W : World} {r r' : Loop}, OwnFrom D J → J s W → Books D r W → J s (W.putObj (D + 1) (.loop r')) := fun hJ hj hb => hJ.putObj _ hj (Nat.le_succ _) hb.1 rfl
  have hround : ∀ pre x A, (I pre A ∧ Books D (R .ready none) A) → pre.length < N → YieldAt F (n - 1 - 1) P (D + 1) (encs x) A fun e B =>
      (e = .returned (.bool true) ∧ (I (pre ++ [x]) B ∧ Books D (R .ready none) B) ∧ Kp A B) ∨ (e = .returned (.bool false) ∧ ∃ c, Ix c (pre ++ [x]) B ∧ Books D (R .done (some c)) B) := by
    rintro pre x A ⟨hi, hb⟩ hlen
    have hy := run_yield (P := P) (args := encs x) hb.1 (by rw [hR]; exact hps x)
    rw [hR] at hy
    refine ⟨fn, _, assign, body, hy, roundIn_of_wpIn hfn (hassign _ pre x A _ hi ?_)⟩
    intro a' A' hkf hkp hi' hax
    replace hb := hb.from hkf
    replace hi := hi'
    clear hi' hy
    refine ⟨_, run_beginRound hb.1 (by rw [hR]), ?_⟩
    have hkp0 := hkp
    clear hkp
    have hb2 := hb.put { R .ready none with state := .busy }
    refine wpIn_mono (hbody _ pre x a' _ (putI hI hi hb) ((hAx x a').putObj (s := ()) _ hax (Nat.le_succ _) hb.1 rfl) hlen) ?_
    have hk0 : Kp A' (A'.putObj (D + 1) (.loop { R .ready none with state := .busy })) := hKb _ _ _ _ (Nat.le_succ _) hb.1 rfl
    -- the end of a round
    have fin : ∀ (j : Option Code) (C : World), KeepsFrom D (A'.putObj (D + 1) (.loop { R .ready none with state := .busy })) C →
        (Instr.endRound (D + 1) j).run P C = .ok (.bool j.isNone) (C.putObj (D + 1) (.loop (R (if j.isNone then .ready else .done) j))) ∧ Books D { R .ready none with state := .busy } C := fun j C hk => by
      have hb3 := hb2.from hk
      have e := run_endRound (P := P) j hb3.1
      refine ⟨?_, hb3⟩
      rw [hR] at e ⊢
      exact e
    have out : ∀ (c : Code) (C : World), KeepsFrom D (A'.putObj (D + 1) (.loop { R .ready none with state := .busy })) C → Ix c (pre ++ [x]) C →
        (Instr.endRound (D + 1) (some c)).run P C = .ok (.bool false) (C.putObj (D + 1) (.loop (R .done (some c)))) ∧ ∃ c', Ix c' (pre ++ [x]) (C.putObj (D + 1) (.loop (R .done (some c)))) ∧ Books D (R .done (some c')) (C.putObj (D + 1) (.loop (R .done (some c)))) := fun c C hk hx => by
      obtain ⟨e, hb3⟩ := fin (some c) C hk
      exact ⟨e, c, putI (hIx c) hx hb3, hb3.put _⟩
    intro e a3 C hp
    cases e with
    | normal =>
      obtain ⟨hk3, hkp3, hi3⟩ := hp
      obtain ⟨hr, hb3⟩ := fin none C hk3
      exact ⟨_, _, hr, .inl ⟨rfl, ⟨putI hI hi3 hb3, hb3.put _⟩, hKt hkp0 (hKt (hKt hk0 hkp3) (hKb _ _ _ _ (Nat.le_succ _) hb3.1 rfl))⟩⟩
    | ret => exact ⟨_, _, (out .ret C hp.1 hp.2).1, .inr ⟨rfl, (out .ret C hp.1 hp.2).2⟩⟩
    | exit id => exact ⟨_, _, (out (.exit id) C hp.1 hp.2).1, .inr ⟨rfl, (out (.exit id) C hp.1 hp.2).2⟩⟩
    | goto t => exact ⟨_, _, (out (.goto t) C hp.1 hp.2).1, .inr ⟨rfl, (out (.goto t) C hp.1 hp.2).2⟩⟩
    | panic ch => exact hp.elim
    | outgrown => exact hp.elim
  refine (hseq (D + 1) (fun pre W => I pre W ∧ Books D (R .ready none) W) (fun pre W => ∃ c, Ix c pre W ∧ Books D (R .done (some c)) W) W1 hb1
    (fun s A B row hs hg' hr => ⟨hIw s A B row hs.1 hg' (fun r e => Nat.le_trans (by omega) (hr r e)), hs.2.grownN hg' (fun r e => Nat.le_trans hW1s (hr r e))⟩) (fun s A B row ⟨c, hc, hb⟩ hg' hr => ⟨c, hIxw c s A B row hc hg' (fun r e => Nat.le_trans (by omega) (hr r e)), hb.grownN hg' (fun r e => Nat.le_trans hW1s (hr r e))⟩) hround ⟨hI1, hB1⟩).mono ?_
  rintro e W2 ⟨⟨v, rfl⟩, (⟨xs, hS, hi, hb⟩ | ⟨pre, hSp, c, hi, hb⟩)⟩
  · have e := run_endLoop (P := P) hb.1 (by rw [hR]; simp)
    rw [hR] at e
    exact ⟨none, _, e, hdone _ xs _ (Nat.le_refl _) hS (putI hI hi hb) ((World.putObj_heap_other (by omega)).trans hb.2)⟩
  · have e := run_endLoop (P := P) hb.1 (by rw [hR]; simp)
    rw [hR] at e
    exact ⟨some c, _, e, hstop _ c pre _ (Nat.le_refl _) hSp (putI (hIx c) hi hb) ((World.putObj_heap_other (by omega)).trans hb.2)⟩


/-- All cells are kept, and all blocks below n. -/
structure KpC (n : Nat) (W W' : World) : Prop where
  os : W'.os = W.os
  tape : W'.tape = W.tape
  output : W'.output = W.output
  size : W.heap.size ≤ W'.heap.size
  low : ∀ k, k < n → W'.heap[k]? = W.heap[k]?
  cel : ∀ (k : Nat) (o : Obj), W.heap[k]? = some o → o.isCells = true → W'.heap[k]? = some o
theorem KpC.trans {n : Nat} {A B C : World} (h : KpC n A B) (k : KpC n B C) : KpC n A C :=
  ⟨k.os.trans h.os, k.tape.trans h.tape, k.output.trans h.output, Nat.le_trans h.size k.size, fun i hi => (k.low i hi).trans (h.low i hi), fun i o h1 h2 => k.cel i o (h.cel i o h1 h2) h2⟩
theorem KpC.of_ext {n : Nat} {W W' : World} (hn : n ≤ W.heap.size) (h : Ext W W') : KpC n W W' :=
  ⟨h.os, h.tape, h.output, h.size, fun k hk => h.block k (by omega), fun k o h1 _ => (h.block k (Array.getElem?_eq_some_iff.1 h1).1).trans h1⟩
theorem KpC.put {n : Nat} (W : World) (l : Nat) (o o' : Obj) (hl : n ≤ l) (h : W.heap[l]? = some o) (ho : o.isCells = false) : KpC n W (W.putObj l o') :=
  ⟨rfl, rfl, rfl, by simp, fun k hk => World.putObj_heap_other (by omega), fun k o2 h1 h2 => (World.putObj_heap_other (fun e => by subst e; rw [h] at h1; injection h1 with h1; subst h1; rw [ho] at h2; cases h2)).trans h1⟩
theorem KpC.blk {n : Nat} {W W' : World} (h : KpC n W W') {b : Nat} {t : TypeId} {cs : Array Value} (hb : Blk W b t cs) : Blk W' b t cs := h.cel _ _ hb rfl
theorem KpC.ext {n : Nat} {w W W' : World} (h : KpC n W W') (hw : Ext w W) (hn : w.heap.size ≤ n) : Ext w W' :=
  Below.trans hw ⟨h.os, h.tape, h.output, h.size, fun k hk => h.low k (by omega)⟩

end Go.Proofs.YtmaengcmhopmbaaGreat
