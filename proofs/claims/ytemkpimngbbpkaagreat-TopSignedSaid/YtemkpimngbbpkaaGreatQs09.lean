/- What a round of a range over a function keeps. · A range over a function whose iterator writes boxes that it has made, or those of a set T that lie below the loop. · A range over an iterator that writes boxes of a set, where the rounds make memory of their own. · What a method keeps that writes one block of its caller's. -/
import Derived.Test.YtemkpimngbbpkaaGreatRows
import Derived.RangeFuncNested
import Derived.RangeFuncOwn
import Derived.OwnWalkIn
import Derived.Test.YtemkpimngbbpkaaGreatQs01
namespace Go.Proofs.YtemkpimngbbpkaaGreat
set_option linter.unusedVariables false
set_option linter.unusedSimpArgs false
section
open Go.RowKit
structure KpP (n : Nat) (S : Nat -> Prop) (W W' : World) : Prop where
 os : W'.os = W.os
 tape : W'.tape = W.tape
 output : W'.output = W.output
 size : W.heap.size <= W'.heap.size
 block : ∀ k, k < n -> ¬ S k -> W'.heap[k]? = W.heap[k]?
theorem KpP.refl (n : Nat) (S : Nat -> Prop) (W : World) : KpP n S W W := ⟨rfl, rfl, rfl, Nat.le_refl _, fun _ _ _ => rfl⟩
theorem KpP.trans {n : Nat} {S : Nat -> Prop} {A B C : World} (h : KpP n S A B) (k : KpP n S B C) : KpP n S A C :=
 ⟨k.os.trans h.os, k.tape.trans h.tape, k.output.trans h.output, Nat.le_trans h.size k.size, fun i h1 h2 => (k.block i h1 h2).trans (h.block i h1 h2)⟩
theorem KpP.of_ext {n : Nat} {S : Nat -> Prop} {W W' : World} (hn : n <= W.heap.size) (h : Ext W W') : KpP n S W W' := ⟨h.os, h.tape, h.output, h.size, fun k hk _ => h.block k (Nat.lt_of_lt_of_le hk hn)⟩
theorem KpP.setCell {n : Nat} {S : Nat -> Prop} {W W' : World} (h : KpP n S W W') {g : Nat} (hg : S g ∨ n <= g) (o : Nat) (v : Value) : KpP n S W (W'.setCell ⟨g, o, none⟩ v) :=
 ⟨h.os, h.tape, h.output, by simp [World.setCell]; exact h.size, fun k h1 h2 => (Below.heap_setCell W' ⟨g, o, none⟩ v k (fun e => hg.elim (fun hs => h2 (e ▸ hs)) (fun hs => by dsimp only at e; omega))).trans (h.block k h1 h2)⟩
theorem KpP.put {n : Nat} {S : Nat -> Prop} (W : World) (l : Nat) (o : Obj) (hl : n <= l) : KpP n S W (W.putObj l o) :=
 ⟨rfl, rfl, rfl, by simp, fun k hk _ => World.putObj_heap_other (by omega)⟩
theorem KpP.blk {n : Nat} {S : Nat -> Prop} {W W' : World} (h : KpP n S W W') {b : Nat} {t : TypeId} {cs : Array Value} (hb : Blk W b t cs) (h1 : b < n) (h2 : ¬ S b) : Blk W' b t cs := (h.block b h1 h2).trans hb
theorem KpP.ext {n : Nat} {S : Nat -> Prop} {w W W' : World} (h : KpP n S W W') (hw : Ext w W) (hn : w.heap.size <= n) (hS : ∀ k, S k -> w.heap.size <= k) : Ext w W' :=
 Below.trans hw ⟨h.os, h.tape, h.output, h.size, fun k hk => h.block k (Nat.lt_of_lt_of_le hk hn) (fun hs => by have := hS k hs; omega)⟩
theorem Owns.cellsZ {α : Type} {E : Elt α} {w : World} {base : Nat} {e : TypeId} {v : Value} {l : List α} (h : Owns E w base e v l) {r : Nat} (hr : v.ownBlock = some r) : ∃ cur fr, w.heap[r]? = some (.cells cur e fr) := by
 rcases h.2 with ⟨rfl, _⟩ | ⟨g, cap, cur, rfl, _, hh, _⟩
 ·cases hr
 ·injection hr with hr
  subst hr
  exact ⟨_, _, hh⟩
theorem Owns.kepttZ {α β : Type} {E : Elt α} {E' : Elt β} {w w' : World} {base base' : Nat} {e e' : TypeId} {v v' : Value} {l : List α} {l' : List β} (h : Owns E w base e v l) (h' : Owns E' w base' e' v' l') (hne : e ≠ e') (hg : w.grownBy w' v'.ownBlock) : Owns E w' base e v l :=
 h.kept hg (fun g hv e2 => by
  obtain ⟨c1, f1, h1⟩ := h.cellsZ hv
  obtain ⟨c2, f2, h2⟩ := h'.cellsZ e2.symm
  rw [h1] at h2
  injection h2 with h2
  injection h2 with _ h2 _
  exact hne h2)
theorem Blk.kepttZ {β : Type} {E' : Elt β} {w w' : World} {base' : Nat} {e' : TypeId} {v' : Value} {l' : List β} {g : Nat} {t : TypeId} {cs : Array Value} (h : Blk w g t cs) (h' : Owns E' w base' e' v' l') (hne : t ≠ e') (hg : w.grownBy w' v'.ownBlock) : Blk w' g t cs :=
 h.kept hg (fun e2 => by
  obtain ⟨c2, f2, h2⟩ := h'.cellsZ e2.symm
  have h1 : w.heap[g]? = some (.cells cs t (0, 0)) := h
  rw [h1] at h2
  injection h2 with h2
  injection h2 with _ h2 _
  exact hne h2)
theorem Owns.setZ {α : Type} {E : Elt α} {w : World} {base : Nat} {e : TypeId} {v : Value} {l : List α} (h : Owns E w base e v l) {g : Nat} {t : TypeId} {cs : Array Value} (hg : Blk w g t cs) (hne : t ≠ e) (o : Nat) (u : Value) : Owns E (w.setCell ⟨g, o, none⟩ u) base e v l :=
 h.kept (grown_setCell (World.grownBy.refl w (some g)) o u) (fun b hb e2 => by
  injection e2 with e2
  subst e2
  obtain ⟨c2, f2, h2⟩ := h.cellsZ hb
  have h1 : w.heap[b]? = some (.cells cs t (0, 0)) := hg
  rw [h1] at h2
  injection h2 with h2
  injection h2 with _ h2 _
  exact hne h2)
theorem wpListIn_pushL {α : Type} {E : Elt α} {F : Fence} {n : Nat} {P : Program} {w : World} {l : List α} {ops : Array Oper} {rest : List Oper} {o : Oper} {a : Act} {Q : Exit -> Act -> World -> Prop} (hgd : o.guard = none) (s x : Operand) (t : TypeId)
 (ho : o.op = .call { callee := .builtin .append, args := #[s, x], argTypes := #[t, t] })
 (base : Nat) (e : TypeId) (i : TypeInfo) (z : Value) (bytes : Nat) (ht : P.underlying t = some (.slice e)) (hi : P.info? e = some i) (hz : i.zero = some z)
 (hsize : i.size = E.size) (hby : i.bytes = bytes) (hzs : z.cells.size = E.size)
 (v : Value) (hs : a.eval s = v) (hown : Owns E w base e v l)
 (g : Nat) (y : α) (hx : a.eval x = .slice (some ⟨g, 0, none⟩) 1 1) (hy : Blk w g e (E.cells y).toArray)
 (h63 : l.length + 1 <= maxLen) (hbytes : (l.length + 1) * bytes <= 140737488355328) (hbase : base <= w.heap.size)
 (h : ∀ v' w', Owns E w' base e v' (l ++ [y]) -> w.grownBy w' v.ownBlock -> (v'.ownBlock = v.ownBlock ∨ v'.ownBlock = some w.heap.size) -> wpListIn F n P ops Q rest (a.put o.dst v') w') : wpListIn F n P ops Q (o :: rest) a w := by
 refine wpListIn_plain hgd fun K hK' => ?_
 obtain ⟨v', w', hrun, h2, h3, h4⟩ := run_append_any (P := P) w base t o.type e i z E.size bytes ht hi hz hsize hby hzs E.pos v l.length (E.all l) hown w.heap.size (some ⟨g, 0, none⟩) 1 1 (E.cells y) (reads_one hy) (E.one y) h63 hbytes hbase
 unfold Oper.wpIn
 refine ⟨?_, ?_⟩
 ·simp [Oper.about, ho, resolve, Target.leads, Sem.run_pure]
 ·rw [Oper.semAt_plain F _ _ (by rw [ho]; intro c hc'; cases hc')]
  simp only [execOp, ho, resolve, invoke, builtin, Sem.run_bind, Sem.run_pure, Result.andThen_ok, List.map_toArray, List.map_cons, List.map_nil, hs, hx, hrun]
  exact hK' _ _ (h v' w' (by
   unfold Owns
   rw [E.all_append, List.length_append]
   simpa [Elt.all] using h2) h3 h4)
theorem keeps_ownL {α : Type} {E : Elt α} {w w' : World} {base : Nat} {e : TypeId} {v : Value} {l : List α} (ho : Owns E w base e v l) (hg : w.grownBy w' v.ownBlock) : KeepsOthers w w' := by
 refine ⟨hg.size, fun k o hk hc => ?_⟩
 have hlt : k < w.heap.size := (Array.getElem?_eq_some_iff.1 hk).1
 rw [hg.block k hlt ?_]
 ·exact hk
 ·intro e2
  obtain ⟨c1, f1, h1⟩ := ho.cellsZ e2.symm
  rw [hk] at h1
  injection h1 with h1
  subst h1
  cases hc
theorem alloc_ltL (w : World) (o : Obj) : w.heap.size < (w.alloc o).heap.size := by show w.heap.size < (w.heap.push o).size; rw [Array.size_push]; exact Nat.lt_succ_self _
end
section
open Go.RowKit
def AbM {β : Type} (T : Nat -> Prop) (B : Nat) (J : β -> World -> Prop) : Prop := ∀ s A C row, J s A -> A.grownBy C row -> (∀ r, row = some r -> T r ∨ B <= r) -> J s C
theorem AbM.own {β : Type} {T : Nat -> Prop} {B : Nat} {J : β -> World -> Prop} (h : AbM T B J) : OwnFrom B J := fun s X Y row hs hg hr => h s X Y row hs hg (fun r e => .inr (hr r e).1)
def SeqStopsM {α : Type} (F : Fence) (n : Nat) (P : Program) (g : Nat) (lb : Array Value) (encs : α -> Array Value) (Kp : World -> World -> Prop) (T : Nat -> Prop) (S Sp : List α -> Prop) (N : Nat) (w : World) : Prop :=
 ∀ (l : Nat) (J Jx : List α -> World -> Prop) (W : World), Below w.heap.size w W -> AbM T W.heap.size J -> AbM T W.heap.size Jx ->
   (∀ pre x A, J pre A -> pre.length < N -> YieldAt F (n - 1) P l (encs x) A fun e B =>
    (e = .returned (.bool true) /\ J (pre ++ [x]) B /\ Kp A B) ∨ (e = .returned (.bool false) /\ Jx (pre ++ [x]) B)) ->
   J [] W ->
   CallsIn F n P g (#[.func (.yield l) #[] #[]] ++ lb) W fun e B => (∃ v, e = .returned v) /\ ((∃ xs, S xs /\ J xs B) ∨ (∃ pre, Sp pre /\ Jx pre B))
def BooksM (D : Nat) (r : Loop) (W : World) : Prop := W.heap[D + 1]? = some (.loop r) /\ W.heap[D]? = some (.deferred (some []))
theorem BooksM.lt {D : Nat} {r : Loop} {W : World} (h : BooksM D r W) : D + 1 < W.heap.size := (Array.getElem?_eq_some_iff.1 h.1).1
theorem BooksM.from {D : Nat} {r : Loop} {A B : World} (h : BooksM D r A) (hk : KeepsFrom D A B) : BooksM D r B :=
 ⟨hk.same _ _ (Nat.le_succ _) h.1 rfl, hk.same _ _ (Nat.le_refl _) h.2 rfl⟩
theorem BooksM.grownN {D : Nat} {r : Loop} {A B : World} {row : Option Nat} (h : BooksM D r A) (hg : A.grownBy B row) (hr : ∀ r, row = some r -> r < D ∨ D + 2 <= r) : BooksM D r B := by
 have := h.lt
 exact ⟨(hg.block _ h.lt (fun e => by have := hr _ e.symm; omega)).trans h.1, (hg.block _ (by omega) (fun e => by have := hr _ e.symm; omega)).trans h.2⟩
theorem BooksM.put {D : Nat} {r : Loop} {A : World} (h : BooksM D r A) (r' : Loop) : BooksM D r' (A.putObj (D + 1) (.loop r')) :=
 ⟨World.putObj_heap_same h.lt, (World.putObj_heap_other (by omega)).trans h.2⟩
theorem wpIn_rangeM {F : Fence} {n : Nat} {P : Program} {α : Type} {g : Operand} {ps : Array Tmp} {assign body : Code} {Q : Exit -> Act -> World -> Prop} {a : Act} {w : World}
 (hro : F.round = none) (h1 : 1 <= n) {gf : Nat} {lb : Array Value} (hg : a.eval g = .func (.func gf) #[] lb) (hFg : F.fn gf) (eg : ∀ args w, (callFunc gf args).run P w = .ok (.enter gf args) w)
 {encs : α -> Array Value} {Kp : World -> World -> Prop} {T : Nat -> Prop} {S Sp : List α -> Prop} {N : Nat} {w0 : World} (hseq : SeqStopsM F (n - 1) P gf lb encs Kp T S Sp N w0) (hT : ∀ r, T r -> r < w.heap.size)
 (hKt : ∀ {A B C : World}, Kp A B -> Kp B C -> Kp A C) (hKb : ∀ (W : World) (l : Nat) (o o' : Obj), w.heap.size <= l -> W.heap[l]? = some o -> o.isCells = false -> Kp W (W.putObj l o')) (hb0 : Below w0.heap.size w0 w) (hps : ∀ x, (encs x).size = ps.size)
 (I : List α -> World -> Prop) (Ix : Code -> List α -> World -> Prop) (hIw : AbM T w.heap.size I) (hIxw : ∀ c, AbM T w.heap.size (Ix c)) (h0 : I [] w) (Ax : α -> Act -> World -> Prop) (hAx : ∀ x a', OwnFrom w.heap.size (fun (_ : Unit) W => Ax x a' W))
 (hassign : ∀ (l : Nat) (pre : List α) (x : α) (W : World) (K : Act -> World -> Prop), I pre W -> (∀ a' W', KeepsFrom w.heap.size W W' -> Kp W W' -> I pre W' -> Ax x a' W' -> K a' W') ->
  assign.wpIn (F.inRound l) (n - 1 - 1) P (Exit.then K (fun _ _ _ => False)) { tmps := (ps.zip (encs x)).foldl (fun t (p, v) => t.setIfInBounds p v) a.tmps, defers := [] } W)
 (hbody : ∀ (l : Nat) (pre : List α) (x : α) (a' : Act) (W : World), I pre W -> Ax x a' W -> pre.length < N -> body.wpIn (F.inRound l) (n - 1 - 1) P (ownPostG w.heap.size Kp I Ix (pre ++ [x]) W) a' W)
 (hdone : ∀ (D : Nat) (xs : List α) (W : World), w.heap.size <= D -> S xs -> I xs W -> W.heap[D]? = some (.deferred (some [])) -> Q .normal { a with defers := { target := .collected D, args := #[] } :: a.defers } W)
 (hstop : ∀ (D : Nat) (c : Code) (pre : List α) (W : World), w.heap.size <= D -> Sp pre -> Ix c pre W -> W.heap[D]? = some (.deferred (some [])) -> c.wpIn F n P Q { a with defers := { target := .collected D, args := #[] } :: a.defers } W) :
 (Code.rangeFunc g ps assign body).wpIn F n P Q a w := by
 have hI : OwnFrom w.heap.size I := hIw.own
 have hIx : ∀ c, OwnFrom w.heap.size (Ix c) := fun c => (hIxw c).own
 refine wpIn_rangeFunc (fun fn hfn => ?_)
 rw [hro]
 obtain ⟨D, hD⟩ : ∃ D, D = w.heap.size := ⟨_, rfl⟩
 let R : LoopState -> Option Code -> Loop := fun st pe => { state := st, pending := pe, fn, tmps := a.tmps, params := ps, assign, body, defers := D }
 have hR : ∀ st pe, R st pe = { state := st, pending := pe, fn, tmps := a.tmps, params := ps, assign, body, defers := D } := fun _ _ => rfl
 have hent := run_enterLoop_outer (P := P) (w := w) fn a.tmps ps assign body
 rw [<- hD, <- hR] at hent
 generalize R = R at hR hent
 obtain ⟨W1, hW1⟩ : ∃ W1, (w.alloc (.deferred (some []))).alloc (.loop (R .ready none)) = W1 := ⟨_, rfl⟩
 have hB1 : BooksM D (R .ready none) W1 := by
  rw [hD, <- hW1]
  have e := World.alloc_heap_new (w.alloc (.deferred (some []))) (.loop (R .ready none))
  rw [World.size_alloc] at e
  exact ⟨e, (Below.heap_alloc _ _ _ (by simp)).trans (World.alloc_heap_new w _)⟩
 have hI1 : I [] W1 := by rw [<- hW1]; exact hI.alloc _ (hI.alloc _ h0)
 have hb1 : Below w0.heap.size w0 W1 := by
  rw [<- hW1]; exact hb0.trans ((((Below.refl _ w).alloc (Nat.le_refl _) _).alloc (by simp) _).mono hb0.size)
 have hW1s : D + 2 <= W1.heap.size := by rw [hD, <- hW1]; simp
 rw [hW1] at hent
 rw [<- hD] at hI hIx hdone hstop hKb hbody hassign hAx hIw hIxw hT
 refine ⟨_, _, W1, { target := .fn (.func gf) lb, args := #[.func (.yield (D + 1)) #[] #[]] }, W1, gf, #[.func (.yield (D + 1)) #[] #[]] ++ lb, W1, hent, ?_, ?_, ?_, fun _ => h1, ?_⟩
 ·simp only [resolve, hg]
  simp [go_sem]
 ·intro f' hf'
  simp [Target.leads] at hf'
  subst hf'
  exact hFg
 ·simp [invoke, go_sem, eg]
 have putI : ∀ {J : List α -> World -> Prop} {s : List α} {W : World} {r r' : Loop}, OwnFrom D J -> J s W -> BooksM D r W -> J s (W.putObj (D + 1) (.loop r')) := fun hJ hj hb => hJ.putObj _ hj (Nat.le_succ _) hb.1 rfl
 have hround : ∀ pre x A, (I pre A /\ BooksM D (R .ready none) A) -> pre.length < N -> YieldAt F (n - 1 - 1) P (D + 1) (encs x) A fun e B =>
  (e = .returned (.bool true) /\ (I (pre ++ [x]) B /\ BooksM D (R .ready none) B) /\ Kp A B) ∨ (e = .returned (.bool false) /\ ∃ c, Ix c (pre ++ [x]) B /\ BooksM D (R .done (some c)) B) := by
  rintro pre x A ⟨hi, hb⟩ hlen
  have hy := run_yield (P := P) (args := encs x) hb.1 (by rw [hR]; exact hps x)
  rw [hR] at hy
  refine ⟨fn, _, assign, body, hy, roundIn_of_wpIn hfn (hassign _ pre x A _ hi ?_)⟩
  intro a' A' hkf hkp hi' hax
  replace hb := hb.from hkf
  replace hi := hi'
  clear hi' hy
  refine ⟨_, run_beginRound hb.1 (by rw [hR]), ?_⟩
  have hkp0 := hkp
  clear hkp
  have hb2 := hb.put { R .ready none with state := .busy }
  refine wpIn_mono (hbody _ pre x a' _ (putI hI hi hb) ((hAx x a').putObj (s := ()) _ hax (Nat.le_succ _) hb.1 rfl) hlen) ?_
  have hk0 : Kp A' (A'.putObj (D + 1) (.loop { R .ready none with state := .busy })) := hKb _ _ _ _ (Nat.le_succ _) hb.1 rfl
  -- the end of a round
  have fin : ∀ (j : Option Code) (C : World), KeepsFrom D (A'.putObj (D + 1) (.loop { R .ready none with state := .busy })) C ->
   (Instr.endRound (D + 1) j).run P C = .ok (.bool j.isNone) (C.putObj (D + 1) (.loop (R (if j.isNone then .ready else .done) j))) /\ BooksM D { R .ready none with state := .busy } C := fun j C hk => by
   have hb3 := hb2.from hk
   have e := run_endRound (P := P) j hb3.1
   refine ⟨?_, hb3⟩
   rw [hR] at e ⊢
   exact e
  have out : ∀ (c : Code) (C : World), KeepsFrom D (A'.putObj (D + 1) (.loop { R .ready none with state := .busy })) C -> Ix c (pre ++ [x]) C ->
   (Instr.endRound (D + 1) (some c)).run P C = .ok (.bool false) (C.putObj (D + 1) (.loop (R .done (some c)))) /\ ∃ c', Ix c' (pre ++ [x]) (C.putObj (D + 1) (.loop (R .done (some c)))) /\ BooksM D (R .done (some c')) (C.putObj (D + 1) (.loop (R .done (some c)))) := fun c C hk hx => by
   obtain ⟨e, hb3⟩ := fin (some c) C hk
   exact ⟨e, c, putI (hIx c) hx hb3, hb3.put _⟩
  intro e a3 C hp
  cases e with
  | normal =>
    obtain ⟨hk3, hkp3, hi3⟩ := hp
    obtain ⟨hr, hb3⟩ := fin none C hk3
    exact ⟨_, _, hr, .inl ⟨rfl, ⟨putI hI hi3 hb3, hb3.put _⟩, hKt hkp0 (hKt (hKt hk0 hkp3) (hKb _ _ _ _ (Nat.le_succ _) hb3.1 rfl))⟩⟩
  | ret => exact ⟨_, _, (out .ret C hp.1 hp.2).1, .inr ⟨rfl, (out .ret C hp.1 hp.2).2⟩⟩
  | exit id => exact ⟨_, _, (out (.exit id) C hp.1 hp.2).1, .inr ⟨rfl, (out (.exit id) C hp.1 hp.2).2⟩⟩
  | goto t => exact ⟨_, _, (out (.goto t) C hp.1 hp.2).1, .inr ⟨rfl, (out (.goto t) C hp.1 hp.2).2⟩⟩
  | panic ch => exact hp.elim
  | outgrown => exact hp.elim
 refine (hseq (D + 1) (fun pre W => I pre W /\ BooksM D (R .ready none) W) (fun pre W => ∃ c, Ix c pre W /\ BooksM D (R .done (some c)) W) W1 hb1
  (fun s A B row hs hg' hr => ⟨hIw s A B row hs.1 hg' (fun r e => (hr r e).imp id (fun h => Nat.le_trans (by omega) h)), hs.2.grownN hg' (fun r e => (hr r e).imp (hT r) (fun h => Nat.le_trans hW1s h))⟩) (fun s A B row ⟨c, hc, hb⟩ hg' hr => ⟨c, hIxw c s A B row hc hg' (fun r e => (hr r e).imp id (fun h => Nat.le_trans (by omega) h)), hb.grownN hg' (fun r e => (hr r e).imp (hT r) (fun h => Nat.le_trans hW1s h))⟩) hround ⟨hI1, hB1⟩).mono ?_
 rintro e W2 ⟨⟨v, rfl⟩, (⟨xs, hS, hi, hb⟩ | ⟨pre, hSp, c, hi, hb⟩)⟩
 ·have e := run_endLoop (P := P) hb.1 (by rw [hR]; simp)
  rw [hR] at e
  exact ⟨none, _, e, hdone _ xs _ (Nat.le_refl _) hS (putI hI hi hb) ((World.putObj_heap_other (by omega)).trans hb.2)⟩
 ·have e := run_endLoop (P := P) hb.1 (by rw [hR]; simp)
  rw [hR] at e
  exact ⟨some c, _, e, hstop _ c pre _ (Nat.le_refl _) hSp (putI (hIx c) hi hb) ((World.putObj_heap_other (by omega)).trans hb.2)⟩
structure KpQ (S : Nat -> Prop) (W W' : World) : Prop where
 os : W'.os = W.os
 tape : W'.tape = W.tape
 output : W'.output = W.output
 size : W.heap.size <= W'.heap.size
 cel : ∀ (k : Nat) (o : Obj), W.heap[k]? = some o -> o.isCells = true -> ¬ S k -> W'.heap[k]? = some o
theorem KpQ.refl (S : Nat -> Prop) (W : World) : KpQ S W W := ⟨rfl, rfl, rfl, Nat.le_refl _, fun _ _ h _ _ => h⟩
theorem KpQ.trans {S : Nat -> Prop} {A B C : World} (h : KpQ S A B) (k : KpQ S B C) : KpQ S A C :=
 ⟨k.os.trans h.os, k.tape.trans h.tape, k.output.trans h.output, Nat.le_trans h.size k.size, fun i o h1 h2 h3 => k.cel i o (h.cel i o h1 h2 h3) h2 h3⟩
theorem KpQ.of_ext {S : Nat -> Prop} {W W' : World} (h : Ext W W') : KpQ S W W' :=
 ⟨h.os, h.tape, h.output, h.size, fun k o hk _ _ => (h.block k (Array.getElem?_eq_some_iff.1 hk).1).trans hk⟩
theorem KpQ.grown {S : Nat -> Prop} {W W' : World} {row : Option Nat} (h : W.grownBy W' row) (hS : ∀ r, row = some r -> S r) : KpQ S W W' :=
 ⟨h.os, h.tape, h.output, h.size, fun k o hk _ h2 => (h.block k (Array.getElem?_eq_some_iff.1 hk).1 (fun e => h2 (hS k e.symm))).trans hk⟩
theorem KpQ.setCell {S : Nat -> Prop} {W W' : World} (h : KpQ S W W') {g : Nat} (hg : S g) (o : Nat) (v : Value) : KpQ S W (W'.setCell ⟨g, o, none⟩ v) :=
 ⟨h.os, h.tape, h.output, by simp [World.setCell]; exact h.size, fun k c h1 h2 h3 => (Below.heap_setCell W' ⟨g, o, none⟩ v k (fun e => h3 (by dsimp only at e; exact e ▸ hg))).trans (h.cel k c h1 h2 h3)⟩
theorem KpQ.put {S : Nat -> Prop} (W : World) (l : Nat) (o o' : Obj) (h : W.heap[l]? = some o) (ho : o.isCells = false) : KpQ S W (W.putObj l o') :=
 ⟨rfl, rfl, rfl, by simp, fun k c h1 h2 _ => by
  by_cases e : k = l
  ·subst e; rw [h] at h1; injection h1 with h1; subst h1; rw [ho] at h2; cases h2
  ·exact (World.putObj_heap_other e).trans h1⟩
theorem KpQ.blk {S : Nat -> Prop} {W W' : World} (h : KpQ S W W') {b : Nat} {t : TypeId} {cs : Array Value} (hb : Blk W b t cs) (h2 : ¬ S b) : Blk W' b t cs := h.cel _ _ hb rfl h2
theorem KpQ.cell {S : Nat -> Prop} {W W' : World} (h : KpQ S W W') {p : Addr} {v : Value} (hc : W.cell? p = some v) (h2 : ¬ S p.block) : W'.cell? p = some v := by
 obtain ⟨o, ho, hoc⟩ := cells_of_cell hc
 exact (World.cell?_of_block ((h.cel _ _ ho hoc h2).trans ho.symm)).trans hc
theorem KpQ.rd {S : Nat -> Prop} {W W' : World} {α : Type} {E : Elt α} {A : Option Addr} {l : List α} (h : KpQ S W W') (hr : Rd E W A l) (hA : ∀ ad, A = some ad -> ¬ S ad.block) : Rd E W' A l :=
 ⟨hr.1, fun hn => by
  obtain ⟨ad, e, hb, hc⟩ := hr.2 hn
  exact ⟨ad, e, Nat.lt_of_lt_of_le hb h.size, fun j u hu => h.cell (hc j u hu) (by rw [block_of_add]; exact hA ad e)⟩⟩
end
section
open Go.RowKit
def AbO {β : Type} (T : Nat -> Prop) (B : Nat) (J : β -> World -> Prop) : Prop := ∀ s A C row, J s A -> A.grownBy C row -> (∀ r, row = some r -> T r ∨ (B <= r /\ ∃ o : Obj, A.heap[r]? = some o /\ o.isCells = false)) -> J s C
theorem AbO.own {β : Type} {T : Nat -> Prop} {B : Nat} {J : β -> World -> Prop} (h : AbO T B J) : OwnFrom B J := fun s X Y row hs hg hr => h s X Y row hs hg (fun r e => .inr (hr r e))
def SeqStopsO {α : Type} (F : Fence) (n : Nat) (P : Program) (g : Nat) (lb : Array Value) (encs : α -> Array Value) (Kp : World -> World -> Prop) (T : Nat -> Prop) (S Sp : List α -> Prop) (N : Nat) (w : World) : Prop :=
 ∀ (l : Nat) (J Jx : List α -> World -> Prop) (W : World), Below w.heap.size w W -> AbO T W.heap.size J -> AbO T W.heap.size Jx ->
   (∀ pre x A, J pre A -> pre.length < N -> YieldAt F (n - 1) P l (encs x) A fun e B =>
    (e = .returned (.bool true) /\ J (pre ++ [x]) B /\ Kp A B) ∨ (e = .returned (.bool false) /\ Jx (pre ++ [x]) B)) ->
   J [] W ->
   CallsIn F n P g (#[.func (.yield l) #[] #[]] ++ lb) W fun e B => (∃ v, e = .returned v) /\ ((∃ xs, S xs /\ J xs B) ∨ (∃ pre, Sp pre /\ Jx pre B))
theorem wpIn_rangeO {F : Fence} {n : Nat} {P : Program} {α : Type} {g : Operand} {ps : Array Tmp} {assign body : Code} {Q : Exit -> Act -> World -> Prop} {a : Act} {w : World}
 (hro : F.round = none) (h1 : 1 <= n) {gf : Nat} {lb : Array Value} (hg : a.eval g = .func (.func gf) #[] lb) (hFg : F.fn gf) (eg : ∀ args w, (callFunc gf args).run P w = .ok (.enter gf args) w)
 {encs : α -> Array Value} {Kp : World -> World -> Prop} {T : Nat -> Prop} {S Sp : List α -> Prop} {N : Nat} {w0 : World} (hseq : SeqStopsO F (n - 1) P gf lb encs Kp T S Sp N w0) (hT : ∀ r, T r -> r < w.heap.size)
 (hKt : ∀ {A B C : World}, Kp A B -> Kp B C -> Kp A C) (hKb : ∀ (W : World) (l : Nat) (o o' : Obj), w.heap.size <= l -> W.heap[l]? = some o -> o.isCells = false -> Kp W (W.putObj l o')) (hb0 : Below w0.heap.size w0 w) (hps : ∀ x, (encs x).size = ps.size)
 (I : List α -> World -> Prop) (Ix : Code -> List α -> World -> Prop) (hIw : AbO T w.heap.size I) (hIxw : ∀ c, AbO T w.heap.size (Ix c)) (h0 : I [] w) (Ax : α -> Act -> World -> Prop) (hAx : ∀ x a', OwnFrom w.heap.size (fun (_ : Unit) W => Ax x a' W))
 (hassign : ∀ (l : Nat) (pre : List α) (x : α) (W : World) (K : Act -> World -> Prop), I pre W -> (∀ a' W', KeepsFrom w.heap.size W W' -> Kp W W' -> I pre W' -> Ax x a' W' -> K a' W') ->
  assign.wpIn (F.inRound l) (n - 1 - 1) P (Exit.then K (fun _ _ _ => False)) { tmps := (ps.zip (encs x)).foldl (fun t (p, v) => t.setIfInBounds p v) a.tmps, defers := [] } W)
 (hbody : ∀ (l : Nat) (pre : List α) (x : α) (a' : Act) (W : World), I pre W -> Ax x a' W -> pre.length < N -> body.wpIn (F.inRound l) (n - 1 - 1) P (ownPostG w.heap.size Kp I Ix (pre ++ [x]) W) a' W)
 (hdone : ∀ (D : Nat) (xs : List α) (W : World), w.heap.size <= D -> S xs -> I xs W -> W.heap[D]? = some (.deferred (some [])) -> Q .normal { a with defers := { target := .collected D, args := #[] } :: a.defers } W)
 (hstop : ∀ (D : Nat) (c : Code) (pre : List α) (W : World), w.heap.size <= D -> Sp pre -> Ix c pre W -> W.heap[D]? = some (.deferred (some [])) -> c.wpIn F n P Q { a with defers := { target := .collected D, args := #[] } :: a.defers } W) :
 (Code.rangeFunc g ps assign body).wpIn F n P Q a w := by
 have hI : OwnFrom w.heap.size I := hIw.own
 have hIx : ∀ c, OwnFrom w.heap.size (Ix c) := fun c => (hIxw c).own
 refine wpIn_rangeFunc (fun fn hfn => ?_)
 rw [hro]
 obtain ⟨D, hD⟩ : ∃ D, D = w.heap.size := ⟨_, rfl⟩
 let R : LoopState -> Option Code -> Loop := fun st pe => { state := st, pending := pe, fn, tmps := a.tmps, params := ps, assign, body, defers := D }
 have hR : ∀ st pe, R st pe = { state := st, pending := pe, fn, tmps := a.tmps, params := ps, assign, body, defers := D } := fun _ _ => rfl
 have hent := run_enterLoop_outer (P := P) (w := w) fn a.tmps ps assign body
 rw [<- hD, <- hR] at hent
 generalize R = R at hR hent
 obtain ⟨W1, hW1⟩ : ∃ W1, (w.alloc (.deferred (some []))).alloc (.loop (R .ready none)) = W1 := ⟨_, rfl⟩
 have hB1 : BooksM D (R .ready none) W1 := by
  rw [hD, <- hW1]
  have e := World.alloc_heap_new (w.alloc (.deferred (some []))) (.loop (R .ready none))
  rw [World.size_alloc] at e
  exact ⟨e, (Below.heap_alloc _ _ _ (by simp)).trans (World.alloc_heap_new w _)⟩
 have hI1 : I [] W1 := by rw [<- hW1]; exact hI.alloc _ (hI.alloc _ h0)
 have hb1 : Below w0.heap.size w0 W1 := by
  rw [<- hW1]; exact hb0.trans ((((Below.refl _ w).alloc (Nat.le_refl _) _).alloc (by simp) _).mono hb0.size)
 have hW1s : D + 2 <= W1.heap.size := by rw [hD, <- hW1]; simp
 rw [hW1] at hent
 rw [<- hD] at hI hIx hdone hstop hKb hbody hassign hAx hIw hIxw hT
 refine ⟨_, _, W1, { target := .fn (.func gf) lb, args := #[.func (.yield (D + 1)) #[] #[]] }, W1, gf, #[.func (.yield (D + 1)) #[] #[]] ++ lb, W1, hent, ?_, ?_, ?_, fun _ => h1, ?_⟩
 ·simp only [resolve, hg]
  simp [go_sem]
 ·intro f' hf'
  simp [Target.leads] at hf'
  subst hf'
  exact hFg
 ·simp [invoke, go_sem, eg]
 have putI : ∀ {J : List α -> World -> Prop} {s : List α} {W : World} {r r' : Loop}, OwnFrom D J -> J s W -> BooksM D r W -> J s (W.putObj (D + 1) (.loop r')) := fun hJ hj hb => hJ.putObj _ hj (Nat.le_succ _) hb.1 rfl
 have hround : ∀ pre x A, (I pre A /\ BooksM D (R .ready none) A) -> pre.length < N -> YieldAt F (n - 1 - 1) P (D + 1) (encs x) A fun e B =>
  (e = .returned (.bool true) /\ (I (pre ++ [x]) B /\ BooksM D (R .ready none) B) /\ Kp A B) ∨ (e = .returned (.bool false) /\ ∃ c, Ix c (pre ++ [x]) B /\ BooksM D (R .done (some c)) B) := by
  rintro pre x A ⟨hi, hb⟩ hlen
  have hy := run_yield (P := P) (args := encs x) hb.1 (by rw [hR]; exact hps x)
  rw [hR] at hy
  refine ⟨fn, _, assign, body, hy, roundIn_of_wpIn hfn (hassign _ pre x A _ hi ?_)⟩
  intro a' A' hkf hkp hi' hax
  replace hb := hb.from hkf
  replace hi := hi'
  clear hi' hy
  refine ⟨_, run_beginRound hb.1 (by rw [hR]), ?_⟩
  have hkp0 := hkp
  clear hkp
  have hb2 := hb.put { R .ready none with state := .busy }
  refine wpIn_mono (hbody _ pre x a' _ (putI hI hi hb) ((hAx x a').putObj (s := ()) _ hax (Nat.le_succ _) hb.1 rfl) hlen) ?_
  have hk0 : Kp A' (A'.putObj (D + 1) (.loop { R .ready none with state := .busy })) := hKb _ _ _ _ (Nat.le_succ _) hb.1 rfl
  -- the end of a round
  have fin : ∀ (j : Option Code) (C : World), KeepsFrom D (A'.putObj (D + 1) (.loop { R .ready none with state := .busy })) C ->
   (Instr.endRound (D + 1) j).run P C = .ok (.bool j.isNone) (C.putObj (D + 1) (.loop (R (if j.isNone then .ready else .done) j))) /\ BooksM D { R .ready none with state := .busy } C := fun j C hk => by
   have hb3 := hb2.from hk
   have e := run_endRound (P := P) j hb3.1
   refine ⟨?_, hb3⟩
   rw [hR] at e ⊢
   exact e
  have out : ∀ (c : Code) (C : World), KeepsFrom D (A'.putObj (D + 1) (.loop { R .ready none with state := .busy })) C -> Ix c (pre ++ [x]) C ->
   (Instr.endRound (D + 1) (some c)).run P C = .ok (.bool false) (C.putObj (D + 1) (.loop (R .done (some c)))) /\ ∃ c', Ix c' (pre ++ [x]) (C.putObj (D + 1) (.loop (R .done (some c)))) /\ BooksM D (R .done (some c')) (C.putObj (D + 1) (.loop (R .done (some c)))) := fun c C hk hx => by
   obtain ⟨e, hb3⟩ := fin (some c) C hk
   exact ⟨e, c, putI (hIx c) hx hb3, hb3.put _⟩
  intro e a3 C hp
  cases e with
  | normal =>
    obtain ⟨hk3, hkp3, hi3⟩ := hp
    obtain ⟨hr, hb3⟩ := fin none C hk3
    exact ⟨_, _, hr, .inl ⟨rfl, ⟨putI hI hi3 hb3, hb3.put _⟩, hKt hkp0 (hKt (hKt hk0 hkp3) (hKb _ _ _ _ (Nat.le_succ _) hb3.1 rfl))⟩⟩
  | ret => exact ⟨_, _, (out .ret C hp.1 hp.2).1, .inr ⟨rfl, (out .ret C hp.1 hp.2).2⟩⟩
  | exit id => exact ⟨_, _, (out (.exit id) C hp.1 hp.2).1, .inr ⟨rfl, (out (.exit id) C hp.1 hp.2).2⟩⟩
  | goto t => exact ⟨_, _, (out (.goto t) C hp.1 hp.2).1, .inr ⟨rfl, (out (.goto t) C hp.1 hp.2).2⟩⟩
  | panic ch => exact hp.elim
  | outgrown => exact hp.elim
 refine (hseq (D + 1) (fun pre W => I pre W /\ BooksM D (R .ready none) W) (fun pre W => ∃ c, Ix c pre W /\ BooksM D (R .done (some c)) W) W1 hb1
  (fun s A B row hs hg' hr => ⟨hIw s A B row hs.1 hg' (fun r e => (hr r e).imp id (fun h => ⟨Nat.le_trans (by omega) h.1, h.2⟩)), hs.2.grownN hg' (fun r e => (hr r e).imp (hT r) (fun h => Nat.le_trans hW1s h.1))⟩) (fun s A B row ⟨c, hc, hb⟩ hg' hr => ⟨c, hIxw c s A B row hc hg' (fun r e => (hr r e).imp id (fun h => ⟨Nat.le_trans (by omega) h.1, h.2⟩)), hb.grownN hg' (fun r e => (hr r e).imp (hT r) (fun h => Nat.le_trans hW1s h.1))⟩) hround ⟨hI1, hB1⟩).mono ?_
 rintro e W2 ⟨⟨v, rfl⟩, (⟨xs, hS, hi, hb⟩ | ⟨pre, hSp, c, hi, hb⟩)⟩
 ·have e := run_endLoop (P := P) hb.1 (by rw [hR]; simp)
  rw [hR] at e
  exact ⟨none, _, e, hdone _ xs _ (Nat.le_refl _) hS (putI hI hi hb) ((World.putObj_heap_other (by omega)).trans hb.2)⟩
 ·have e := run_endLoop (P := P) hb.1 (by rw [hR]; simp)
  rw [hR] at e
  exact ⟨some c, _, e, hstop _ c pre _ (Nat.le_refl _) hSp (putI (hIx c) hi hb) ((World.putObj_heap_other (by omega)).trans hb.2)⟩
end
section
open Go.RowKit
def Ups (g : Nat) (W W' : World) : Prop := KpP W.heap.size (fun b => b = g) W W'
section
variable {g : Nat} {W W' W'' w : World}
theorem Ups.refl (g : Nat) (W : World) : Ups g W W := KpP.refl _ _ _
theorem Ups.of_ext (h : Ext W W') : Ups g W W' := KpP.of_ext (Nat.le_refl _) h
theorem Ups.size (h : Ups g W W') : W.heap.size <= W'.heap.size := KpP.size h
theorem Ups.trans (h : Ups g W W') (k : Ups g W' W'') : Ups g W W'' :=
 ⟨k.os.trans h.os, k.tape.trans h.tape, k.output.trans h.output, Nat.le_trans h.size k.size, fun i h1 h2 => (k.block i (Nat.lt_of_lt_of_le h1 h.size) h2).trans (h.block i h1 h2)⟩
theorem Ups.then (h : Ups g W W') (k : Ext W' W'') : Ups g W W'' := h.trans (.of_ext k)
theorem Ups.setCell (h : Ups g W W') (o : Nat) (v : Value) : Ups g W (W'.setCell ⟨g, o, none⟩ v) := KpP.setCell h (.inl rfl) o v
theorem Ups.ext (h : Ups g W W') (hw : Ext w W) (hg : w.heap.size <= g) : Ext w W' := KpP.ext h hw hw.size (fun k hk => by subst hk; exact hg)
theorem Ups.blk (h : Ups g W W') {b : Nat} {t : TypeId} {cs : Array Value} (hb : Blk W b t cs) (hne : b ≠ g) : Blk W' b t cs := KpP.blk h hb hb.lt hne
theorem Ups.cell (h : Ups g W W') {p : Addr} {v : Value} (hc : W.cell? p = some v) (hne : p.block ≠ g) : W'.cell? p = some v :=
 (World.cell?_of_block (KpP.block h p.block (cell_lt hc) hne)).trans hc
theorem Ups.rd {α : Type} {E : Elt α} {A : Option Addr} {l : List α} (h : Ups g W W') (hr : Rd E W A l) (hA : ∀ ad, A = some ad -> ad.block ≠ g) : Rd E W' A l :=
 ⟨hr.1, fun hn => by
  obtain ⟨ad, e, hb, hc⟩ := hr.2 hn
  exact ⟨ad, e, Nat.lt_of_lt_of_le hb h.size, fun j u hu => h.cell (hc j u hu) (by rw [block_of_add]; exact hA ad e)⟩⟩
theorem Ups.owns {α : Type} {E : Elt α} {base : Nat} {e : TypeId} {v : Value} {l : List α} (h : Ups g W W') (ho : Owns E W base e v l) (hg : g < base) : Owns E W' base e v l := by
 refine ⟨ho.1, ?_⟩
 rcases ho.2 with h1 | ⟨g', cap, cur, h1, hg', hh, h2⟩
 ·exact .inl h1
 ·have hlt : g' < W.heap.size := (Array.getElem?_eq_some_iff.1 hh).1
  exact .inr ⟨g', cap, cur, h1, hg', (KpP.block h g' hlt (by omega)).trans hh, h2⟩
end
end
end Go.Proofs.YtemkpimngbbpkaaGreat
