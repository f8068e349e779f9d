/- TopMirror, the example: the labels, what a round keeps. -/
import Derived.Test.YtmaengcmhopmbaaGreatTaP
import Derived.Deep.AppendLies
import Derived.Deep.LoopGhost
import Derived.Test.YtmaengcmhopmbaaGreatRgnPQ
namespace Go.Proofs.YtmaengcmhopmbaaGreat
set_option linter.unusedVariables false
set_option linter.unusedSimpArgs false
open Go.RowKit Go.Shelf
attribute [local go_sem] Oper.semAt_some

theorem wpListIn_pushL {α : Type} {E : Elt α} {F : Fence} {n : Nat} {P : Program} {w : World} {l : List α} {ops : Array Oper} {rest : List Oper} {o : Oper} {a : Act} {Q : Exit → Act → World → Prop} (hgd : o.guard = none) (s x : Operand) (t : TypeId)
    (ho : o.op = .call { callee := .builtin .append, args := #[s, x], argTypes := #[t, t] })
    (base : Nat) (e : TypeId) (i : TypeInfo) (z : Value) (bytes : Nat) (ht : P.underlying t = some (.slice e)) (hi : P.info? e = some i) (hz : i.zero = some z)
    (hsize : i.size = E.size) (hby : i.bytes = bytes) (hzs : z.cells.size = E.size)
    (v : Value) (hs : a.eval s = v) (hown : Owns E w base e v l)
    (g : Nat) (y : α) (hx : a.eval x = .slice (some ⟨g, 0, none⟩) 1 1) (hy : Blk w g e (E.cells y).toArray)
    (h63 : l.length + 1 ≤ maxLen) (hbytes : (l.length + 1) * bytes ≤ 140737488355328) (hbase : base ≤ w.heap.size)
    (h : ∀ v' w', Owns E w' base e v' (l ++ [y]) → w.grownBy w' v.ownBlock → (v'.ownBlock = v.ownBlock ∨ v'.ownBlock = some w.heap.size) → wpListIn F n P ops Q rest (a.put o.dst v') w') : wpListIn F n P ops Q (o :: rest) a w := by
  refine wpListIn_plain hgd fun K hK' => ?_
  obtain ⟨v', w', hrun, h2, h3, h4⟩ := run_append_any (P := P) w base t o.type e i z E.size bytes ht hi hz hsize hby hzs E.pos v l.length (E.all l) hown w.heap.size (some ⟨g, 0, none⟩) 1 1 (E.cells y) (reads_one hy) (E.one y) h63 hbytes hbase
  unfold Oper.wpIn
  refine ⟨?_, ?_⟩
  · simp [Oper.about, ho, resolve, Target.leads, Sem.run_pure]
  · rw [Oper.semAt_plain F _ _ (by rw [ho]; intro c hc'; cases hc')]
    simp only [execOp, ho, resolve, invoke, builtin, Sem.run_bind, Sem.run_pure, Result.andThen_ok, List.map_toArray, List.map_cons, List.map_nil, hs, hx, hrun]
    exact hK' _ _ (h v' w' (by
      unfold Owns
      rw [E.all_append, List.length_append]
      simpa [Elt.all] using h2) h3 h4)
theorem kpx_setCells {n g : Nat} : ∀ (vs : List Value) (W : World) (o : Nat), KpX n g W (W.setCells g o vs)
  | [], W, _ => KpX.refl _ _ W
  | v :: vs, W, o => (KpX.setCell (n := n) (g := g) W o v).trans (kpx_setCells vs _ (o + 1))
theorem opL_lt {L : List Lb} {j : Nat} (h : j < L.length) : (L.drop j).take 1 = [L[j]] := by rw [List.drop_eq_getElem_cons h]; rfl
theorem opL_ge {L : List Lb} {j : Nat} (h : ¬ j < L.length) : (L.drop j).take 1 = [] := by rw [List.drop_eq_nil_of_le (by omega)]; rfl
/-- Between two moves of a label. -/
def LRl (nxt : List Lb) (D : List Lb) (bo bd g b1 n : Nat) (W0 : World) (lo B : Nat) (ds : List Deferred) (pre : List Unit) (W : World) : Prop :=
  ∃ uo ud, Owns ELb W b1 134 uo (pre.flatMap (fun _ => nxt)) ∧ Blk W bo 50 #[uo] ∧ Blk W bd 50 #[ud] ∧ Owns ELb W b1 134 ud D ∧ (∀ b, uo.ownBlock = some b → ud.ownBlock ≠ some b) ∧ (∀ b, uo.ownBlock = some b → b = g ∨ n ≤ b) ∧ (∀ b, ud.ownBlock = some b → b < n) ∧ Ext W0 W ∧ DSx B lo ds W ∧ B ≤ W.heap.size
theorem LRl.ext {nxt D : List Lb} {bo bd g b1 n : Nat} {W0 : World} {lo B : Nat} {ds : List Deferred} {pre : List Unit} {W W' : World} (h : LRl nxt D bo bd g b1 n W0 lo B ds pre W) (hb : Ext W W') : LRl nxt D bo bd g b1 n W0 lo B ds pre W' := by
  obtain ⟨uo, ud, h1, h2, h3, h4, h5, h6, h7, h8, h9, h10⟩ := h
  exact ⟨uo, ud, h1.ext hb, h2.ext hb, h3.ext hb, h4.ext hb, h5, h6, h7, h8.trans hb, h9.ext hb, Nat.le_trans h10 hb.size⟩
theorem lrl_own {nxt D : List Lb} {bo bd g b1 n : Nat} {W0 : World} {lo B : Nat} {ds : List Deferred} (hB : W0.heap.size ≤ B) : OwnFrom B (LRl nxt D bo bd g b1 n W0 lo B ds) := by
  intro pre X Y row hs hg hr
  obtain ⟨uo, ud, h1, h2, h3, h4, h5, h6, h7, h8, h9, h10⟩ := hs
  exact ⟨uo, ud, h1.keptc hg (fun r e => (hr r e).2), h2.keptc hg (fun r e => (hr r e).2), h3.keptc hg (fun r e => (hr r e).2), h4.keptc hg (fun r e => (hr r e).2), h5, h6, h7, h8.keptb hg (fun r e => Nat.le_trans hB (hr r e).1), h9.kept hg (fun r e => (hr r e).1), Nat.le_trans h10 hg.size⟩

theorem cell_same {W w' : World} {b : Nat} (h : w'.heap[b]? = W.heap[b]?) (o : Nat) : w'.cell? ⟨b, o, none⟩ = W.cell? ⟨b, o, none⟩ := by simp [World.cell?, h]
/-- All cells but those of one block are as they were. -/
theorem nearB {W w' : World} {g : Nat} (h : KpX W.heap.size g W w') : KpX W.heap.size g W w' ∧ ∀ b o, b < W.heap.size → b ≠ g → w'.cell? ⟨b, o, none⟩ = W.cell? ⟨b, o, none⟩ := ⟨h, fun b o h1 h2 => cell_same (h.block b h1 h2) o⟩

theorem results_tmp1z {fn : Func} {a : Tmp} (h : fn.results = #[.tmp a]) (tmps : Array Value) (P : Program) (w : World) : (results fn tmps).run P w = .ok (tmps.getD a undef) w := by
  simp only [results, h]
  simp [Sem.run_bind, Result.andThen]
theorem flat_one {α β : Type} (z : β) : ∀ (l : List α), (l.flatMap (fun _ => [z])).length = l.length
  | [] => rfl
  | _ :: l => by rw [List.flatMap_cons, List.length_append, flat_one z l]; simp; omega
theorem keeps_ownL {α : Type} {E : Elt α} {w w' : World} {base : Nat} {e : TypeId} {v : Value} {l : List α} (ho : Owns E w base e v l) (hg : w.grownBy w' v.ownBlock) : KeepsOthers w w' := by
  refine ⟨hg.size, fun k o hk hc => ?_⟩
  have hlt : k < w.heap.size := (Array.getElem?_eq_some_iff.1 hk).1
  rw [hg.block k hlt ?_]
  · exact hk
  · intro e2
    obtain ⟨c1, f1, h1⟩ := ho.cellsZ e2.symm
    rw [hk] at h1
    injection h1 with h1
    subst h1
    cases hc
theorem alloc_ltL (w : World) (o : Obj) : w.heap.size < (w.alloc o).heap.size := by show w.heap.size < (w.heap.push o).size; rw [Array.size_push]; exact Nat.lt_succ_self _
/-- The label is put behind those that are done. -/
theorem lab_put {W5 W w6 W0 : World} {Ad : Option Addr} {cd co g bx j n0 b1 : Nat} {x : Lb} {l : List Lb} {v6 : Value} (hWW : Ext W5 W) (hWs : W5.heap.size < W.heap.size) (kd5 : Blk W5 n0 50 #[.slice Ad j cd]) (ko5 : Blk W5 (n0 + 1) 50 #[.slice (some ⟨g, 0, none⟩) 0 co])
    (kx5 : Blk W5 bx 134 #[.int .i64 x.node, .int .i64 x.fr, .int .i64 x.til, .int .i64 x.tm]) (ho5 : Owns ELb W5 b1 134 (.slice (some ⟨g, 0, none⟩) 0 co) []) (hd5 : Owns ELb W5 b1 134 (.slice Ad j cd) l) (hl : l.length = j) (hdis : ∀ b, (Value.slice Ad j cd).ownBlock = some b → b ≠ g)
    (hbx : ∀ b, (Value.slice Ad j cd).ownBlock = some b → b ≠ bx) (hE5 : Ext W0 W5) (hn0 : W0.heap.size = n0) (hb1 : n0 + 2 ≤ b1)
    (hv6 : Owns ELb w6 b1 134 v6 (l ++ [x])) (hg6 : W.grownBy w6 (Value.slice Ad j cd).ownBlock) (hat : v6.ownBlock = (Value.slice Ad j cd).ownBlock ∨ v6.ownBlock = some W.heap.size) :
    ∃ A6 d6 W7, v6 = .slice A6 (j + 1) d6 ∧ w6.setCell ⟨n0, 0, none⟩ (.slice A6 (j + 1) d6) = W7 ∧ Blk w6 n0 50 #[.slice Ad j cd] ∧ Blk W7 n0 50 #[.slice A6 (j + 1) d6] ∧ Blk W7 (n0 + 1) 50 #[.slice (some ⟨g, 0, none⟩) 0 co] ∧ Blk W7 bx 134 #[.int .i64 x.node, .int .i64 x.fr, .int .i64 x.til, .int .i64 x.tm] ∧
      Owns ELb W7 b1 134 (.slice (some ⟨g, 0, none⟩) 0 co) [] ∧ Owns ELb W7 b1 134 (.slice A6 (j + 1) d6) (l ++ [x]) ∧ Ext W0 W7 ∧ W5.heap.size ≤ W7.heap.size ∧ KeepsOthers W5 W7 ∧ (∀ b, (Value.slice A6 (j + 1) d6).ownBlock = some b → b ≠ g ∧ b < W7.heap.size) := by
  obtain ⟨A6, d6, rfl, hR6⟩ := hv6.form
  have hd := hd5.ext hWW
  have kd6 := Blk.kepttZ (kd5.ext hWW) hd (by decide) hg6
  have ko6 := Blk.kepttZ (ko5.ext hWW) hd (by decide) hg6
  have kx6 := Blk.kept (kx5.ext hWW) hg6 (fun e' => hbx bx e'.symm rfl)
  have ho6 := (ho5.ext hWW).kept hg6 (fun b hb e => hdis b e.symm (by injection hb with hb; exact hb.symm))
  have hE6 := ext_grown (hE5.trans hWW) hd (by omega) hg6
  have hk6 := hWW.keeps.trans (keeps_ownL hd hg6)
  simp only [List.length_append, List.length_cons, List.length_nil, Nat.zero_add, hl] at hv6 hat ⊢
  have hgs := hg6.size
  refine ⟨A6, d6, _, rfl, rfl, kd6, kd6.set0 _, ko6.far (by simp) _, ?_, ho6.setZ kd6 (by decide) 0 _, hv6.setZ kd6 (by decide) 0 _, hE6.setCell (by show W0.heap.size ≤ n0; omega) _, by simp [World.setCell]; omega, hk6.trans (KeepsOthers.setCell _ _ _), ?_⟩
  · refine kx6.far ?_ _
    intro e
    dsimp only at e
    subst e
    have h1 : W5.heap[bx]? = some (.cells _ 50 (0, 0)) := kd5
    have h2 : W5.heap[bx]? = some (.cells _ 134 (0, 0)) := kx5
    rw [h1] at h2
    injection h2 with h2
    injection h2 with _ h2
    exact absurd h2 (by decide)
  · intro b hb
    have hs := (hv6.block hb).2
    refine ⟨?_, by simp [World.setCell]; exact hs⟩
    rcases hat with h | h
    · exact hdis b (by rw [← h]; exact hb)
    · rw [h] at hb
      injection hb with hb
      have := (ho5.block (g := g) rfl).2
      omega
/-- A move's label is put among the open ones. -/
theorem lrl_put {nxt D : List Lb} {bo bd g b1 n lo B : Nat} {W0 W wq w6 : World} {ds : List Deferred} {pre : List Unit} {y : Lb} {uo ud v6 : Value} (u : Unit) (hn : nxt = [y])
    (h1 : Owns ELb W b1 134 uo (pre.flatMap (fun _ => nxt))) (h2 : Blk W bo 50 #[uo]) (h3 : Blk W bd 50 #[ud]) (h4 : Owns ELb W b1 134 ud D) (h5 : ∀ b, uo.ownBlock = some b → ud.ownBlock ≠ some b) (h6 : ∀ b, uo.ownBlock = some b → b = g ∨ n ≤ b) (h7 : ∀ b, ud.ownBlock = some b → b < n) (h8 : Ext W0 W) (h9 : DSx B lo ds W) (h10 : B ≤ W.heap.size)
    (hx : Ext W wq) (hbo : bo ≠ bd) (hW0 : W0.heap.size ≤ bo) (hb1 : W0.heap.size ≤ b1) (hnB : n ≤ B)
    (hv6 : Owns ELb w6 b1 134 v6 (pre.flatMap (fun _ => nxt) ++ [y])) (hg6 : wq.grownBy w6 uo.ownBlock) (hat : v6.ownBlock = uo.ownBlock ∨ v6.ownBlock = some wq.heap.size) :
    Blk w6 bo 50 #[uo] ∧ KeepsFrom B W (w6.setCell ⟨bo, 0, none⟩ v6) ∧ KpP n (fun b => b = bo ∨ b = g) W (w6.setCell ⟨bo, 0, none⟩ v6) ∧ LRl nxt D bo bd g b1 n W0 lo B ds (pre ++ [u]) (w6.setCell ⟨bo, 0, none⟩ v6) := by
  have ho := h1.ext hx
  have ko6 := Blk.kepttZ (h2.ext hx) ho (by decide) hg6
  have kd6 := Blk.kepttZ (h3.ext hx) ho (by decide) hg6
  have hd6 := (h4.ext hx).kept hg6 (fun b hb e => h5 b e.symm hb)
  have hE6 := ext_grown (h8.trans hx) ho hb1 hg6
  have hk6 := hx.keeps.trans (keeps_ownL ho hg6)
  have hkk := hk6.trans (KeepsOthers.setCell w6 ⟨bo, 0, none⟩ v6)
  have hgs := hg6.size
  have hxs := hx.size
  refine ⟨ko6, hkk.from _, ?_, v6, ud, ?_, ko6.set0 _, kd6.far (by simpa using hbo.symm) _, hd6.setZ ko6 (by decide) 0 _, ?_, ?_, h7, hE6.setCell hW0 _, h9.keeps hkk, Nat.le_trans h10 hkk.size⟩
  · refine KpP.setCell (KpP.trans (KpP.of_ext (by omega) hx) ⟨hg6.os, hg6.tape, hg6.output, hgs, fun k hk hs => hg6.block k (by omega) (fun e => ?_)⟩) (.inl (.inl rfl)) _ _
    rcases h6 k e.symm with e2 | e2
    · exact hs (.inr e2)
    · omega
  · have e : (pre ++ [u]).flatMap (fun _ => nxt) = pre.flatMap (fun _ => nxt) ++ [y] := by rw [List.flatMap_append, hn]; simp
    rw [e]
    exact hv6.setZ ko6 (by decide) 0 _
  · intro b hb
    rcases hat with h | h
    · exact h5 b (by rw [← h]; exact hb)
    · rw [h] at hb
      injection hb with hb
      intro e
      have := h7 b e
      omega
  · intro b hb
    rcases hat with h | h
    · exact h6 b (by rw [← h]; exact hb)
    · rw [h] at hb
      injection hb with hb
      exact .inr (by omega)
/-- A move to where the bundle is to go. -/
theorem lrl_same {nxt D : List Lb} {bo bd g b1 n lo B : Nat} {W0 W wq : World} {ds : List Deferred} {pre : List Unit} (u : Unit) (hn : nxt = []) (h : LRl nxt D bo bd g b1 n W0 lo B ds pre W) (hx : Ext W wq) (hnB : n ≤ W.heap.size) :
    KeepsFrom B W wq ∧ KpP n (fun b => b = bo ∨ b = g) W wq ∧ LRl nxt D bo bd g b1 n W0 lo B ds (pre ++ [u]) wq := by
  refine ⟨hx.keeps.from _, KpP.of_ext hnB hx, ?_⟩
  have e : (pre ++ [u]).flatMap (fun _ => nxt) = pre.flatMap (fun _ => nxt) := by rw [List.flatMap_append, hn]; simp
  unfold LRl
  rw [e]
  exact h.ext hx

end Go.Proofs.YtmaengcmhopmbaaGreat
