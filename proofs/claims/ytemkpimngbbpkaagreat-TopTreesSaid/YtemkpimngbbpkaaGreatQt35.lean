/- The example of the chapters' last parts: its plan, its request, its tree, plain. · The example of the chapters' last parts: its plan, walked. · TopMirror, the example: the labels, what a round keeps. · TopMirror, the example: the labels. · search.Arrival along a chain of labels; at the example of the chapters' last parts. -/
import Derived.Laws.ResultCell
import Derived.Deep.AppendLies
import Derived.Deep.LoopGhost
import Derived.Test.YtemkpimngbbpkaaGreatQt03
import Derived.Test.YtemkpimngbbpkaaGreatQt27
namespace Go.Proofs.YtemkpimngbbpkaaGreat
set_option linter.unusedVariables false
set_option linter.unusedSimpArgs false
section
open Go.RowKit Go.Shelf
def exP5 : Pln := ⟨[100, 100, 100], [⟨0, 1, 5, 45, 24, 2, 0⟩, ⟨1, 2, 10, 50, 24, 2, 0⟩]⟩
def exQ5 : Req := ⟨0, 2, 16, 0, 100, 0, false⟩
def exB5 : List Br := [⟨0, 5, 6, 8, -1⟩, ⟨1, 10, 11, 13, 0⟩]
def exT5 : List Int := [0, 8, 13, -1, -1, -1, -1, -1, -1, -1, -1, -1, -1, -1, -1, -1]
def exT51 : List Int := [0, 8, -1, -1, -1, -1, -1, -1, -1, -1, -1, -1, -1, -1, -1, -1]
theorem exP5_chk : exP5.chk = 0 := by kernel_rfl
theorem exF5 : fineR exP5 exQ5 = true := by kernel_rfl
theorem exM5 : memsB exP5.quo.length exQ5.src [1, 2] = true := by kernel_rfl
theorem exGC5 : GC exP5 [] exQ5 := ⟨by kernel_rfl, by decide, by decide⟩
theorem exE51 : exP5.EarlP [] exQ5 (startL exQ5) exT5 := ⟨⟨2, by kernel_rfl⟩, by kernel_rfl⟩
theorem exE52 : exP5.EarlP [] exQ5 exT51 exT5 := ⟨⟨1, by kernel_rfl⟩, by kernel_rfl⟩
theorem exW51 : (exP5.wayF [] exQ5 (startL exQ5) exT5 17 1).reverse.foldl exP5.addB ([], startL exQ5) = (exB5.take 1, exT51) := by kernel_rfl
theorem exW52 : (exP5.wayF [] exQ5 exT51 exT5 17 2).reverse.foldl exP5.addB (exB5.take 1, exT51) = (exB5, exT5) := by kernel_rfl
theorem ex_grow5 {r : Option (List Br × List Int)} (h : exP5.GrowR [] exQ5 [1, 2] ([], startL exQ5) r) : r = some (exB5, exT5) := by
 rw [Pln.GrowR, if_neg (by decide)] at h
 obtain ⟨T, h1, h2⟩ := h
 rw [EarlP.unique exGC5 (by decide) h1 exE51, if_neg (by decide), exW51, Pln.GrowR, if_neg (by decide)] at h2
 obtain ⟨T2, h3, h4⟩ := h2
 rw [EarlP.unique exGC5 (by decide) h3 exE52, if_neg (by decide), exW52, Pln.GrowR] at h4
 exact h4
theorem ex_grow5_call (Aq Ac Am : Option Addr) (cq cc cm : Nat) (w : World) (h : PlnRd w Aq cq Ac cc exP5) (hm : Rd EInt w Am [1, 2]) :
 Calls Tryz.prog 26 #[.agg #[.slice Aq 3 cq, .slice Ac 2 cc, .slice none 0 0, .slice none 0 0], .agg #[.int .i64 0, .int .i64 2, .int .i64 16, .int .i64 0, .int .i64 100, .int .i64 0, .bool false], .slice Am 2 cm] w fun e w' => ∃ A c B d, e = .returned (.tuple #[.slice A 2 c, .slice B 2 d, .int .i64 0]) /\ Ext w w' := by
 have h1 := Grow_any Aq cq Ac cc exP5 none 0 [] none 0 0 exQ5 Am cm [1, 2] 0 w h Rd.nil hm (by decide) (tabC_nil Aq cq Ac cc exP5 w h exP5_chk)
 refine Calls.mono h1 (fun e w' hh => ?_)
 obtain ⟨hE, ⟨_, r, hr, hs⟩ | ⟨hn, _⟩⟩ := hh
 ·obtain rfl := ex_grow5 hr
  obtain ⟨u, v, rfl, hu, hv, _⟩ := hs
  obtain ⟨A, c, rfl, hA⟩ := hu.form
  obtain ⟨B, d, rfl, hB⟩ := hv.form
  exact ⟨A, c, B, d, rfl, hE⟩
 ·exact (hn ⟨rfl, exF5, exM5⟩).elim
end
section
open Go.RowKit Go.Shelf
theorem blk_fars5 : ∀ (vs : List Value) {w : World} {g g' : Nat} {t : TypeId} {cs : Array Value} (_ : Blk w g t cs) (_ : g ≠ g') (o : Nat), Blk (w.setCells g' o vs) g t cs
 | [], _, _, _, _, _, h, _, _ => h
 | v :: vs, _, _, g', _, _, h, hn, o => blk_fars5 vs (h.far (p := ⟨g', o, none⟩) hn v) hn (o + 1)
set_option maxHeartbeats 4000000 in
theorem plan5c_any (a b c : Int) (w : World) (h0 : 0 <= c) (h1 : c <= 1000) : Calls Tryz.prog 120 #[.int .i64 a, .int .i64 b, .int .i64 c] w fun e w' => e = .returned (.agg #[.int .i64 a, .int .i64 b, .int .i64 c, .int .i64 (c + 40), .int .i64 24, .int .i64 2, .int .i64 0]) /\ Ext w w' := by
 obtain ⟨W, hW, hB, hk, hlt⟩ := box1 w #[.int .i64 0, .int .i64 0, .int .i64 0, .int .i64 0, .int .i64 0, .int .i64 0, .int .i64 0] 61
 have hc := hk.cell
 have hf := hk.frozen
 obtain ⟨w7, hw7, hz7, hE7⟩ : ∃ w7, W.setCells w.heap.size 0 [.int .i64 a, .int .i64 b, .int .i64 c, .int .i64 (c + 40), .int .i64 24, .int .i64 2, .int .i64 0] = w7 /\ Blk w7 w.heap.size 61 #[.int .i64 a, .int .i64 b, .int .i64 c, .int .i64 (c + 40), .int .i64 24, .int .i64 2, .int .i64 0] /\ Ext w w7 :=
  ⟨_, rfl, hk.setCells_ [.int .i64 a, .int .i64 b, .int .i64 c, .int .i64 (c + 40), .int .i64 24, .int .i64 2, .int .i64 0] 0, ext_setCells hB (by omega) 0 _⟩
 simp only [World.setCells, Nat.zero_add, Nat.reduceAdd] at hw7
 go_enter Tryz.func120, Tryz.ntmps120
 go_wp2
 have hc7 := hz7.cell
 refine bodyPost_ret (v := .agg #[.int .i64 a, .int .i64 b, .int .i64 c, .int .i64 (c + 40), .int .i64 24, .int .i64 2, .int .i64 0]) (by rw [results_cell1 rfl]; simp [asAddr, Result.andThen, hc7, go_sem]) rfl ?_
 exact ⟨rfl, hE7⟩
theorem ex5_cons : (ECon.all exP5.cons).toArray = #[.int .i64 0, .int .i64 1, .int .i64 5, .int .i64 45, .int .i64 24, .int .i64 2, .int .i64 0, .int .i64 1, .int .i64 2, .int .i64 10, .int .i64 50, .int .i64 24, .int .i64 2, .int .i64 0] := by kernel_rfl
set_option maxRecDepth 100000 in
set_option maxHeartbeats 4000000 in
theorem plan5_any (w : World) : Calls Tryz.prog 42 #[] w fun e w' => ∃ Aq b o, e = .returned (.agg #[.slice Aq 3 3, .slice (some ⟨b, o, none⟩) 2 2]) /\ PlnRd w' Aq 3 (some ⟨b, o, none⟩) 2 exP5 /\ Ext w w' := by
 have h1 := fun w => plan5c_any 0 1 5 w (by omega) (by omega)
 have h2 := fun w => plan5c_any 1 2 10 w (by omega) (by omega)
 simp only [Int.reduceAdd] at h1 h2
 obtain ⟨W0, hW0, hB0, hk0, hl0⟩ := box1 w #[.slice none 0 0, .slice none 0 0] 68
 obtain ⟨W1, hW1, hB1, hk1, hl1⟩ := box1 W0 #[.int .i64 100, .int .i64 100, .int .i64 100] 3
 go_enter Tryz.func42, Tryz.ntmps42
 go_wp2_with fail
 clear hW0 hW1
 refine (h1 _).mono ?_
 rintro e w2 ⟨rfl, hb2⟩
 go_wp2_with fail
 refine (h2 _).mono ?_
 rintro e w3 ⟨rfl, hb3⟩
 obtain ⟨W4, hW4, hB4, hk4, hl4⟩ := box1 w3 #[.int .i64 0, .int .i64 1, .int .i64 5, .int .i64 45, .int .i64 24, .int .i64 2, .int .i64 0, .int .i64 1, .int .i64 2, .int .i64 10, .int .i64 50, .int .i64 24, .int .i64 2, .int .i64 0] 61
 have b24 := (hb2.trans hb3).trans hB4
 have k0 := (hk0.ext hB1).ext b24
 have k1 := hk1.ext b24
 have hE4 := (hB0.trans hB1).trans b24
 have f0 := k0.frozen
 have l0 := k0.lt
 have c0 := k0.cell
 have z0 := hB0.size
 have z1 := hB1.size
 have z2 := b24.size
 have z3 := (hb2.trans hb3).size
 have hn1 : W0.heap.size ≠ w.heap.size := by omega
 have hn2 : w3.heap.size ≠ w.heap.size := by omega
 obtain ⟨w8, hw8, hz8, hE8, y1, y4⟩ : ∃ w8, W4.setCells w.heap.size 0 [.slice (some ⟨W0.heap.size, 0, none⟩) 3 3, .slice (some ⟨w3.heap.size, 0, none⟩) 2 2] = w8 /\ Blk w8 w.heap.size 68 #[.slice (some ⟨W0.heap.size, 0, none⟩) 3 3, .slice (some ⟨w3.heap.size, 0, none⟩) 2 2] /\ Ext w w8 /\ Blk w8 W0.heap.size 3 _ /\ Blk w8 w3.heap.size 61 _ :=
  ⟨_, rfl, k0.setCells_ [.slice (some ⟨W0.heap.size, 0, none⟩) 3 3, .slice (some ⟨w3.heap.size, 0, none⟩) 2 2] 0, ext_setCells hE4 (by omega) 0 _, blk_fars5 _ k1 hn1 0, blk_fars5 _ hk4 hn2 0⟩
 simp only [World.setCells, Nat.zero_add, Nat.reduceAdd] at hw8
 clear hn1 hn2 z0 z1 z2 z3 k1
 go_wp2
 have c9 := hz8.cell
 refine bodyPost_ret (v := .agg #[.slice (some ⟨W0.heap.size, 0, none⟩) 3 3, .slice (some ⟨w3.heap.size, 0, none⟩) 2 2]) (by rw [results_cell1 rfl]; simp [asAddr, Result.andThen, c9, go_sem]) rfl ?_
 exact ⟨_, _, _, rfl, ⟨rd_blk (l := [100, 100, 100]) (e := 3) y1, rd_blk (l := exP5.cons) (e := 61) (by rw [ex5_cons]; exact y4), by simp [exP5], by simp [exP5], by simp [exP5], by simp [exP5]⟩, hE8⟩
end
section
open Go.RowKit Go.Shelf
attribute [local go_sem] Oper.semAt_some
theorem kpx_setCells {n g : Nat} : ∀ (vs : List Value) (W : World) (o : Nat), KpX n g W (W.setCells g o vs)
 | [], W, _ => KpX.refl _ _ W
 | v :: vs, W, o => (KpX.setCell (n := n) (g := g) W o v).trans (kpx_setCells vs _ (o + 1))
theorem opL_lt {L : List Lb} {j : Nat} (h : j < L.length) : (L.drop j).take 1 = [L[j]] := by rw [List.drop_eq_getElem_cons h]; rfl
theorem opL_ge {L : List Lb} {j : Nat} (h : ¬ j < L.length) : (L.drop j).take 1 = [] := by rw [List.drop_eq_nil_of_le (by omega)]; rfl
def LRlM (nxt : List Lb) (D : List Lb) (bo bd g b1 n : Nat) (W0 : World) (lo B : Nat) (ds : List Deferred) (pre : List Unit) (W : World) : Prop :=
 ∃ uo ud, Owns ELb W b1 308 uo (pre.flatMap (fun _ => nxt)) /\ Blk W bo 229 #[uo] /\ Blk W bd 229 #[ud] /\ Owns ELb W b1 308 ud D /\ (∀ b, uo.ownBlock = some b -> ud.ownBlock ≠ some b) /\ (∀ b, uo.ownBlock = some b -> b = g ∨ n <= b) /\ (∀ b, ud.ownBlock = some b -> b < n) /\ Ext W0 W /\ DSx B lo ds W /\ B <= W.heap.size
theorem LRlM.ext {nxt D : List Lb} {bo bd g b1 n : Nat} {W0 : World} {lo B : Nat} {ds : List Deferred} {pre : List Unit} {W W' : World} (h : LRlM nxt D bo bd g b1 n W0 lo B ds pre W) (hb : Ext W W') : LRlM nxt D bo bd g b1 n W0 lo B ds pre W' := by
 obtain ⟨uo, ud, h1, h2, h3, h4, h5, h6, h7, h8, h9, h10⟩ := h
 exact ⟨uo, ud, h1.ext hb, h2.ext hb, h3.ext hb, h4.ext hb, h5, h6, h7, h8.trans hb, h9.ext hb, Nat.le_trans h10 hb.size⟩
theorem lrl_ownM {nxt D : List Lb} {bo bd g b1 n : Nat} {W0 : World} {lo B : Nat} {ds : List Deferred} (hB : W0.heap.size <= B) : OwnFrom B (LRlM nxt D bo bd g b1 n W0 lo B ds) := by
 intro pre X Y row hs hg hr
 obtain ⟨uo, ud, h1, h2, h3, h4, h5, h6, h7, h8, h9, h10⟩ := hs
 exact ⟨uo, ud, h1.keptc hg (fun r e => (hr r e).2), h2.keptc hg (fun r e => (hr r e).2), h3.keptc hg (fun r e => (hr r e).2), h4.keptc hg (fun r e => (hr r e).2), h5, h6, h7, h8.keptb hg (fun r e => Nat.le_trans hB (hr r e).1), h9.kept hg (fun r e => (hr r e).1), Nat.le_trans h10 hg.size⟩
theorem results_tmp1z {fn : Func} {a : Tmp} (h : fn.results = #[.tmp a]) (tmps : Array Value) (P : Program) (w : World) : (results fn tmps).run P w = .ok (tmps.getD a undef) w := by
 simp only [results, h]
 simp [Sem.run_bind, Result.andThen]
theorem flat_one {α β : Type} (z : β) : ∀ (l : List α), (l.flatMap (fun _ => [z])).length = l.length
 | [] => rfl
 | _ :: l => by rw [List.flatMap_cons, List.length_append, flat_one z l]; simp; omega
theorem lab_put {W5 W w6 W0 : World} {Ad : Option Addr} {cd co g bx j n0 b1 : Nat} {x : Lb} {l : List Lb} {v6 : Value} (hWW : Ext W5 W) (hWs : W5.heap.size < W.heap.size) (kd5 : Blk W5 n0 229 #[.slice Ad j cd]) (ko5 : Blk W5 (n0 + 1) 229 #[.slice (some ⟨g, 0, none⟩) 0 co])
 (kx5 : Blk W5 bx 308 #[.int .i64 x.node, .int .i64 x.fr, .int .i64 x.til, .int .i64 x.tm]) (ho5 : Owns ELb W5 b1 308 (.slice (some ⟨g, 0, none⟩) 0 co) []) (hd5 : Owns ELb W5 b1 308 (.slice Ad j cd) l) (hl : l.length = j) (hdis : ∀ b, (Value.slice Ad j cd).ownBlock = some b -> b ≠ g)
 (hbx : ∀ b, (Value.slice Ad j cd).ownBlock = some b -> b ≠ bx) (hE5 : Ext W0 W5) (hn0 : W0.heap.size = n0) (hb1 : n0 + 2 <= b1)
 (hv6 : Owns ELb w6 b1 308 v6 (l ++ [x])) (hg6 : W.grownBy w6 (Value.slice Ad j cd).ownBlock) (hat : v6.ownBlock = (Value.slice Ad j cd).ownBlock ∨ v6.ownBlock = some W.heap.size) :
 ∃ A6 d6 W7, v6 = .slice A6 (j + 1) d6 /\ w6.setCell ⟨n0, 0, none⟩ (.slice A6 (j + 1) d6) = W7 /\ Blk w6 n0 229 #[.slice Ad j cd] /\ Blk W7 n0 229 #[.slice A6 (j + 1) d6] /\ Blk W7 (n0 + 1) 229 #[.slice (some ⟨g, 0, none⟩) 0 co] /\ Blk W7 bx 308 #[.int .i64 x.node, .int .i64 x.fr, .int .i64 x.til, .int .i64 x.tm] /\
   Owns ELb W7 b1 308 (.slice (some ⟨g, 0, none⟩) 0 co) [] /\ Owns ELb W7 b1 308 (.slice A6 (j + 1) d6) (l ++ [x]) /\ Ext W0 W7 /\ W5.heap.size <= W7.heap.size /\ KeepsOthers W5 W7 /\ (∀ b, (Value.slice A6 (j + 1) d6).ownBlock = some b -> b ≠ g /\ b < W7.heap.size) := by
 obtain ⟨A6, d6, rfl, hR6⟩ := hv6.form
 have hd := hd5.ext hWW
 have kd6 := Blk.kepttZ (kd5.ext hWW) hd (by decide) hg6
 have ko6 := Blk.kepttZ (ko5.ext hWW) hd (by decide) hg6
 have kx6 := Blk.kept (kx5.ext hWW) hg6 (fun e' => hbx bx e'.symm rfl)
 have ho6 := (ho5.ext hWW).kept hg6 (fun b hb e => hdis b e.symm (by injection hb with hb; exact hb.symm))
 have hE6 := ext_grown (hE5.trans hWW) hd (by omega) hg6
 have hk6 := hWW.keeps.trans (keeps_ownL hd hg6)
 simp only [List.length_append, List.length_cons, List.length_nil, Nat.zero_add, hl] at hv6 hat ⊢
 have hgs := hg6.size
 refine ⟨A6, d6, _, rfl, rfl, kd6, kd6.set0 _, ko6.far (by simp) _, ?_, ho6.setZ kd6 (by decide) 0 _, hv6.setZ kd6 (by decide) 0 _, hE6.setCell (by show W0.heap.size <= n0; omega) _, by simp [World.setCell]; omega, hk6.trans (KeepsOthers.setCell _ _ _), ?_⟩
 ·refine kx6.far ?_ _
  intro e
  dsimp only at e
  subst e
  have h1 : W5.heap[bx]? = some (.cells _ 229 (0, 0)) := kd5
  have h2 : W5.heap[bx]? = some (.cells _ 308 (0, 0)) := kx5
  rw [h1] at h2
  injection h2 with h2
  injection h2 with _ h2
  exact absurd h2 (by decide)
 ·intro b hb
  have hs := (hv6.block hb).2
  refine ⟨?_, by simp [World.setCell]; exact hs⟩
  rcases hat with h | h
  ·exact hdis b (by rw [<- h]; exact hb)
  ·rw [h] at hb
   injection hb with hb
   have := (ho5.block (g := g) rfl).2
   omega
theorem lrl_putM {nxt D : List Lb} {bo bd g b1 n lo B : Nat} {W0 W wq w6 : World} {ds : List Deferred} {pre : List Unit} {y : Lb} {uo ud v6 : Value} (u : Unit) (hn : nxt = [y])
 (h1 : Owns ELb W b1 308 uo (pre.flatMap (fun _ => nxt))) (h2 : Blk W bo 229 #[uo]) (h3 : Blk W bd 229 #[ud]) (h4 : Owns ELb W b1 308 ud D) (h5 : ∀ b, uo.ownBlock = some b -> ud.ownBlock ≠ some b) (h6 : ∀ b, uo.ownBlock = some b -> b = g ∨ n <= b) (h7 : ∀ b, ud.ownBlock = some b -> b < n) (h8 : Ext W0 W) (h9 : DSx B lo ds W) (h10 : B <= W.heap.size)
 (hx : Ext W wq) (hbo : bo ≠ bd) (hW0 : W0.heap.size <= bo) (hb1 : W0.heap.size <= b1) (hnB : n <= B)
 (hv6 : Owns ELb w6 b1 308 v6 (pre.flatMap (fun _ => nxt) ++ [y])) (hg6 : wq.grownBy w6 uo.ownBlock) (hat : v6.ownBlock = uo.ownBlock ∨ v6.ownBlock = some wq.heap.size) :
 Blk w6 bo 229 #[uo] /\ KeepsFrom B W (w6.setCell ⟨bo, 0, none⟩ v6) /\ KpP n (fun b => b = bo ∨ b = g) W (w6.setCell ⟨bo, 0, none⟩ v6) /\ LRlM nxt D bo bd g b1 n W0 lo B ds (pre ++ [u]) (w6.setCell ⟨bo, 0, none⟩ v6) := by
 have ho := h1.ext hx
 have ko6 := Blk.kepttZ (h2.ext hx) ho (by decide) hg6
 have kd6 := Blk.kepttZ (h3.ext hx) ho (by decide) hg6
 have hd6 := (h4.ext hx).kept hg6 (fun b hb e => h5 b e.symm hb)
 have hE6 := ext_grown (h8.trans hx) ho hb1 hg6
 have hk6 := hx.keeps.trans (keeps_ownL ho hg6)
 have hkk := hk6.trans (KeepsOthers.setCell w6 ⟨bo, 0, none⟩ v6)
 have hgs := hg6.size
 have hxs := hx.size
 refine ⟨ko6, hkk.from _, ?_, v6, ud, ?_, ko6.set0 _, kd6.far (by simpa using hbo.symm) _, hd6.setZ ko6 (by decide) 0 _, ?_, ?_, h7, hE6.setCell hW0 _, h9.keeps hkk, Nat.le_trans h10 hkk.size⟩
 ·refine KpP.setCell (KpP.trans (KpP.of_ext (by omega) hx) ⟨hg6.os, hg6.tape, hg6.output, hgs, fun k hk hs => hg6.block k (by omega) (fun e => ?_)⟩) (.inl (.inl rfl)) _ _
  rcases h6 k e.symm with e2 | e2
  ·exact hs (.inr e2)
  ·omega
 ·have e : (pre ++ [u]).flatMap (fun _ => nxt) = pre.flatMap (fun _ => nxt) ++ [y] := by rw [List.flatMap_append, hn]; simp
  rw [e]
  exact hv6.setZ ko6 (by decide) 0 _
 ·intro b hb
  rcases hat with h | h
  ·exact h5 b (by rw [<- h]; exact hb)
  ·rw [h] at hb
   injection hb with hb
   intro e
   have := h7 b e
   omega
 ·intro b hb
  rcases hat with h | h
  ·exact h6 b (by rw [<- h]; exact hb)
  ·rw [h] at hb
   injection hb with hb
   exact .inr (by omega)
theorem lrl_sameM {nxt D : List Lb} {bo bd g b1 n lo B : Nat} {W0 W wq : World} {ds : List Deferred} {pre : List Unit} (u : Unit) (hn : nxt = []) (h : LRlM nxt D bo bd g b1 n W0 lo B ds pre W) (hx : Ext W wq) (hnB : n <= W.heap.size) :
 KeepsFrom B W wq /\ KpP n (fun b => b = bo ∨ b = g) W wq /\ LRlM nxt D bo bd g b1 n W0 lo B ds (pre ++ [u]) wq := by
 refine ⟨hx.keeps.from _, KpP.of_ext hnB hx, ?_⟩
 have e : (pre ++ [u]).flatMap (fun _ => nxt) = pre.flatMap (fun _ => nxt) := by rw [List.flatMap_append, hn]; simp
 unfold LRlM
 rw [e]
 exact h.ext hx
end
section
open Go.RowKit Go.Shelf
attribute [local go_sem] Oper.semAt_some
open Go.Sort in
theorem wpIn_region_quiet_below_round {F : Fence} {n : Nat} {P : Program} {Q : Exit -> Act -> World -> Prop} {l0 id : Nat} {a : Act} {w : World} {l : List Oper} (hro : F.round = none) (hm : P.follows .mixedOrders = true) (hB : Region.lexB .any l.toArray = true) (hd : noDefer l = true)
 (h : wpQuietIn F n P l.toArray (fun w' => ∃ p : Regrown, w' = grow (redrawn w p.d) p.os) (fun a' => ∀ w', (∃ p : Regrown, w' = grow (redrawn w p.d) p.os) -> Q .normal a' w') l a) : (Code.region id l.toArray true).wpIn (F.inRound l0) n P Q a w := by
 simp only [Region.lexB, Bool.and_eq_true] at hB
 refine wpIn_region_any hm (wpAnyIn_round l0 hro hd _ _ _ _ (wpAnyIn_of_quiet (C := fun w' => ∃ p : Regrown, w' = grow (redrawn w p.d) p.os) (Q := fun a' => ∀ w', (∃ p : Regrown, w' = grow (redrawn w p.d) p.os) -> Q .normal a' w') hro (fun _ w' hw' h => h w' hw') _ _ _ _ ⟨⟨w.drawn + 1, #[]⟩, by rw [grow_empty]; rfl⟩ ?_))
 have := wpAnyQIn_lex (F := F) (n := n) (C := fun w' => ∃ p : Regrown, w' = grow (redrawn w p.d) p.os) (md := .any) hB.1 l.toArray.toList 0 (Array.replicate l.toArray.size false) a (by simp) (by simpa using hB.2) (by simpa using h)
 simpa using this
set_option maxRecDepth 100000 in
set_option maxHeartbeats 16000000 in
theorem labels_any (Aq : Option Addr) (cq : Nat) (Ac : Option Addr) (cc : Nat) (p : Pln) (q : Req) (base B : Nat) (L : List Lb) (f : Nat -> Nat × Con) (w : World) (h : PlnRd w Aq cq Ac cc p) (hg : GAt Aq cq Ac cc p q base w B) (C : LbCh p q L f) :
 Calls Tryz.prog 123 #[.pointer (some ⟨B, 0, none⟩)] w fun e w' => ∃ u, e = .returned u /\ Owns ELb w' w.heap.size 308 u L /\ Ext w w' := by
 obtain ⟨i0, hi0, hz0, hz1, hz2⟩ := info_parts info_lb
 obtain ⟨W0, hW0, hB0, hk0, hl0⟩ := box1 w #[.pointer (some ⟨B, 0, none⟩)] 224
 obtain ⟨W1, hW1, hB1, hkd, hko, hl1, hl1'⟩ := box2 W0 #[.slice none 0 0] #[.slice none 0 0] 229 229
 have hE1 := hB0.trans hB1
 obtain ⟨Ag, Ar, Ad, cg, cr, cd, LG, LR, kB, hLG, hLR, hDU, e5, e6, e7, e8⟩ := hg.out
 unfold gcells at kB
 have hcm := h.cm
 have hsr := C.src
 obtain ⟨br, or_, rfl, hbr, hcr⟩ := (hLR.ext hE1).sl (k := q.src.toNat) (by omega)
 obtain ⟨e1, hu⟩ := e8 q.src.toNat (by omega)
 rw [e1] at hcr
 generalize LR[q.src.toNat] = y at *
 obtain ⟨bs, os, hya, hbs, hs0, hs1⟩ := (hu.rd.ext hE1).spn (k := 0) (by simp)
 rw [hya] at hcr
 simp only [List.getElem_cons_zero, Nat.zero_mul, Nat.add_zero] at hs0 hs1
 have hLr : q.src < (LR.length : Int) := by omega
 have hLm : LR.length <= 16 := by omega
 have hs00 := hsr.1
 have hr0 := C.rdy.1
 have hr1 := C.rdy.2
 clear e1 e5 e6 e7 e8 hya hu hLG hLR hDU
 have kB1 := kB.ext hE1
 have kg1 := hk0.ext hB1
 have a1 := kB1.cell
 have a2 := kB1.lt
 have a3 := kg1.cell
 have a4 := kg1.lt
 have hN := Near.refl W1
 refine (callsIn_wide (n := 5)).1 ?_
 refine callsIn_of_wp_marks Tryz.func123 rfl trivial ?_ rfl
 refine wpIn_wide.2 ?_
 refine Code.wp_mono NoPanic.imp ?_
 simp only [Tryz.ntmps123, List.size_toArray, List.length_cons, List.length_nil, Nat.reduceAdd, Nat.reduceSub, Array.replicate_succ, Array.replicate_zero, List.push_toArray, List.append_toArray, List.nil_append, List.cons_append]
 go_wp2_with fail
 clear hW0 hW1
 have hq := quiet_near hN
 refine wp_region_quiet_below (by kernel_rfl) (by kernel_rfl) ?_
 repeat (first | go_big_quiet_skip | (go_big_quiet_want; go_big_quiet_op; first | go_big_quiet_on | (apply Exists.intro; refine ⟨fun _ => ?_, ?_⟩; (focus (first | fail)); go_big_quiet_on)))
 refine wpQuiet_nil ?_
 intro w1 hw1
 clear hq
 replace hw1 := quiet_ext hw1
 replace hN := hN.step hw1
 have hC := hN.2
 have hx1 := hN.1
 have hcr1 := hx1.cell_some hcr
 have hs01 := hx1.cell_some hs0
 have hs11 := hx1.cell_some hs1
 have hbs1 := Nat.lt_of_lt_of_le hbs hx1.size
 clear a1 a2 a3 a4 hcr hs0 hs1
 go_wp2_with fail
 go_loopg [21] 2 (fun n v wr => (n = 2 /\ v = .int .i64 0 /\ wr = w1) ∨ (n = 1 /\ v = .int .i64 1 /\ ∃ u, Owns ELb wr W1.heap.size 308 u [⟨q.src, 0, 1099511627776, q.ready⟩] /\ Blk wr (W0.heap.size + 1) 229 #[u] /\ Blk wr W0.heap.size 229 #[.slice none 0 0] /\ Ext W0 wr /\ W1.heap.size <= wr.heap.size))
 case atStart => exact .inl ⟨rfl, rfl, rfl⟩
 case round =>
  rcases hrel with ⟨rfl, rfl, rfl⟩ | ⟨rfl, rfl, u, hu, ko, kd, hx, hws⟩
  ·obtain ⟨W2, hW2, hB2, hk2, hl2⟩ := box1 wr #[.int .i64 0, .int .i64 1099511627776] 190
   have hx2 := hx1.trans hB2
   have kB2 := kB1.ext hx2
   have kg2 := kg1.ext hx2
   have ko2 := hko.ext hx2
   have kd2 := hkd.ext hx2
   have a1 := kB2.cell
   have a2 := kB2.lt
   have a3 := kg2.cell
   have a4 := kg2.lt
   have a5 := hk2.cell
   have a6 := hk2.lt
   clear hN hC
   have hN := Near.refl W2
   have dr0 : decide (0 <= q.ready) = true := decide_eq_true hr0
   have dr1 : decide (q.ready < 1099511627776) = true := decide_eq_true hr1
   go_wp2_with fail
   have hq := quiet_near hN
   refine wp_region_quiet_below (by kernel_rfl) (by kernel_rfl) ?_
   repeat (first | go_big_quiet_skip | (go_big_quiet_want; go_big_quiet_op; first | go_big_quiet_on | (apply Exists.intro; refine ⟨fun _ => ?_, ?_⟩; (focus (first | fail)); go_big_quiet_on)))
   refine wpQuiet_nil ?_
   intro w1 hw1
   clear hq
   replace hw1 := quiet_ext hw1
   replace hN := hN.step hw1
   have hC := hN.2
   have hx3 := hN.1
   have hx13 := hx2.trans hx3
   have kB3 := kB2.ext hx3
   have kg3 := kg2.ext hx3
   have ko3 := ko2.ext hx3
   have kd3 := kd2.ext hx3
   have k23 := hk2.ext hx3
   have a1 := kB3.cell
   have a2 := kB3.lt
   have a3 := kg3.cell
   have a4 := kg3.lt
   have a5 := k23.cell
   have a6 := k23.lt
   have a7 := ko3.cell
   have a8 := ko3.lt
   have a9 := ko3.frozen
   have hszw := hx13.size
   have hszv := hE1.size
   have hszu := hx2.size
   have hsz0 := hB0.size
   have hkbl := kB.lt
   have n1 : B ≠ W0.heap.size + 1 := by omega
   have n2 : w.heap.size ≠ W0.heap.size + 1 := by omega
   have n3 : wr.heap.size ≠ W0.heap.size + 1 := by have := hx1.size; omega
   clear hN hC
   go_wp2_with fail
   have hS0 : Ext w1 w1.drew /\ ∀ b o, b < w1.heap.size -> w1.drew.cell? ⟨b, o, none⟩ = w1.cell? ⟨b, o, none⟩ := ⟨(Ext.refl w1).drew, fun _ _ _ => rfl⟩
   refine wp_region_P (fun k => decide (18 <= k)) (fun w' => Ext w1 w' /\ ∀ b o, b < w1.heap.size -> w'.cell? ⟨b, o, none⟩ = w1.cell? ⟨b, o, none⟩) (by kernel_rfl) hS0 (fun _ => ?_)
   refine pK 0 (v := ?_) rfl (fun _ _ _ h => h) (by rfl) ?_ (by assumption) ?_
   rotate_left
   ·intro w' hw'
    (try have hC := hw'.2)
    (try have hC9 := hw'.1)
    go_simp
    first | done | with_reducible rfl
   try simp only [Act.put, sp1]
   refine pK 1 (v := ?_) rfl (fun _ _ _ h => h) (by rfl) ?_ (by assumption) ?_
   rotate_left
   ·intro w' hw'
    (try have hC := hw'.2)
    (try have hC9 := hw'.1)
    go_simp
    first | done | with_reducible rfl
   try simp only [Act.put, sp1]
   refine pK 2 (v := ?_) rfl (fun _ _ _ h => h) (by rfl) ?_ (by assumption) ?_
   rotate_left
   ·intro w' hw'
    (try have hC := hw'.2)
    (try have hC9 := hw'.1)
    go_simp
    first | done | with_reducible rfl
   try simp only [Act.put, sp1]
   refine pK 3 (v := ?_) rfl (fun _ _ _ h => h) (by rfl) ?_ (by assumption) ?_
   rotate_left
   ·intro w' hw'
    (try have hC := hw'.2)
    (try have hC9 := hw'.1)
    go_simp
    first | done | with_reducible rfl
   try simp only [Act.put, sp1]
   refine pK 4 (v := ?_) rfl (fun _ _ _ h => h) (by rfl) ?_ (by assumption) ?_
   rotate_left
   ·intro w' hw'
    (try have hC := hw'.2)
    (try have hC9 := hw'.1)
    go_simp
    first | done | with_reducible rfl
   try simp only [Act.put, sp1]
   refine pK 5 (v := ?_) rfl (fun _ _ _ h => h) (by rfl) ?_ (by assumption) ?_
   rotate_left
   ·intro w' hw'
    (try have hC := hw'.2)
    (try have hC9 := hw'.1)
    go_simp
    first | done | with_reducible rfl
   try simp only [Act.put, sp1]
   refine pK 6 (v := ?_) rfl (fun _ _ _ h => h) (by rfl) ?_ (by assumption) ?_
   rotate_left
   ·intro w' hw'
    (try have hC := hw'.2)
    (try have hC9 := hw'.1)
    go_simp
    first | done | with_reducible rfl
   try simp only [Act.put, sp1]
   refine pK 7 (v := ?_) rfl (fun _ _ _ h => h) (by rfl) ?_ (by assumption) ?_
   rotate_left
   ·intro w' hw'
    (try have hC := hw'.2)
    (try have hC9 := hw'.1)
    go_simp
    first | done | with_reducible rfl
   try simp only [Act.put, sp1]
   refine pK 8 (v := ?_) rfl (fun _ _ _ h => h) (by rfl) ?_ (by assumption) ?_
   rotate_left
   ·intro w' hw'
    (try have hC := hw'.2)
    (try have hC9 := hw'.1)
    go_simp
    first | done | with_reducible rfl
   try simp only [Act.put, sp1]
   refine pK 9 (v := ?_) rfl (fun _ _ _ h => h) (by rfl) ?_ (by assumption) ?_
   rotate_left
   ·intro w' hw'
    (try have hC := hw'.2)
    (try have hC9 := hw'.1)
    go_simp
    first | done | with_reducible rfl
   try simp only [Act.put, sp1]
   refine pK 10 (v := ?_) rfl (fun _ _ _ h => h) (by rfl) ?_ (by assumption) ?_
   rotate_left
   ·intro w' hw'
    (try have hC := hw'.2)
    (try have hC9 := hw'.1)
    go_simp
    first | done | with_reducible rfl
   try simp only [Act.put, sp1]
   refine pK 11 (v := ?_) rfl (fun _ _ _ h => h) (by rfl) ?_ (by assumption) ?_
   rotate_left
   ·intro w' hw'
    (try have hC := hw'.2)
    (try have hC9 := hw'.1)
    go_simp
    first | done | with_reducible rfl
   try simp only [Act.put, sp1]
   refine pK 12 (v := ?_) rfl (fun _ _ _ h => h) (by rfl) ?_ (by assumption) ?_
   rotate_left
   ·intro w' hw'
    (try have hC := hw'.2)
    (try have hC9 := hw'.1)
    go_simp
    first | done | with_reducible rfl
   try simp only [Act.put, sp1]
   refine pK 13 (v := ?_) rfl (fun _ _ _ h => h) (by rfl) ?_ (by assumption) ?_
   rotate_left
   ·intro w' hw'
    (try have hC := hw'.2)
    (try have hC9 := hw'.1)
    go_simp
    first | done | with_reducible rfl
   try simp only [Act.put, sp1]
   refine pK 14 (v := ?_) rfl (fun _ _ _ h => h) (by rfl) ?_ (by assumption) ?_
   rotate_left
   ·intro w' hw'
    (try have hC := hw'.2)
    (try have hC9 := hw'.1)
    go_simp
    first | done | with_reducible rfl
   try simp only [Act.put, sp1]
   refine pK 15 (v := ?_) rfl (fun _ _ _ h => h) (by rfl) ?_ (by assumption) ?_
   rotate_left
   ·intro w' hw'
    (try have hC := hw'.2)
    (try have hC9 := hw'.1)
    go_simp
    first | done | with_reducible rfl
   try simp only [Act.put, sp1]
   have hn1 := Near.of ((Ext.refl w1).drew.alloc (.cells #[.int .i64 q.src, .int .i64 0, .int .i64 1099511627776, .int .i64 q.ready] 308))
   refine pO 16 rfl (fun K hK => ?_)
   go_simp
   refine hK.out _ _ (fun _ _ => ⟨hn1.1, hn1.2⟩) ?_
   clear hK K
   refine pO 17 rfl (fun K hK => ?_)
   refine step_push (by rfl) (.tmp 43) (.tmp 59) _ (by rfl) W1.heap.size 308 i0 _ 32 Tryz.underlying229 hi0 hz0 hz1 hz2 (by rfl) (.slice none 0 0) (by rfl) (Owns.none_ (E := ELb) W1.heap.size 308) w1.heap.size (⟨q.src, 0, 1099511627776, q.ready⟩ : Lb) (by rfl) (Blk.new w1.drew _ _) (by simp [maxLen]) (by simp) (by simp; omega) ?_
   intro v6 w6 hv6 hg6 hat6
   have hx6 : Ext w1 w6 := ext_grown hn1.1 (Owns.none_ (E := ELb) w1.heap.size 308) (Nat.le_refl _) hg6
   have kb6 := ko3.ext hx6
   have kd6 := kd3.ext hx6
   have x1 := kb6.lt
   have x2 := kb6.frozen
   have x3 := kb6.cell
   obtain ⟨A6, d6, rfl, hR6⟩ := hv6.form
   simp only [List.length_append, List.length_cons, List.length_nil, Nat.zero_add] at hv6 ⊢
   refine hK.out _ _ (fun _ _ => ⟨(Near.of hx6).1, (Near.of hx6).2⟩) ?_
   clear hK K
   refine pO 18 rfl (fun K hK => ?_)
   go_simp
   refine hK.out _ _ (fun h => absurd h (by decide)) ?_
   clear hK K
   refine wpAnyP_done (by kernel_rfl) ?_ _
   go_wp2
   go_roundg 1
   case measure => omega
   case rel => exact .inr ⟨rfl, by go_num, .slice A6 1 d6, hv6.kept (grown_setCell (World.grownBy.refl w6 (some (W0.heap.size + 1))) 0 _) (fun g hg e => by injection e with e; have := (hv6.block hg).1; omega), kb6.set0 _, kd6.far (by simp) _, ((hB1.trans hx13).trans hx6).setCell (by show W0.heap.size <= W0.heap.size + 1; omega) _, by have := hx6.size; simp [World.setCell]; omega⟩
  ·have hEx := hB0.trans hx
   clear hN hC hcr1 hs01 hs11 hbs1 hx1
   go_wp2_with fail
   refine wp_loop_ghost_k (fun k a wr => ∃ (v7 v62 v63 v64 v65 v66 v67 v68 v69 v70 v71 v72 v73 v74 v75 v76 : Value) (ds : List Deferred) (j : Nat) (uo ud : Value), (j + k = L.length /\ Owns ELb wr W1.heap.size 308 uo ((L.drop j).take 1) /\ Owns ELb wr W1.heap.size 308 ud (L.take j) /\ (∀ b, uo.ownBlock = some b -> ud.ownBlock ≠ some b) /\ Blk wr (W0.heap.size + 1) 229 #[uo] /\ Blk wr W0.heap.size 229 #[ud] /\ Ext W0 wr /\ W1.heap.size <= wr.heap.size /\ DSx wr.heap.size W1.heap.size ds wr) /\
    a = { tmps := #[.pointer (some ⟨B, 0, none⟩), .pointer (some ⟨w.heap.size, 0, none⟩), .slice none 0 0, .pointer (some ⟨W0.heap.size, 0, none⟩), .pointer (some ⟨W0.heap.size + 1, 0, none⟩), undef, u6, v7, undef, .pointer (some ⟨B, 0, none⟩), .pointer (some ⟨B, 0, none⟩), .pointer (some ⟨B, 12, none⟩), .slice (some ⟨br, or_, none⟩) LR.length cr, .pointer (some ⟨B, 0, none⟩), .pointer (some ⟨B, 0, none⟩), .pointer (some ⟨B, 4, none⟩), .pointer (some ⟨B, 4, none⟩), .int .i64 q.src, .pointer (some ⟨br, or_ + q.src.toNat, none⟩), .slice (some ⟨bs, os, none⟩) 1 y.c, .int .i64 1, .int .i64 1, .bool false, u23, u24, u25, u26, u27, u28, u29, u30, u31, u32, u33, u34, u35, u36, u37, u38, u39, u40, u41, u42, u43, u44, u45, u46, u47, u48, u49, u50, u51, u52, u53, u54, u55, u56, u57, u58, u59, u60, u61, v62, v63, v64, v65, v66, v67, v68, v69, v70, v71, v72, v73, v74, v75, v76, undef, undef, undef, undef, undef, undef, undef, undef, undef, undef, undef, undef, undef, undef, undef, undef, undef, undef, undef, undef, undef, undef, undef, undef], defers := ds }) L.length ?_ ?_
   ·exact ⟨_, _, _, _, _, _, _, _, _, _, _, _, _, _, _, _, [], 0, u, .slice none 0 0, ⟨by omega, by rw [opL_lt (by have := C.len; omega), C.fst (by have := C.len; omega)]; exact hu, Owns.none_ _ _, (fun b _ e => by cases e), ko, kd, hx, hws, DSx.nil _ _ _⟩, rfl⟩
   ·intro gk _ wr hinv
    obtain ⟨v7, v62, v63, v64, v65, v66, v67, v68, v69, v70, v71, v72, v73, v74, v75, v76, ds, j, uo, ud, ⟨hjk, ho, hd, hdis, ko, kd, hE, hws, hds⟩, ha⟩ := hinv
    subst ha
    intro _ _ _ _
    have Hjk := Lib.hid hjk
    have hjL : j <= L.length := by omega
    clear hjk
    have hsz0 := hB0.size
    have hsz1 := hE1.size
    have hl1q := hl1'
    by_cases hlt : j < L.length
    ·rw [opL_lt hlt] at ho
     have HD := Lib.hid (C.mv j hlt)
     have Hnx := Lib.hid (fun h => C.next j h)
     have Hla := Lib.hid (C.last j)
     have Htk := Lib.hid (take_snoc hlt rfl)
     have HL12 := Lib.hid C.len
     generalize hxj : L[j] = x at *
     have Hxj := Lib.hid hxj
     clear hxj
     rcases ho.2 with ⟨_, h2⟩ | ⟨g, co, cur, h1, hgb, _⟩
     ·simp at h2
     subst h1
     simp only [List.length_cons, List.length_nil, Nat.zero_add] at ho ko hdis
     obtain ⟨Ad, cd, rfl, hRd⟩ := hd.form
     have hdl : (L.take j).length = j := by rw [List.length_take]; omega
     rw [hdl] at hd kd hdis
     have Hdl := Lib.hid hdl
     clear hdl
     have hgw := (ho.block (g := g) rfl).2
     have hmn := min1_any (some ⟨g, 0, none⟩) co x (.func (.func 200) #[] #[]) wr ho.rd
     have a1 := ko.cell
     have a2 := ko.lt
     go_wp2_with fail
     clear a1 a2
     refine hmn.mono ?_
     clear hmn
     rintro e w2 ⟨rfl, hb2⟩
     obtain ⟨W3, hW3, hB3, hk3, hl3⟩ := box1 w2 #[.int .i64 x.node, .int .i64 x.fr, .int .i64 x.til, .int .i64 x.tm] 308
     have hx3 := hb2.trans hB3
     have hs3 := hx3.size
     have ko3 := ko.ext hx3
     have kd3 := kd.ext hx3
     have ho3 := ho.ext hx3
     have hd3 := hd.ext hx3
     have hdel := del1_any g co w2.heap.size x W1.heap.size W3 ho3 hk3
     have a1 := ko3.cell
     have a2 := ko3.lt
     go_wp2_with fail
     clear a1 a2 hW3
     refine hdel.mono ?_
     clear hdel
     rintro e w4 ⟨rfl, ho4, w3', vs, hb4, hw4⟩
     have K4 : KpX W3.heap.size g W3 w4 := by rw [hw4]; exact (KpX.of_ext (Nat.le_refl _) hb4).trans (kpx_setCells vs _ 0)
     have Q4 : KeepsOthers W3 w4 := by rw [hw4]; exact hb4.keeps.trans (keeps_setCells vs _ _ 0)
     clear hw4 hb4
     have hs4 := K4.size
     have hEg := hE.trans hx3
     have hE4 : Ext W0 w4 := K4.ext hEg hEg.size (by omega)
     have ko4 := K4.blk ko3 (by have := ko3.lt; omega) (by omega)
     have kd4 := K4.blk kd3 (by have := kd3.lt; omega) (by omega)
     have kx4 := K4.blk hk3 (by omega) (by have := hb2.size; omega)
     have hd4 := hd3.kpx K4 (fun b hb => ⟨by have := (hd.block hb).2; omega, fun e => hdis g rfl (by rw [<- e]; exact hb)⟩)
     have a1 := ko4.lt
     have a2 := ko4.frozen
     have a3 := ko4.cell
     obtain ⟨W5, hW5⟩ : ∃ W5, w4.setCell ⟨W0.heap.size + 1, 0, none⟩ (.slice (some ⟨g, 0, none⟩) 0 co) = W5 := ⟨_, rfl⟩
     have hs5 : W5.heap.size = w4.heap.size := by rw [<- hW5]; simp [World.setCell]
     have Q5 : KeepsOthers wr W5 := by rw [<- hW5]; exact (hx3.keeps.trans Q4).trans (KeepsOthers.setCell _ _ _)
     have ko5 : Blk W5 (W0.heap.size + 1) 229 #[.slice (some ⟨g, 0, none⟩) 0 co] := by rw [<- hW5]; exact ko4.set0 _
     have kd5 : Blk W5 W0.heap.size 229 #[.slice Ad j cd] := by rw [<- hW5]; exact kd4.far (by simp) _
     have kx5 : Blk W5 w2.heap.size 308 #[.int .i64 x.node, .int .i64 x.fr, .int .i64 x.til, .int .i64 x.tm] := by rw [<- hW5]; exact kx4.far (by have := hb2.size; simp; omega) _
     have ho5 : Owns ELb W5 W1.heap.size 308 (.slice (some ⟨g, 0, none⟩) 0 co) [] := by rw [<- hW5]; exact ho4.setZ ko4 (by decide) 0 _
     have hd5 : Owns ELb W5 W1.heap.size 308 (.slice Ad j cd) (L.take j) := by rw [<- hW5]; exact hd4.setZ ko4 (by decide) 0 _
     have hE5 : Ext W0 W5 := by rw [<- hW5]; exact hE4.setCell (by show W0.heap.size <= W0.heap.size + 1; omega) _
     have hds5 := hds.keeps Q5
     have hdg : ∀ b, (Value.slice Ad j cd).ownBlock = some b -> b ≠ g := fun b hb e => hdis g rfl (by rw [<- e]; exact hb)
     have hdx : ∀ b, (Value.slice Ad j cd).ownBlock = some b -> b ≠ w2.heap.size := fun b hb e => by have := (hd.block hb).2; have := hb2.size; omega
     have b1 := kd5.cell
     have b2 := kd5.lt
     have b3 := kx5.cell
     have b4 := kx5.lt
     have hs5' : w4.heap.size <= W5.heap.size := by omega
     have hbs5 : W1.heap.size <= W5.heap.size := by omega
     clear hs5 Q4
     have hho := fun w => moves_any B x w
     go_wp2_with (at_builtin; refine wpList_push rfl (.tmp 70) (.tmp 72) _ (by rfl) W1.heap.size 308 i0 _ 32 Tryz.underlying229 hi0 hz0 hz1 hz2 (by rfl) (.slice Ad j cd) (by rfl) (hd5.ext ((Ext.refl _).alloc _)) W5.heap.size x (by rfl) (Blk.new W5 _ _) (by have := Hdl.out; have := HL12.out; simp only [maxLen]; omega) (by have := Hdl.out; have := HL12.out; omega) (Nat.le_trans hbs5 ((Ext.refl W5).alloc _).size) ?_; intro v6 w6 hv6 hg6 hat6; obtain ⟨A6, d6, W7, rfl, hW7, kd6, kd7, ko7, kx7, ho7, hd7, hE7, hs7, Q7, hdg7⟩ := lab_put ((Ext.refl W5).alloc _) (alloc_ltL _ _) kd5 ko5 kx5 ho5 hd5 Hdl.out hdg hdx hE5 rfl (by omega) hv6 hg6 hat6; have x1 := kd6.lt; have x2 := kd6.frozen; have x3 := kd6.cell; have kg7 := hk0.ext hE7; have y1 := kg7.cell; have y2 := kg7.lt; have y3 := kx7.cell; have y4 := kx7.lt)
     refine (hho _).mono ?_
     clear hho
     rintro e w8 ⟨rfl, hb8, hs8, z1, z2⟩
     have hE8 := hE7.trans hb8
     have hEw8 := hB0.trans hE8
     go_wp2_with fail
     have hn8 : w.heap.size <= w8.heap.size := hEw8.size
     have hb8s := hb8.size
     have hgb' := hgb
     obtain ⟨nx, hnx⟩ : ∃ nx, (L.drop (j + 1)).take 1 = nx := ⟨_, rfl⟩
     have Hnxd := Lib.hid hnx
     clear hnx
     refine (wpIn_wide (n := 5)).1 ?_
     refine wpIn_rangeFunc_ownH rfl (by omega) (gf := 263) (lb := #[.pointer (some ⟨W7.heap.size, 0, none⟩), .pointer (some ⟨W7.heap.size + 1, 0, none⟩)]) rfl trivial (enters_of Tryz.func263 (by kernel_rfl) rfl)
      (moves_stops W7.heap.size (W7.heap.size + 1) w8.heap.size (fun b => b = W0.heap.size + 1 ∨ b = g) Aq cq Ac cc p q base B x (f j).1 (f j).2 w w8 h hg HD.out hEw8 (fun k hk => by omega) z1 z2 hn8 (Nat.le_refl _) ⟨by omega, by omega⟩ ⟨by omega, by omega⟩)
      KpP.trans (fun W l o o' hl _ _ _ => KpP.put W l o' hl) (Below.refl _ _) (fun _ => rfl)
      (LRlM nx (L.take (j + 1)) (W0.heap.size + 1) W0.heap.size g W1.heap.size w8.heap.size W0 W1.heap.size w8.heap.size ds) (fun _ _ _ => False) (lrl_ownM (by omega)) (fun _ _ _ _ _ hs _ _ => hs)
      ⟨.slice (some ⟨g, 0, none⟩) 0 co, .slice A6 (j + 1) d6, ho7.ext hb8, ko7.ext hb8, kd7.ext hb8, (by rw [Htk.out]; exact hd7.ext hb8), (fun b hb e => (hdg7 b e).1 (by injection hb with hb; exact hb.symm)), (fun b hb => .inl (by injection hb with hb; exact hb.symm)), (fun b hb => by have := (hdg7 b hb).2; omega), hE8, ((hds5.keeps Q7).ext hb8).more (by omega), Nat.le_refl _⟩
      (fun _ a' W => ∃ Bx, w8.heap.size <= Bx /\ Blk W Bx 313 #[.int .i64 (f j).2.dst, .int .i64 0, .int .i64 1099511627776, .int .i64 (max (f j).2.st x.tm + (f j).2.dur q.size + (f j).2.rng), .int .i64 (f j).1, .int .i64 (max (f j).2.st x.tm), .int .i64 (max (f j).2.st x.tm + (f j).2.dur q.size), .int .i64 (max (f j).2.st x.tm + (f j).2.dur q.size + (f j).2.rng)] /\ a' = { tmps := #[.pointer (some ⟨B, 0, none⟩), .pointer (some ⟨w.heap.size, 0, none⟩), .slice none 0 0, .pointer (some ⟨W0.heap.size, 0, none⟩), .pointer (some ⟨W0.heap.size + 1, 0, none⟩), undef, u6, .pointer (some ⟨w2.heap.size, 0, none⟩), .pointer (some ⟨Bx, 0, none⟩), .pointer (some ⟨B, 0, none⟩), .pointer (some ⟨B, 0, none⟩), .pointer (some ⟨B, 12, none⟩), .slice (some ⟨br, or_, none⟩) LR.length cr, .pointer (some ⟨B, 0, none⟩), .pointer (some ⟨B, 0, none⟩), .pointer (some ⟨B, 4, none⟩), .pointer (some ⟨B, 4, none⟩), .int .i64 q.src, .pointer (some ⟨br, or_ + q.src.toNat, none⟩), .slice (some ⟨bs, os, none⟩) 1 y.c, .int .i64 1, .int .i64 1, .bool false, u23, u24, u25, u26, u27, u28, u29, u30, u31, u32, u33, u34, u35, u36, u37, u38, u39, u40, u41, u42, u43, u44, u45, u46, u47, u48, u49, u50, u51, u52, u53, u54, u55, u56, u57, u58, u59, u60, u61, .slice (some ⟨g, 0, none⟩) 1 co, .int .i64 1, .bool true, .slice (some ⟨g, 0, none⟩) 1 co, .agg #[.int .i64 x.node, .int .i64 x.fr, .int .i64 x.til, .int .i64 x.tm], .slice (some ⟨g, 0, none⟩) 1 co, .func (.func 202) #[] #[.pointer (some ⟨w2.heap.size, 0, none⟩)], .slice (some ⟨g, 0, none⟩) 0 co, .slice Ad j cd, .agg #[.int .i64 x.node, .int .i64 x.fr, .int .i64 x.til, .int .i64 x.tm], .slice (some ⟨W5.heap.size, 0, none⟩) 1 1, .slice A6 (j + 1) d6, .pointer (some ⟨B, 0, none⟩), .agg #[.int .i64 x.node, .int .i64 x.fr, .int .i64 x.til, .int .i64 x.tm], .func (.func 263) #[] #[.pointer (some ⟨W7.heap.size, 0, none⟩), .pointer (some ⟨W7.heap.size + 1, 0, none⟩)], .agg #[.int .i64 (f j).2.dst, .int .i64 0, .int .i64 1099511627776, .int .i64 (max (f j).2.st x.tm + (f j).2.dur q.size + (f j).2.rng), .int .i64 (f j).1, .int .i64 (max (f j).2.st x.tm), .int .i64 (max (f j).2.st x.tm + (f j).2.dur q.size), .int .i64 (max (f j).2.st x.tm + (f j).2.dur q.size + (f j).2.rng)], undef, undef, undef, undef, undef, undef, undef, undef, undef, undef, undef, undef, undef, undef, undef, undef, undef, undef, undef, undef, undef, undef, undef], defers := [] })
      (fun _ a' s X Y row hs hg hr => by obtain ⟨Bx, z1, z2, z3⟩ := hs; exact ⟨Bx, z1, z2.keptc hg (fun r e => (hr r e).2), z3⟩) ?assign ?body ?done ?stop
     case assign =>
      rintro li pre y W K hi hK
      have hBW : w8.heap.size <= W.heap.size := by obtain ⟨_, _, _, _, _, _, _, _, _, _, _, h⟩ := hi; exact h
      simp only [mvX]
      gi_wp2
      exact hK _ _ ((KeepsOthers.alloc _ _).from _) (KpP.of_ext hBW ((Ext.refl W).alloc _)) (hi.ext ((Ext.refl W).alloc _)) ⟨W.heap.size, hBW, Blk.new _ _ _, rfl⟩
     case body =>
      rintro li pre y a' W hl ⟨rr, hrr⟩ hLR ⟨Bx, b1, kx, rfl⟩ hlen
      have HLR := Lib.hid hLR
      obtain ⟨uo, ud, q1, q2, q3, q4, q5, q6, q7, q8, q9, q10⟩ := hLR
      obtain ⟨Ag, Ar, Ad, cg, cr, cd, LG, LR, k0, _⟩ := (hg.ext (hB0.trans q8)).out
      unfold gcells at k0
      have hkp := hk0.ext q8
      have hfn : ∀ k, Fence.wide.fn k := fun _ => trivial
      have hmix : Tryz.prog.follows .mixedOrders = true := by kernel_rfl
      have l1 := hkp.cell
      have l2 := hkp.lt
      have l3 := kx.cell
      have l4 := kx.lt
      have l5 := k0.cell
      have l6 := k0.lt
      by_cases e1 : (f j).2.dst = q.dst
      case' pos =>
       have d1 : ((f j).2.dst == q.dst) = true := by simpa using e1
       have hnxn : nx = [] := by rw [<- Hnxd.out]; exact opL_ge (fun h => (Hnx.out h).1 e1)
       have Hn := Lib.hid hnxn
       rw [e1] at kx l3
       clear hnxn e1
       gi_wp2
       refine wpIn_region_quiet_round rfl (by kernel_rfl) (by kernel_rfl) (by kernel_rfl) ?_
       repeat (gi_big_quiet_step (fail))
       refine wpQuietIn_nil ?_
       intro wq hwq
       replace hwq := quiet_drew hwq
       have FIN := Lib.hid (lrl_sameM y Hn.out HLR.out hwq q10)
       clear l1 l2 l3 l4 l5 l6
       gi_wp2
       exact FIN.out
      have hbne : ((f j).2.dst != q.dst) = true := by simpa using e1
      have d1 : ((f j).2.dst == q.dst) = false := by simpa using e1
      have hj1 : j + 1 < L.length := by
       rcases Nat.lt_or_ge (j + 1) L.length with h | h
       ·exact h
       ·exact absurd (Hla.out (by omega)) e1
      have hnx3 := Hnx.out hj1
      rw [Hxj.out] at hnx3
      have hnxn : nx = [mvL q x (f j).2] := by rw [<- Hnxd.out, opL_lt hj1, hnx3.2.1]
      have hfl : (pre.flatMap (fun _ => nx)).length <= 65 := by
       rw [hnxn, flat_one]
       omega
      have Hn := Lib.hid hnxn
      have Hfl := Lib.hid hfl
      obtain ⟨Au, cu, rfl, hRu⟩ := q4.form
      obtain ⟨Ao, cp, rfl, hRo⟩ := q1.form
      have hlt1 : (L.take (j + 1)).length = j + 1 := by rw [List.length_take]; omega
      obtain ⟨m, hm⟩ : ∃ m, (pre.flatMap (fun _ => nx)).length = m := ⟨_, rfl⟩
      rw [hm] at q1 q2 q5 q6 hfl
      rw [hlt1] at q3 q4 q5 q7
      have Hm := Lib.hid hm
      clear hm
      have hcQ : ∀ n d os, CallsIn Fence.wide n Tryz.prog 204 #[.slice Au (j + 1) cu, .func (.func 205) #[] #[.pointer (some ⟨Bx, 0, none⟩)]] (Sort.grow (redrawn W d) os) (fun e w1 => e = .returned (.bool false) /\ Ext (Sort.grow (redrawn W d) os) w1) :=
       fun n d os => by
        have h0 := cnt2_none Au cu Bx (mvL q x (f j).2) _ _ _ _ (L.take (j + 1)) (Sort.grow (redrawn W d) os) (hRu.ext (below_regrown W d os)) (by have := HL12.out; omega) (kx.ext (below_regrown W d os)) (fun k hk => by have h3 := hnx3.2.2 k (by omega) (by omega); rw [hnx3.2.1] at h3; rw [List.getElem_take]; exact h3)
        rw [hlt1] at h0
        exact callsIn_wide.2 h0
      have hq3 := q3.cell
      have hq3l := q3.lt
      have Hnx3 := Lib.hid hnx3
      clear e1 hnx3 hnxn hfl hlt1
      gi_wp2
      have hq := quiet_near (Near.refl W)
      refine wpIn_region_quiet_below_round rfl (by kernel_rfl) (by kernel_rfl) (by kernel_rfl) ?_
      repeat (gi_big_quiet_step ((gi_at_call 204; exact CallsIn.regrown_of (hcQ _ _ _))))
      refine wpQuietIn_nil ?_
      intro wq hwq
      clear hq
      replace hwq := quiet_ext hwq
      have kxq := kx.ext hwq
      have koq := q2.ext hwq
      have l3 := kxq.cell
      have l4 := kxq.lt
      have m4 := koq.cell
      have m5 := koq.lt
      have hqs := hwq.size
      gi_wp2_with (gi_at_builtin; refine wpListIn_pushL rfl (.tmp 93) (.tmp 96) _ (by rfl) W1.heap.size 308 i0 _ 32 Tryz.underlying229 hi0 hz0 hz1 hz2 (by rfl) (.slice Ao m cp) (by rfl) ((q1.ext hwq).ext ((Ext.refl _).alloc _)) wq.heap.size (mvL q x (f j).2) (by rfl) (Blk.new wq _ _) (by have := Hm.out; have := Hfl.out; simp only [maxLen]; omega) (by have := Hm.out; have := Hfl.out; omega) (by simp; omega) ?_; intro v6 w6 hv6 hg6 hat6; have PUT := lrl_putM (wq := wq.alloc (.cells (ELb.cells (mvL q x (f j).2)).toArray 308)) y Hn.out q1 q2 q3 q4 q5 q6 q7 q8 q9 q10 (hwq.trans ((Ext.refl _).alloc _)) (by omega) (by omega) (by omega) (Nat.le_refl _) hv6 hg6 hat6; obtain ⟨A7, d7, rfl, hR7⟩ := hv6.form; have m1 := PUT.1.cell; have m2 := PUT.1.lt; have m3 := PUT.1.frozen; simp only [List.length_append, List.length_cons, List.length_nil, Nat.zero_add, Hm.out] at hv6 PUT ⊢; have FIN := Lib.hid PUT.2; clear PUT)
      exact FIN.out
     case done =>
      rintro D ys W hDD hS ⟨uo, ud, q1, q2, q3, q4, q5, q6, q7, q8, q9, q10⟩ hK
      subst hS
      have e : [()].flatMap (fun _ => nx) = (L.drop (j + 1)).take 1 := by rw [Hnxd.out]; simp
      rw [e] at q1
      have hd2 := q9.cons hDD (by omega) hK
      clear hK
      go_wp2_with fail
      go_roundg (gk - 1)
      case measure => have := Hjk.out; omega
      case rel => exact ⟨by have := Hjk.out; show j + 1 + (gk - 1) = L.length; omega, q1, q4, q5, q2, q3, q8, by omega, hd2⟩
     case stop =>
      rintro D c pre W _ _ h _
      exact h.elim
    ·obtain rfl : j = L.length := by omega
     rw [List.take_length] at hd
     obtain ⟨Ad, cd, rfl, hRd⟩ := hd.form
     rw [opL_ge (by omega)] at ho
     obtain ⟨Ao, co, rfl, _⟩ := ho.form
     simp only [List.length_nil] at ko
     have hso := fun w hR => lsort_any Ad cd L w hR C.len C.ord
     have l1 := ko.cell
     have l2 := ko.lt
     have l3 := kd.cell
     have l4 := kd.lt
     go_wp2_with fail
     refine (hso _ hRd).mono ?_
     clear hso
     rintro e w9 ⟨rfl, hb9⟩
     have kd9 := kd.ext hb9
     have l5 := kd9.cell
     have l6 := kd9.lt
     go_wp2
     show LeavesInM _ _ _ _ _ _ ds .returning _
     refine (hds.ext hb9).leaves ?_
     intro w' hw'
     have hfin := hw' (fun W => Owns ELb W w.heap.size 308 (.slice Ad L.length cd) L /\ Ext w W) (fun s X Y row hs hg hr => ⟨hs.1.keptc hg (fun r e => (hr r e).2), hs.2.keptb hg (fun r e => by have := (hr r e).1; omega)⟩) ⟨(hd.ext hb9).mono (by omega), (hB0.trans hE).trans hb9⟩
     exact ⟨_, results_tmp1z rfl _ _ _, .slice Ad L.length cd, rfl, hfin⟩
end
section
open Go.RowKit Go.Shelf
attribute [local go_sem] Oper.semAt_some
set_option maxRecDepth 100000 in
set_option maxHeartbeats 8000000 in
theorem sArrival_ch (Aq : Option Addr) (cq : Nat) (Ac : Option Addr) (cc : Nat) (p : Pln) (q : Req) (L : List Lb) (f : Nat -> Nat × Con) (AT : Int) (w : World) (h : PlnRd w Aq cq Ac cc p) (h0 : p.chk = 0) (hf : fineR p q = true) (hse : ∀ c ∈ p.cons, c.st < c.en /\ c.arg q.size = 0) (hqu : ∀ n : Int, 0 <= n -> n < p.quo.length -> q.size <= gi p.quo n /\ gi p.quo n <= 1099511627776) (hsz : 1 <= q.size /\ q.size <= 65536) (hn16 : p.quo.length <= 16 /\ p.cons.length <= 64)
 (C : LbCh p q L f) (hAT : ∀ k (h : k + 1 = L.length), (L[k]'(by omega)).arr q (f k).2 = AT) :
 Calls Tryz.prog 43 #[.agg #[.slice Aq p.quo.length cq, .slice Ac p.cons.length cc, .slice none 0 0, .slice none 0 0], q.val] w fun e w' => e = .returned (.tuple #[.int .i64 AT, .int .i64 0]) /\ Ext w w' := by
 obtain ⟨W1, hW1, hB1, hk1, hkq, hl1, hlq⟩ := box2 w #[.slice Aq p.quo.length cq, .slice Ac p.cons.length cc, .slice none 0 0, .slice none 0 0] q.cells 83 85
 simp only [Req.cells] at hW1 hkq
 have hbd := build_any Aq cq Ac cc p q W1 (h.ext hB1) h0 hf hse hqu hsz hn16
 have hrd := h.ext hB1
 have r0 := hk1.cell
 have r1 := hkq.cell
 have r2 := hk1.lt
 have r3 := hkq.lt
 have hL12 := C.len
 have H0 := Lib.hid h0
 have Hqu := Lib.hid hqu
 have Hse := Lib.hid hse
 unfold Req.val at hbd ⊢
 clear h0 hf hse hqu
 go_enter Tryz.func43, Tryz.ntmps43
 go_wp2_with fail
 clear hW1 r0 r1 r2 r3
 refine hbd.mono ?_
 clear hbd
 rintro e w2 ⟨B, rfl, hBl, hg, hb2⟩
 go_wp2_with fail
 refine (labels_any Aq cq Ac cc p q _ B L f w2 (hrd.ext hb2) hg C).mono ?_
 rintro e w4 ⟨u, rfl, hu4, hb4⟩
 obtain ⟨Al, cl, rfl, hRl⟩ := hu4.form
 have hx4 := hb2.trans hb4
 have hg4 := hg.ext hb4
 have har := arrival_any Aq cq Ac cc p q W1.heap.size B Al cl L f (fun k => if k < L.length then (0, false) else (AT, true)) w4 (hrd.ext hx4) hg4 hRl (by omega) C.mv (if_pos (by omega)) (fun k hk => by
  rw [if_pos hk]
  unfold aStep
  by_cases h1 : k + 1 < L.length
  ·rw [if_pos h1, if_neg (fun hh => (C.next k h1).1 hh.1)]
  ·rw [if_neg h1, if_pos ⟨C.last k (by omega), .inl rfl⟩, hAT k (by omega)])
 rw [if_neg (Nat.lt_irrefl _)] at har
 go_wp2_with fail
 refine har.mono ?_
 clear har
 rintro e w6 ⟨rfl, hb6⟩
 go_wp2
 go_ret2
 exact ⟨rfl, hB1.trans (hx4.trans hb6)⟩
def exL5 : List Lb := [⟨0, 0, 1099511627776, 0⟩, ⟨1, 0, 1099511627776, 8⟩]
def exG5 : Nat -> Nat × Con := fun k => if k = 0 then (0, ⟨0, 1, 5, 45, 24, 2, 0⟩) else (1, ⟨1, 2, 10, 50, 24, 2, 0⟩)
theorem ex5_mv0 : MvD exP5 exQ5 ⟨0, 0, 1099511627776, 0⟩ 0 ⟨0, 1, 5, 45, 24, 2, 0⟩ where
 at_ := rfl
 one := by
  intro k c h
  match k with
  | 0 => simp [exP5] at h; subst h; simp
  | 1 => simp [exP5] at h; subst h; simp
  | k + 2 => simp [exP5] at h
 n16 := by decide +kernel
 dst := by decide +kernel
 fit := by decide +kernel
 bd := by decide +kernel
 til := by decide +kernel
 dead := by decide +kernel
 room := by decide +kernel
 cust := rfl
theorem ex5_mv1 : MvD exP5 exQ5 ⟨1, 0, 1099511627776, 8⟩ 1 ⟨1, 2, 10, 50, 24, 2, 0⟩ where
 at_ := rfl
 one := by
  intro k c h
  match k with
  | 0 => simp [exP5] at h; subst h; simp
  | 1 => simp [exP5] at h; subst h; simp
  | k + 2 => simp [exP5] at h
 n16 := by decide +kernel
 dst := by decide +kernel
 fit := by decide +kernel
 bd := by decide +kernel
 til := by decide +kernel
 dead := by decide +kernel
 room := by decide +kernel
 cust := rfl
theorem ex5_ch : LbCh exP5 exQ5 exL5 exG5 where
 len := by decide +kernel
 fst := fun _ => rfl
 src := by decide +kernel
 rdy := by decide +kernel
 mv := by
  intro k h
  match k, h with
  | 0, _ => exact ex5_mv0
  | 1, _ => exact ex5_mv1
 next := by
  intro k h
  match k, h with
  | 0, _ =>
    refine ⟨by decide +kernel, by kernel_rfl, ?_⟩
    intro j hj h2
    obtain rfl : j = 0 := by omega
    kernel_rfl
 last := by
  intro k h
  obtain rfl : k = 1 := by simp [exL5] at h; omega
  kernel_rfl
 ord := by
  intro k h
  match k, h with
  | 0, _ => exact (by decide +kernel : ¬ lbC ⟨1, 0, 1099511627776, 8⟩ ⟨0, 0, 1099511627776, 0⟩ < 0)
theorem ex_arrival5 (Aq Ac : Option Addr) (cq cc : Nat) (w : World) (h : PlnRd w Aq cq Ac cc exP5) :
 Calls Tryz.prog 43 #[.agg #[.slice Aq 3 cq, .slice Ac 2 cc, .slice none 0 0, .slice none 0 0], .agg #[.int .i64 0, .int .i64 2, .int .i64 16, .int .i64 0, .int .i64 100, .int .i64 0, .bool false]] w fun e w' => e = .returned (.tuple #[.int .i64 13, .int .i64 0]) /\ Ext w w' := by
 refine sArrival_ch Aq cq Ac cc exP5 exQ5 exL5 exG5 13 w h exP5_chk exF5 ?_ ?_ (by decide) (by decide) ex5_ch ?_
 ·intro c hc
  simp [exP5] at hc
  rcases hc with rfl | rfl <;> decide +kernel
 ·intro n h0 h1
  have h2 : n < 3 := h1
  rcases (show n = 0 ∨ n = 1 ∨ n = 2 by omega) with rfl | rfl | rfl <;> decide +kernel
 ·intro k h
  obtain rfl : k = 1 := by simp [exL5] at h; omega
  kernel_rfl
end
end Go.Proofs.YtemkpimngbbpkaaGreat
