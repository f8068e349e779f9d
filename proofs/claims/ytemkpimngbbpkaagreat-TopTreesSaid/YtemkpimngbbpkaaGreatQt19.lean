/- Layer 24 (journey): the walk of arrivals. -/
import Derived.Test.YtemkpimngbbpkaaGreatQt03
import Derived.Test.YtemkpimngbbpkaaGreatQt04
import Derived.Test.YtemkpimngbbpkaaGreatQt18
namespace Go.Proofs.YtemkpimngbbpkaaGreat
set_option linter.unusedVariables false
set_option linter.unusedSimpArgs false
open Go.RowKit Go.Shelf
attribute [local go_sem] Oper.semAt_some
def ARel (p : Pln) (src t0 n : Int) (V F g1 d1 g2 d2 : Nat) (W1 : World) (k : Nat) (u : Value) (ds : List Deferred) (wr : World) : Prop :=
 ∃ (r : Int) (m : List Int) (lf : List Bool) (cur : Int), u = .int .i64 r /\ DI p.quo.length p.cons n src t0 m lf cur (-1) (fun _ => True) /\ IsNext m lf p.quo.length r /\ k = lf.countP (fun b => !b) /\
   Owns EInt wr W1.heap.size 3 (.slice (some ⟨g1, 0, none⟩) p.quo.length d1) m /\ Owns EBool wr W1.heap.size 4 (.slice (some ⟨g2, 0, none⟩) p.quo.length d2) (if 0 <= r then lf.set r.toNat true else lf) /\
   Blk wr V 262 #[.pointer (some ⟨F, 0, none⟩)] /\ Blk wr F 265 #[.slice (some ⟨g1, 0, none⟩) p.quo.length d1, .slice (some ⟨g2, 0, none⟩) p.quo.length d2] /\
   Ext W1 wr /\ DSx wr.heap.size W1.heap.size ds wr
theorem next_mem {m : List Int} {lf : List Bool} {N g1 g2 d1 d2 base : Nat} {r : Int} {w2 w3 W1 : World} {V F : Nat} {ds : List Deferred} (hr : IsNext m lf N r) (hlen : lf.length = N) (hw : (r = -1 /\ w3 = w2) ∨ (0 <= r /\ w3 = w2.setCell ⟨g2, r.toNat, none⟩ (.bool true)))
 (o1 : Owns EInt w2 base 3 (.slice (some ⟨g1, 0, none⟩) N d1) m) (o2 : Owns EBool w2 base 4 (.slice (some ⟨g2, 0, none⟩) N d2) lf) (kV : Blk w2 V 262 #[.pointer (some ⟨F, 0, none⟩)]) (kF : Blk w2 F 265 #[.slice (some ⟨g1, 0, none⟩) N d1, .slice (some ⟨g2, 0, none⟩) N d2])
 (hE : Ext W1 w2) (hds : DSx w2.heap.size W1.heap.size ds w2) (b1 : W1.heap.size <= g2) (b2 : g1 ≠ g2) (b3 : V ≠ g2) (b4 : F ≠ g2) :
 Owns EInt w3 base 3 (.slice (some ⟨g1, 0, none⟩) N d1) m /\ Owns EBool w3 base 4 (.slice (some ⟨g2, 0, none⟩) N d2) (if 0 <= r then lf.set r.toNat true else lf) /\ Blk w3 V 262 #[.pointer (some ⟨F, 0, none⟩)] /\ Blk w3 F 265 #[.slice (some ⟨g1, 0, none⟩) N d1, .slice (some ⟨g2, 0, none⟩) N d2] /\ Ext W1 w3 /\ DSx w3.heap.size W1.heap.size ds w3 := by
 rcases hw with ⟨rfl, rfl⟩ | ⟨h0, rfl⟩
 ·rw [if_neg (by omega)]
  exact ⟨o1, o2, kV, kF, hE, hds⟩
 ·rw [if_pos h0]
  have hb := hr.rng
  refine ⟨o1.setfar b2 _ _, o2.setb (by omega) true, blk_past kV b3, blk_past kF b4, hE.setCell b1 _, ?_⟩
  have := (hds.setCell ⟨g2, r.toNat, none⟩ (.bool true)).top
  exact this
theorem countP_set : ∀ {l : List Bool} {k : Nat}, (h : k < l.length) -> l[k] = false -> (l.set k true).countP (fun b => !b) < l.countP (fun b => !b)
 | b :: l, 0, _, h => by
   simp only [List.getElem_cons_zero] at h
   subst h
   simp
 | b :: l, k + 1, h, h2 => by
   have := countP_set (l := l) (k := k) (by simpa using h) (by simpa using h2)
   simp only [List.set_cons_succ, List.countP_cons]
   omega
def IRel (p : Pln) (src t0 n : Int) (V F g1 d1 g2 d2 : Nat) (W1 : World) (B : Nat) (r cur : Int) (lf : List Bool) (ds : List Deferred) (pre : List (HopX p r cur n)) (W : World) : Prop :=
 ∃ m : List Int, DI p.quo.length p.cons n src t0 m lf cur r (fun c => ∃ x ∈ pre, x.1.2 = c) /\ gi m r = cur /\ gb lf r = true /\
   Owns EInt W W1.heap.size 3 (.slice (some ⟨g1, 0, none⟩) p.quo.length d1) m /\ Owns EBool W W1.heap.size 4 (.slice (some ⟨g2, 0, none⟩) p.quo.length d2) lf /\
   Blk W V 262 #[.pointer (some ⟨F, 0, none⟩)] /\ Blk W F 265 #[.slice (some ⟨g1, 0, none⟩) p.quo.length d1, .slice (some ⟨g2, 0, none⟩) p.quo.length d2] /\ Ext W1 W /\ DSx B W1.heap.size ds W /\ B <= W.heap.size
theorem IRel.ext {p : Pln} {src t0 n : Int} {V F g1 d1 g2 d2 : Nat} {W1 : World} {B : Nat} {r cur : Int} {lf : List Bool} {ds : List Deferred} {pre : List (HopX p r cur n)} {W W' : World} (h : IRel p src t0 n V F g1 d1 g2 d2 W1 B r cur lf ds pre W) (hb : Ext W W') : IRel p src t0 n V F g1 d1 g2 d2 W1 B r cur lf ds pre W' := by
 obtain ⟨m, h1, h2, h3, h4, h5, h6, h7, h8, h9, h10⟩ := h
 exact ⟨m, h1, h2, h3, h4.ext hb, h5.ext hb, h6.ext hb, h7.ext hb, h8.trans hb, h9.ext hb, Nat.le_trans h10 hb.size⟩
theorem irel_own {p : Pln} {src t0 n : Int} {V F g1 d1 g2 d2 : Nat} {W1 : World} {B : Nat} {r cur : Int} {lf : List Bool} {ds : List Deferred} (hB : W1.heap.size <= B) : OwnFrom B (IRel p src t0 n V F g1 d1 g2 d2 W1 B r cur lf ds) := by
 intro pre X Y row hs hg hr
 obtain ⟨m, h1, h2, h3, h4, h5, h6, h7, h8, h9, h10⟩ := hs
 exact ⟨m, h1, h2, h3, h4.keptc hg (fun r e => (hr r e).2), h5.keptc hg (fun r e => (hr r e).2), h6.keptc hg (fun r e => (hr r e).2), h7.keptc hg (fun r e => (hr r e).2), h8.keptb hg (fun r e => Nat.le_trans hB (hr r e).1), h9.kept hg (fun r e => (hr r e).1), Nat.le_trans h10 hg.size⟩
set_option maxRecDepth 100000 in
set_option maxHeartbeats 4000000 in
theorem arrivals_any (Aq : Option Addr) (cq : Nat) (Ac : Option Addr) (cc : Nat) (p : Pln) (src t0 n : Int) (w : World) (h : PlnRd w Aq cq Ac cc p) (hok : p.Ok) (ha : p.argF src t0 n = true) :
 Calls Tryz.prog 77 #[p.val Aq cq Ac cc, .int .i64 src, .int .i64 t0, .int .i64 n] w fun e w' => ∃ v, e = .returned v /\ Owns EInt w' w.heap.size 3 v (p.arrs src t0 n) /\ Ext w w' := by
 have J := Pln.jc hok ha
 obtain ⟨W1, hW1, hB1, hk1, hl1⟩ := box1 w #[.slice Aq p.quo.length cq, .slice Ac p.cons.length cc] 68
 obtain ⟨ib, hib, hbz, hb1, hb2⟩ := info_parts info_bool
 have hn1 := hok.n1
 have hn16 := hok.n16
 have hmk := fun w => run_make1 (n := p.quo.length) Tryz.underlying92 hib hbz hb1 (by omega) rfl (by omega) w
 have hc1 := hk1.cell
 refine (callsIn_wide (n := 5)).1 ?_
 refine callsIn_of_wp_marks Tryz.func77 rfl trivial ?_ rfl
 refine wpIn_wide.2 ?_
 refine Code.wp_mono NoPanic.imp ?_
 unfold Pln.val
 simp only [Tryz.ntmps77, List.size_toArray, List.length_cons, List.length_nil, Nat.reduceAdd, Nat.reduceSub, Array.replicate_succ, Array.replicate_zero, List.push_toArray, List.append_toArray, List.nil_append, List.cons_append]
 go_wp2_with fail
 clear hW1
 go_cut [9] from 14 to 24 (fun f wx => FrR W1 p.quo.length f wx)
 case first =>
  have hl1a : w.heap.size < W1.heap.size + 1 := by omega
  have hl1b : w.heap.size < W1.heap.size + 1 + 1 := by omega
  have hl1c : w.heap.size < W1.heap.size + 1 + 1 + 1 := by omega
  have hN := Near.refl W1
  clear hc1
  have hc1 := hk1.cell
  go_region_held3 (fun w' => Ext W1 w' /\ ∀ b o, b < W1.heap.size -> w'.cell? ⟨b, o, none⟩ = W1.cell? ⟨b, o, none⟩) (first | exact hN.drew | exact Near.alloc (by assumption) _ | exact Near.step (by assumption) hb4 | (refine Near.of ?_; repeat (first | exact hx4 | refine Ext.alloc ?_ _ | (refine Ext.setCell ?_ ?_ _; rotate_left; (focus (first | exact Nat.le_refl _ | (dsimp only; omega)))))))
   (first
    | (go_at_call 157; refine (repeat_sl _ _ _ (-1) p.quo.length _ (rd_blk (l := [-1]) (e := 3) (by simp [blk_alloc_iff, blk_drew, EInt, Elt.all, ne2, ne2'])) hn1 hn16).mono ?_; rintro e w4 ⟨g4, d4, rfl, hv4, hg4, hg5, hb4⟩; have hx4 : Ext W1 w4 := Ext.trans (And.left (by assumption)) hb4; have hv5 : Owns EInt w4 W1.heap.size 3 (.slice (some ⟨g4, 0, none⟩) p.quo.length d4) (List.replicate p.quo.length (-1)) := hv4.mono (Ext.size (And.left (by assumption))); have hl4 := (hk1.ext hx4).lt; have hc4 := (hk1.ext hx4).cell; have hS4 := hb4.size;
       (try simp at hS4); (try simp at hg4);
       have hz0 := fun (hh : Blk _ (W1.heap.size) 262 #[.pointer none]) => Blk.ext hh hb4; (try simp [blk_alloc_iff, blk_drew, ne2, ne2', blk_no0, blk_no1, blk_no2] at hz0); (try (have hz0c := Blk.cell hz0; have hz0f := Blk.frozen hz0; have hz0l := Blk.lt hz0; have hz0s := fun u => Blk.set0 hz0 u));
       have hy0 := fun (hh : Blk _ (W1.heap.size) 4 (Array.replicate p.quo.length (.bool false))) => Blk.ext hh hb4; (try simp [blk_alloc_iff, blk_drew, ne2, ne2', blk_no0, blk_no1, blk_no2] at hy0);
       have hz1 := fun (hh : Blk _ (W1.heap.size + 1) 262 #[.pointer none]) => Blk.ext hh hb4; (try simp [blk_alloc_iff, blk_drew, ne2, ne2', blk_no0, blk_no1, blk_no2] at hz1); (try (have hz1c := Blk.cell hz1; have hz1f := Blk.frozen hz1; have hz1l := Blk.lt hz1; have hz1s := fun u => Blk.set0 hz1 u; have hz1m := Nat.lt_of_succ_lt hz1l));
       have hy1 := fun (hh : Blk _ (W1.heap.size + 1) 4 (Array.replicate p.quo.length (.bool false))) => Blk.ext hh hb4; (try simp [blk_alloc_iff, blk_drew, ne2, ne2', blk_no0, blk_no1, blk_no2] at hy1);
       have hz2 := fun (hh : Blk _ (W1.heap.size + 1 + 1) 262 #[.pointer none]) => Blk.ext hh hb4; (try simp [blk_alloc_iff, blk_drew, ne2, ne2', blk_no0, blk_no1, blk_no2] at hz2); (try (have hz2c := Blk.cell hz2; have hz2f := Blk.frozen hz2; have hz2l := Blk.lt hz2; have hz2s := fun u => Blk.set0 hz2 u; have hz2m := Nat.lt_of_succ_lt hz2l; have hz2n := Nat.lt_of_succ_lt hz2m));
       have hy2 := fun (hh : Blk _ (W1.heap.size + 1 + 1) 4 (Array.replicate p.quo.length (.bool false))) => Blk.ext hh hb4; (try simp [blk_alloc_iff, blk_drew, ne2, ne2', blk_no0, blk_no1, blk_no2] at hy2)))
  all_goals
   go_wp2_with fail
   go_meet
   first
    | (refine ⟨_, w4.heap.size, g4, d4, W1.heap.size, _, rfl, ?_, ?_, ?_, own_bool ?_ ?_ hn16, ?_, ?_⟩
       ·(repeat (first | exact hz0s _ | exact hz1s _ | exact hz2s _ | exact hy0 | exact hy1 | exact hy2 | (refine blk_here ?_; (focus (simp; done))) | refine blk_there ?_ _ | (refine blk_past ?_ ?_; rotate_left; (focus omega)))); done
       ·(repeat (first | exact hz0s _ | exact hz1s _ | exact hz2s _ | exact hy0 | exact hy1 | exact hy2 | (refine blk_here ?_; (focus (simp; done))) | refine blk_there ?_ _ | (refine blk_past ?_ ?_; rotate_left; (focus omega)))); done
       ·(repeat (first | exact hv5 | refine Owns.alloc1 ?_ _ | (refine Owns.setfar ?_ ?_ _ _; rotate_left; (focus omega)))); done
       ·(repeat (first | exact hz0s _ | exact hz1s _ | exact hz2s _ | exact hy0 | exact hy1 | exact hy2 | (refine blk_here ?_; (focus (simp; done))) | refine blk_there ?_ _ | (refine blk_past ?_ ?_; rotate_left; (focus omega)))); done
       ·omega
       ·(repeat (first | exact hx4 | refine Ext.alloc ?_ _ | (refine Ext.setCell ?_ ?_ _; rotate_left; (focus (first | exact Nat.le_refl _ | (dsimp only; omega)))))); done
       ·omega)
    | (refine ⟨_, w4.heap.size + 1, g4, d4, W1.heap.size, _, rfl, ?_, ?_, ?_, own_bool ?_ ?_ hn16, ?_, ?_⟩
       ·(repeat (first | exact hz0s _ | exact hz1s _ | exact hz2s _ | exact hy0 | exact hy1 | exact hy2 | (refine blk_here ?_; (focus (simp; done))) | refine blk_there ?_ _ | (refine blk_past ?_ ?_; rotate_left; (focus omega)))); done
       ·(repeat (first | exact hz0s _ | exact hz1s _ | exact hz2s _ | exact hy0 | exact hy1 | exact hy2 | (refine blk_here ?_; (focus (simp; done))) | refine blk_there ?_ _ | (refine blk_past ?_ ?_; rotate_left; (focus omega)))); done
       ·(repeat (first | exact hv5 | refine Owns.alloc1 ?_ _ | (refine Owns.setfar ?_ ?_ _ _; rotate_left; (focus omega)))); done
       ·(repeat (first | exact hz0s _ | exact hz1s _ | exact hz2s _ | exact hy0 | exact hy1 | exact hy2 | (refine blk_here ?_; (focus (simp; done))) | refine blk_there ?_ _ | (refine blk_past ?_ ?_; rotate_left; (focus omega)))); done
       ·omega
       ·(repeat (first | exact hx4 | refine Ext.alloc ?_ _ | (refine Ext.setCell ?_ ?_ _; rotate_left; (focus (first | exact Nat.le_refl _ | (dsimp only; omega)))))); done
       ·omega)
    | (refine ⟨_, w4.heap.size + 1 + 1, g4, d4, W1.heap.size, _, rfl, ?_, ?_, ?_, own_bool ?_ ?_ hn16, ?_, ?_⟩
       ·(repeat (first | exact hz0s _ | exact hz1s _ | exact hz2s _ | exact hy0 | exact hy1 | exact hy2 | (refine blk_here ?_; (focus (simp; done))) | refine blk_there ?_ _ | (refine blk_past ?_ ?_; rotate_left; (focus omega)))); done
       ·(repeat (first | exact hz0s _ | exact hz1s _ | exact hz2s _ | exact hy0 | exact hy1 | exact hy2 | (refine blk_here ?_; (focus (simp; done))) | refine blk_there ?_ _ | (refine blk_past ?_ ?_; rotate_left; (focus omega)))); done
       ·(repeat (first | exact hv5 | refine Owns.alloc1 ?_ _ | (refine Owns.setfar ?_ ?_ _ _; rotate_left; (focus omega)))); done
       ·(repeat (first | exact hz0s _ | exact hz1s _ | exact hz2s _ | exact hy0 | exact hy1 | exact hy2 | (refine blk_here ?_; (focus (simp; done))) | refine blk_there ?_ _ | (refine blk_past ?_ ?_; rotate_left; (focus omega)))); done
       ·omega
       ·(repeat (first | exact hx4 | refine Ext.alloc ?_ _ | (refine Ext.setCell ?_ ?_ _; rotate_left; (focus (first | exact Nat.le_refl _ | (dsimp only; omega)))))); done
       ·omega)
    | (refine ⟨_, w4.heap.size, g4, d4, W1.heap.size + 1, _, rfl, ?_, ?_, ?_, own_bool ?_ ?_ hn16, ?_, ?_⟩
       ·(repeat (first | exact hz0s _ | exact hz1s _ | exact hz2s _ | exact hy0 | exact hy1 | exact hy2 | (refine blk_here ?_; (focus (simp; done))) | refine blk_there ?_ _ | (refine blk_past ?_ ?_; rotate_left; (focus omega)))); done
       ·(repeat (first | exact hz0s _ | exact hz1s _ | exact hz2s _ | exact hy0 | exact hy1 | exact hy2 | (refine blk_here ?_; (focus (simp; done))) | refine blk_there ?_ _ | (refine blk_past ?_ ?_; rotate_left; (focus omega)))); done
       ·(repeat (first | exact hv5 | refine Owns.alloc1 ?_ _ | (refine Owns.setfar ?_ ?_ _ _; rotate_left; (focus omega)))); done
       ·(repeat (first | exact hz0s _ | exact hz1s _ | exact hz2s _ | exact hy0 | exact hy1 | exact hy2 | (refine blk_here ?_; (focus (simp; done))) | refine blk_there ?_ _ | (refine blk_past ?_ ?_; rotate_left; (focus omega)))); done
       ·omega
       ·(repeat (first | exact hx4 | refine Ext.alloc ?_ _ | (refine Ext.setCell ?_ ?_ _; rotate_left; (focus (first | exact Nat.le_refl _ | (dsimp only; omega)))))); done
       ·omega)
    | (refine ⟨_, w4.heap.size + 1, g4, d4, W1.heap.size + 1, _, rfl, ?_, ?_, ?_, own_bool ?_ ?_ hn16, ?_, ?_⟩
       ·(repeat (first | exact hz0s _ | exact hz1s _ | exact hz2s _ | exact hy0 | exact hy1 | exact hy2 | (refine blk_here ?_; (focus (simp; done))) | refine blk_there ?_ _ | (refine blk_past ?_ ?_; rotate_left; (focus omega)))); done
       ·(repeat (first | exact hz0s _ | exact hz1s _ | exact hz2s _ | exact hy0 | exact hy1 | exact hy2 | (refine blk_here ?_; (focus (simp; done))) | refine blk_there ?_ _ | (refine blk_past ?_ ?_; rotate_left; (focus omega)))); done
       ·(repeat (first | exact hv5 | refine Owns.alloc1 ?_ _ | (refine Owns.setfar ?_ ?_ _ _; rotate_left; (focus omega)))); done
       ·(repeat (first | exact hz0s _ | exact hz1s _ | exact hz2s _ | exact hy0 | exact hy1 | exact hy2 | (refine blk_here ?_; (focus (simp; done))) | refine blk_there ?_ _ | (refine blk_past ?_ ?_; rotate_left; (focus omega)))); done
       ·omega
       ·(repeat (first | exact hx4 | refine Ext.alloc ?_ _ | (refine Ext.setCell ?_ ?_ _; rotate_left; (focus (first | exact Nat.le_refl _ | (dsimp only; omega)))))); done
       ·omega)
    | (refine ⟨_, w4.heap.size + 1 + 1, g4, d4, W1.heap.size + 1, _, rfl, ?_, ?_, ?_, own_bool ?_ ?_ hn16, ?_, ?_⟩
       ·(repeat (first | exact hz0s _ | exact hz1s _ | exact hz2s _ | exact hy0 | exact hy1 | exact hy2 | (refine blk_here ?_; (focus (simp; done))) | refine blk_there ?_ _ | (refine blk_past ?_ ?_; rotate_left; (focus omega)))); done
       ·(repeat (first | exact hz0s _ | exact hz1s _ | exact hz2s _ | exact hy0 | exact hy1 | exact hy2 | (refine blk_here ?_; (focus (simp; done))) | refine blk_there ?_ _ | (refine blk_past ?_ ?_; rotate_left; (focus omega)))); done
       ·(repeat (first | exact hv5 | refine Owns.alloc1 ?_ _ | (refine Owns.setfar ?_ ?_ _ _; rotate_left; (focus omega)))); done
       ·(repeat (first | exact hz0s _ | exact hz1s _ | exact hz2s _ | exact hy0 | exact hy1 | exact hy2 | (refine blk_here ?_; (focus (simp; done))) | refine blk_there ?_ _ | (refine blk_past ?_ ?_; rotate_left; (focus omega)))); done
       ·omega
       ·(repeat (first | exact hx4 | refine Ext.alloc ?_ _ | (refine Ext.setCell ?_ ?_ _; rotate_left; (focus (first | exact Nat.le_refl _ | (dsimp only; omega)))))); done
       ·omega)
    | (refine ⟨_, w4.heap.size, g4, d4, W1.heap.size + 1 + 1, _, rfl, ?_, ?_, ?_, own_bool ?_ ?_ hn16, ?_, ?_⟩
       ·(repeat (first | exact hz0s _ | exact hz1s _ | exact hz2s _ | exact hy0 | exact hy1 | exact hy2 | (refine blk_here ?_; (focus (simp; done))) | refine blk_there ?_ _ | (refine blk_past ?_ ?_; rotate_left; (focus omega)))); done
       ·(repeat (first | exact hz0s _ | exact hz1s _ | exact hz2s _ | exact hy0 | exact hy1 | exact hy2 | (refine blk_here ?_; (focus (simp; done))) | refine blk_there ?_ _ | (refine blk_past ?_ ?_; rotate_left; (focus omega)))); done
       ·(repeat (first | exact hv5 | refine Owns.alloc1 ?_ _ | (refine Owns.setfar ?_ ?_ _ _; rotate_left; (focus omega)))); done
       ·(repeat (first | exact hz0s _ | exact hz1s _ | exact hz2s _ | exact hy0 | exact hy1 | exact hy2 | (refine blk_here ?_; (focus (simp; done))) | refine blk_there ?_ _ | (refine blk_past ?_ ?_; rotate_left; (focus omega)))); done
       ·omega
       ·(repeat (first | exact hx4 | refine Ext.alloc ?_ _ | (refine Ext.setCell ?_ ?_ _; rotate_left; (focus (first | exact Nat.le_refl _ | (dsimp only; omega)))))); done
       ·omega)
    | (refine ⟨_, w4.heap.size + 1, g4, d4, W1.heap.size + 1 + 1, _, rfl, ?_, ?_, ?_, own_bool ?_ ?_ hn16, ?_, ?_⟩
       ·(repeat (first | exact hz0s _ | exact hz1s _ | exact hz2s _ | exact hy0 | exact hy1 | exact hy2 | (refine blk_here ?_; (focus (simp; done))) | refine blk_there ?_ _ | (refine blk_past ?_ ?_; rotate_left; (focus omega)))); done
       ·(repeat (first | exact hz0s _ | exact hz1s _ | exact hz2s _ | exact hy0 | exact hy1 | exact hy2 | (refine blk_here ?_; (focus (simp; done))) | refine blk_there ?_ _ | (refine blk_past ?_ ?_; rotate_left; (focus omega)))); done
       ·(repeat (first | exact hv5 | refine Owns.alloc1 ?_ _ | (refine Owns.setfar ?_ ?_ _ _; rotate_left; (focus omega)))); done
       ·(repeat (first | exact hz0s _ | exact hz1s _ | exact hz2s _ | exact hy0 | exact hy1 | exact hy2 | (refine blk_here ?_; (focus (simp; done))) | refine blk_there ?_ _ | (refine blk_past ?_ ?_; rotate_left; (focus omega)))); done
       ·omega
       ·(repeat (first | exact hx4 | refine Ext.alloc ?_ _ | (refine Ext.setCell ?_ ?_ _; rotate_left; (focus (first | exact Nat.le_refl _ | (dsimp only; omega)))))); done
       ·omega)
    | (refine ⟨_, w4.heap.size + 1 + 1, g4, d4, W1.heap.size + 1 + 1, _, rfl, ?_, ?_, ?_, own_bool ?_ ?_ hn16, ?_, ?_⟩
       ·(repeat (first | exact hz0s _ | exact hz1s _ | exact hz2s _ | exact hy0 | exact hy1 | exact hy2 | (refine blk_here ?_; (focus (simp; done))) | refine blk_there ?_ _ | (refine blk_past ?_ ?_; rotate_left; (focus omega)))); done
       ·(repeat (first | exact hz0s _ | exact hz1s _ | exact hz2s _ | exact hy0 | exact hy1 | exact hy2 | (refine blk_here ?_; (focus (simp; done))) | refine blk_there ?_ _ | (refine blk_past ?_ ?_; rotate_left; (focus omega)))); done
       ·(repeat (first | exact hv5 | refine Owns.alloc1 ?_ _ | (refine Owns.setfar ?_ ?_ _ _; rotate_left; (focus omega)))); done
       ·(repeat (first | exact hz0s _ | exact hz1s _ | exact hz2s _ | exact hy0 | exact hy1 | exact hy2 | (refine blk_here ?_; (focus (simp; done))) | refine blk_there ?_ _ | (refine blk_past ?_ ?_; rotate_left; (focus omega)))); done
       ·omega
       ·(repeat (first | exact hx4 | refine Ext.alloc ?_ _ | (refine Ext.setCell ?_ ?_ _; rotate_left; (focus (first | exact Nat.le_refl _ | (dsimp only; omega)))))); done
       ·omega)
    | (refine ⟨_, w4.heap.size + 1, g4, d4, w4.heap.size, _, rfl, ?_, ?_, ?_, own_bool ?_ ?_ hn16, ?_, ?_⟩
       ·(repeat (first | exact hz0s _ | exact hz1s _ | exact hz2s _ | exact hy0 | exact hy1 | exact hy2 | (refine blk_here ?_; (focus (simp; done))) | refine blk_there ?_ _ | (refine blk_past ?_ ?_; rotate_left; (focus omega)))); done
       ·(repeat (first | exact hz0s _ | exact hz1s _ | exact hz2s _ | exact hy0 | exact hy1 | exact hy2 | (refine blk_here ?_; (focus (simp; done))) | refine blk_there ?_ _ | (refine blk_past ?_ ?_; rotate_left; (focus omega)))); done
       ·(repeat (first | exact hv5 | refine Owns.alloc1 ?_ _ | (refine Owns.setfar ?_ ?_ _ _; rotate_left; (focus omega)))); done
       ·(repeat (first | exact hz0s _ | exact hz1s _ | exact hz2s _ | exact hy0 | exact hy1 | exact hy2 | (refine blk_here ?_; (focus (simp; done))) | refine blk_there ?_ _ | (refine blk_past ?_ ?_; rotate_left; (focus omega)))); done
       ·omega
       ·(repeat (first | exact hx4 | refine Ext.alloc ?_ _ | (refine Ext.setCell ?_ ?_ _; rotate_left; (focus (first | exact Nat.le_refl _ | (dsimp only; omega)))))); done
       ·omega)
    | (refine ⟨_, w4.heap.size + 1 + 1, g4, d4, w4.heap.size, _, rfl, ?_, ?_, ?_, own_bool ?_ ?_ hn16, ?_, ?_⟩
       ·(repeat (first | exact hz0s _ | exact hz1s _ | exact hz2s _ | exact hy0 | exact hy1 | exact hy2 | (refine blk_here ?_; (focus (simp; done))) | refine blk_there ?_ _ | (refine blk_past ?_ ?_; rotate_left; (focus omega)))); done
       ·(repeat (first | exact hz0s _ | exact hz1s _ | exact hz2s _ | exact hy0 | exact hy1 | exact hy2 | (refine blk_here ?_; (focus (simp; done))) | refine blk_there ?_ _ | (refine blk_past ?_ ?_; rotate_left; (focus omega)))); done
       ·(repeat (first | exact hv5 | refine Owns.alloc1 ?_ _ | (refine Owns.setfar ?_ ?_ _ _; rotate_left; (focus omega)))); done
       ·(repeat (first | exact hz0s _ | exact hz1s _ | exact hz2s _ | exact hy0 | exact hy1 | exact hy2 | (refine blk_here ?_; (focus (simp; done))) | refine blk_there ?_ _ | (refine blk_past ?_ ?_; rotate_left; (focus omega)))); done
       ·omega
       ·(repeat (first | exact hx4 | refine Ext.alloc ?_ _ | (refine Ext.setCell ?_ ?_ _; rotate_left; (focus (first | exact Nat.le_refl _ | (dsimp only; omega)))))); done
       ·omega)
    | (refine ⟨_, w4.heap.size, g4, d4, w4.heap.size + 1, _, rfl, ?_, ?_, ?_, own_bool ?_ ?_ hn16, ?_, ?_⟩
       ·(repeat (first | exact hz0s _ | exact hz1s _ | exact hz2s _ | exact hy0 | exact hy1 | exact hy2 | (refine blk_here ?_; (focus (simp; done))) | refine blk_there ?_ _ | (refine blk_past ?_ ?_; rotate_left; (focus omega)))); done
       ·(repeat (first | exact hz0s _ | exact hz1s _ | exact hz2s _ | exact hy0 | exact hy1 | exact hy2 | (refine blk_here ?_; (focus (simp; done))) | refine blk_there ?_ _ | (refine blk_past ?_ ?_; rotate_left; (focus omega)))); done
       ·(repeat (first | exact hv5 | refine Owns.alloc1 ?_ _ | (refine Owns.setfar ?_ ?_ _ _; rotate_left; (focus omega)))); done
       ·(repeat (first | exact hz0s _ | exact hz1s _ | exact hz2s _ | exact hy0 | exact hy1 | exact hy2 | (refine blk_here ?_; (focus (simp; done))) | refine blk_there ?_ _ | (refine blk_past ?_ ?_; rotate_left; (focus omega)))); done
       ·omega
       ·(repeat (first | exact hx4 | refine Ext.alloc ?_ _ | (refine Ext.setCell ?_ ?_ _; rotate_left; (focus (first | exact Nat.le_refl _ | (dsimp only; omega)))))); done
       ·omega)
    | (refine ⟨_, w4.heap.size + 1 + 1, g4, d4, w4.heap.size + 1, _, rfl, ?_, ?_, ?_, own_bool ?_ ?_ hn16, ?_, ?_⟩
       ·(repeat (first | exact hz0s _ | exact hz1s _ | exact hz2s _ | exact hy0 | exact hy1 | exact hy2 | (refine blk_here ?_; (focus (simp; done))) | refine blk_there ?_ _ | (refine blk_past ?_ ?_; rotate_left; (focus omega)))); done
       ·(repeat (first | exact hz0s _ | exact hz1s _ | exact hz2s _ | exact hy0 | exact hy1 | exact hy2 | (refine blk_here ?_; (focus (simp; done))) | refine blk_there ?_ _ | (refine blk_past ?_ ?_; rotate_left; (focus omega)))); done
       ·(repeat (first | exact hv5 | refine Owns.alloc1 ?_ _ | (refine Owns.setfar ?_ ?_ _ _; rotate_left; (focus omega)))); done
       ·(repeat (first | exact hz0s _ | exact hz1s _ | exact hz2s _ | exact hy0 | exact hy1 | exact hy2 | (refine blk_here ?_; (focus (simp; done))) | refine blk_there ?_ _ | (refine blk_past ?_ ?_; rotate_left; (focus omega)))); done
       ·omega
       ·(repeat (first | exact hx4 | refine Ext.alloc ?_ _ | (refine Ext.setCell ?_ ?_ _; rotate_left; (focus (first | exact Nat.le_refl _ | (dsimp only; omega)))))); done
       ·omega)
 case rest =>
  obtain ⟨V, F, g1, d1, g2, d2, rfl, kV, kF, own1, own2, hEx, i1, i2, i3, i4, n1, n2, n3, n4, n5, n6⟩ := hcut
  have ha2 := ha
  simp only [Pln.argF, decide_eq_true_eq] at ha2
  obtain ⟨a1, a2, a3, a4, a5, a6⟩ := ha2
  have kp := hk1.ext hEx
  have hcV := kV.cell
  have hcF := kF.cell
  have hcg := own1.gi (i := src) (by simp; omega)
  obtain ⟨hgl, hfz⟩ := own1.free
  obtain ⟨w2, hw2⟩ : ∃ w2, wc.setCell ⟨g1, src.toNat, none⟩ (.int .i64 t0) = w2 := ⟨_, rfl⟩
  have hg2 : wc.grownBy w2 (some g1) := by rw [<- hw2]; exact grown_setCell (World.grownBy.refl wc _) _ _
  have own1' : Owns EInt w2 W1.heap.size 3 (.slice (some ⟨g1, 0, none⟩) p.quo.length d1) (lstart p.quo.length src t0) := by
   rw [<- hw2]; exact own1.seti (by simp; omega) t0
  have own2' := own2.kept hg2 (fun g' hg' e' => n6 (by injection e' with e'; injection hg' with hg'; exact e'.symm.trans hg'.symm))
  have kV2 := kV.keptg hg2 n2
  have kF2 := kF.keptg hg2 n4
  have kp2 := kp.keptg hg2 (by omega)
  have hcV2 := kV2.cell
  have hcF2 := kF2.cell
  have hE2 : Ext w w2 := ext_of_grown (hB1.trans hEx) hg2 (by omega)
  have hsrc : src.toNat < p.quo.length := by omega
  have hnx := next_any F g1 g2 d1 d2 W1.heap.size p.quo.length _ _ w2 kF2 own1' own2' hn16
  have Hnx := Lib.hid hnx
  clear hnx hmk hc1
  go_wp2_with fail
  clear hcV hcF hcg hgl hfz hw2
  refine Hnx.out.mono ?_
  rintro e w3 ⟨r, rfl, hr, hw3⟩
  go_wp2_with fail
  have D0 := DI.init J
  obtain ⟨q1, q2, q3, q4, q5, q6⟩ := next_mem hr D0.lfl hw3 own1' own2' kV2 kF2 (ext_of_grown hEx hg2 (by omega)) (DSx.nil _ _ _) i4 n6 n3 n5
  obtain ⟨r0, rfl⟩ : ∃ r0, r0 = r := ⟨r, rfl⟩
  refine wp_loop_ghost_k (fun k a wr => ∃ (u11 u36 u37 u38 u39 u40 u41 u42 u43 u44 u45 u46 u47 u48 u49 u50 u51 : Value) (ds : List Deferred), ARel p src t0 n V F g1 d1 g2 d2 W1 k u11 ds wr /\
   a = { tmps := #[.agg #[.slice Aq p.quo.length cq, .slice Ac p.cons.length cc], .int .i64 src, .int .i64 t0, .int .i64 n, .pointer (some ⟨w.heap.size, 0, none⟩), undef, undef, undef, .slice none 0 0, .pointer (some ⟨V, 0, none⟩), .func (.func 158) #[.pointer (some ⟨F, 0, none⟩)] #[], u11, undef, undef, u14, u15, u16, u17, u18, u19, u20, u21, u22, u23, u24, .pointer (some ⟨F, 0, none⟩), .pointer (some ⟨F, 0, none⟩), .pointer (some ⟨F, 0, none⟩), .slice (some ⟨g1, 0, none⟩) p.quo.length d1, .int .i64 src, .int .i64 t0, .pointer (some ⟨g1, src.toNat, none⟩), .pointer (some ⟨F, 0, none⟩), .func (.func 158) #[.pointer (some ⟨F, 0, none⟩)] #[], .func (.func 158) #[.pointer (some ⟨F, 0, none⟩)] #[], .int .i64 r0, u36, u37, u38, u39, u40, u41, u42, u43, u44, u45, u46, u47, u48, u49, u50, u51, undef, undef, undef, undef, undef, undef, undef, undef, undef, undef, undef, undef, undef, undef, undef, undef, undef, undef, undef, undef, undef, undef, undef, undef, undef, undef, undef, undef, undef, undef, undef, undef, undef, undef, undef, undef, undef, undef, undef], defers := ds }) ((List.replicate p.quo.length false).countP (fun b => !b)) ?_ ?_
  ·exact ⟨_, _, _, _, _, _, _, _, _, _, _, _, _, _, _, _, _, _, ⟨r0, _, _, _, rfl, D0, hr, rfl, q1, q2, q3, q4, q5, q6⟩, rfl⟩
  ·intro gk _ wr hinv
   obtain ⟨u11, u36, u37, u38, u39, u40, u41, u42, u43, u44, u45, u46, u47, u48, u49, u50, u51, ds, hrel, ha⟩ := hinv
   subst ha
   intro _ _ _ _
   clear q1 q2 q3 q4 q5 q6 D0 hr hw3 own1 own2 kV kF own1' own2' kV2 kF2 Hnx hg2 hE2 hEx
   obtain ⟨r, m, lf, cur, rfl, hD, hr, hgk, o1, o2, lV, lF, hE, hds⟩ := hrel
   have hcV := lV.cell
   have hcF := lF.cell
   have kpr := hk1.ext hE
   have hcp := kpr.cell
   have hlp := kpr.lt
   have hlV := lV.lt
   have hlF := lF.lt
   have Hhgk := Lib.hid hgk
   clear hgk hcV2 hcF2
   by_cases hr0 : 0 <= r
   ·have Hr := Lib.hid hr
    have hrN := hr.rng
    have hrg := o1.gi (i := r) (by have := hD.len; omega)
    rw [if_pos hr0] at o2
    have hkr : r.toNat < p.quo.length := by omega
    have hlg := (o1.free).1
    clear hr
    go_wp2_with fail
    have hN := Near.refl wr
    have hho := fun w' => hops_any Aq cq Ac cc p r (gi m r) n w'
    unfold Pln.val at hho
    go_region_held3 (fun w' => Ext wr w' /\ ∀ b o, b < wr.heap.size -> w'.cell? ⟨b, o, none⟩ = wr.cell? ⟨b, o, none⟩) (first | exact hN.drew | exact Near.step (by assumption) hb4)
     (first | (go_at_call 159; refine (hho _).mono ?_; rintro e w4 ⟨rfl, hb4, hs4, k1, k2, k3, k4⟩))
    go_wp2_with fail
    have hxw : Ext wr w4 := ((Ext.refl wr).drew).trans hb4
    have hs4' : w4.heap.size = wr.heap.size + 4 := hs4
    have hW1w := hE.size
    have hs4a := Lib.hid hs4'
    have hs4b : wr.heap.size + 3 < w4.heap.size := by omega
    have hrt := Hr.out
    obtain ⟨e1, e2, e3, e4⟩ : r < p.quo.length /\ gb lf r = false /\ 0 <= gi m r /\ ∀ i : Int, 0 <= i -> i < p.quo.length -> gb lf i = false -> 0 <= gi m i -> gi m r <= gi m i := by
     rcases hrt with ⟨z, _⟩ | ⟨z1, z2, z3, z4, z5⟩
     ·omega
     ·exact ⟨z2, z3, z4, z5⟩
    have hDt := Lib.hid (hD.take hr0 e1 e3 e2 e4 (fun c hc => (hok.con c hc).1.src0))
    have e4' := Lib.hid e4
    have e2' := Lib.hid e2
    clear e4 e2 hrt hs4 hs4' hcV hcF hcp hrg hho hN
    refine (wpIn_wide (n := 5)).1 ?_
    refine wpIn_rangeFunc_ownH rfl (by omega) (gf := 237) (lb := #[.pointer (some ⟨wr.heap.size, 0, none⟩), .pointer (some ⟨wr.heap.size + 1, 0, none⟩), .pointer (some ⟨wr.heap.size + 2, 0, none⟩), .pointer (some ⟨wr.heap.size + 3, 0, none⟩)]) rfl trivial (enters_of Tryz.func237 (by kernel_rfl) rfl)
     (hops_stops wr.heap.size (wr.heap.size + 1) (wr.heap.size + 2) (wr.heap.size + 3) w4.heap.size g1 Aq cq Ac cc p r (gi m r) n w w4 h hok ⟨a5, a6⟩ e3 ((hB1.trans hE).trans hxw) (by have := hB1.size; omega) (by omega) (Nat.le_refl _) k1 k2 k3 k4 ⟨by omega, by omega⟩ ⟨by omega, by omega⟩ ⟨by omega, by omega⟩ ⟨by omega, by omega⟩)
     KpX.trans (fun W l o o' hl _ _ _ => KpX.put W l o' hl) (Below.refl _ _) (fun _ => rfl)
     (IRel p src t0 n V F g1 d1 g2 d2 W1 w4.heap.size r (gi m r) (lf.set r.toNat true) ds) (fun _ _ _ => False) (irel_own (by omega)) (fun _ _ _ _ _ hs _ _ => hs)
     ⟨m, hDt.out.weak (fun c _ _ hx => by obtain ⟨x, hx, _⟩ := hx; cases hx), rfl, by rw [gb_set (by have := hD.lfl; omega), if_pos rfl], o1.ext hxw, o2.ext hxw, lV.ext hxw, lF.ext hxw, hE.trans hxw, (hds.ext hxw).more hxw.size, Nat.le_refl _⟩
     (fun x a' W => ∃ Bx, w4.heap.size <= Bx /\ Blk W Bx 94 #[.int .i64 x.1.1, .int .i64 (x.1.2.beg (gi m r)), .int .i64 (x.1.2.beg (gi m r) + x.1.2.dur n), .int .i64 (earr x.1.2 (gi m r) n)] /\ a' = { tmps := #[.agg #[.slice Aq p.quo.length cq, .slice Ac p.cons.length cc], .int .i64 src, .int .i64 t0, .int .i64 n, .pointer (some ⟨w.heap.size, 0, none⟩), undef, undef, undef, .slice none 0 0, .pointer (some ⟨V, 0, none⟩), .func (.func 158) #[.pointer (some ⟨F, 0, none⟩)] #[], .int .i64 r, .pointer (some ⟨Bx, 0, none⟩), undef, u14, u15, u16, u17, u18, u19, u20, u21, u22, u23, u24, .pointer (some ⟨F, 0, none⟩), .pointer (some ⟨F, 0, none⟩), .pointer (some ⟨F, 0, none⟩), .slice (some ⟨g1, 0, none⟩) p.quo.length d1, .int .i64 src, .int .i64 t0, .pointer (some ⟨g1, src.toNat, none⟩), .pointer (some ⟨F, 0, none⟩), .func (.func 158) #[.pointer (some ⟨F, 0, none⟩)] #[], .func (.func 158) #[.pointer (some ⟨F, 0, none⟩)] #[], .int .i64 r0, .int .i64 r, .bool true, u38, u39, .agg #[.slice Aq p.quo.length cq, .slice Ac p.cons.length cc], .int .i64 r, .pointer (some ⟨F, 0, none⟩), .pointer (some ⟨F, 0, none⟩), .pointer (some ⟨F, 0, none⟩), .slice (some ⟨g1, 0, none⟩) p.quo.length d1, .int .i64 r, .pointer (some ⟨g1, r.toNat, none⟩), .int .i64 (gi m r), .int .i64 n, .func (.func 237) #[] #[.pointer (some ⟨wr.heap.size, 0, none⟩), .pointer (some ⟨wr.heap.size + 1, 0, none⟩), .pointer (some ⟨wr.heap.size + 2, 0, none⟩), .pointer (some ⟨wr.heap.size + 3, 0, none⟩)], .agg #[.int .i64 x.1.1, .int .i64 (x.1.2.beg (gi m r)), .int .i64 (x.1.2.beg (gi m r) + x.1.2.dur n), .int .i64 (earr x.1.2 (gi m r) n)], undef, undef, undef, undef, undef, undef, undef, undef, undef, undef, undef, undef, undef, undef, undef, undef, undef, undef, undef, undef, undef, undef, undef, undef, undef, undef, undef, undef, undef, undef, undef, undef, undef, undef, undef, undef, undef, undef, undef], defers := [] })
     (fun x a' s X Y row hs hg hr => by obtain ⟨Bx, z1, z2, z3⟩ := hs; exact ⟨Bx, z1, z2.keptc hg (fun r e => (hr r e).2), z3⟩) ?assign ?body ?done ?stop
    case assign =>
     rintro l pre x W K hi hK
     have hBW : w4.heap.size <= W.heap.size := by obtain ⟨m, _, _, _, _, _, _, _, _, _, z⟩ := hi; exact z
     simp only [hopX]
     gi_wp2
     exact hK _ _ ((KeepsOthers.alloc _ _).from _) (KpX.of_ext hBW ((Ext.refl W).alloc _)) (hi.ext ((Ext.refl W).alloc _)) ⟨W.heap.size, hBW, Blk.new _ _ _, rfl⟩
    case body =>
     rintro l pre x a' W hl ⟨rr, hrr⟩ ⟨m', D', q1, q2, q3, q4, q5, q6, q7, q8, q9⟩ ⟨Bx, b1, kx, rfl⟩ hlen
     have hx1 := x.2.1
     have hx2 := x.2.2.1
     have hx3 := x.2.2.2
     obtain ⟨i, hie⟩ : ∃ i, i = x.1.1 := ⟨_, rfl⟩
     obtain ⟨c, hce⟩ : ∃ c, c = x.1.2 := ⟨_, rfl⟩
     rw [<- hie, <- hce] at kx hx1 ⊢
     rw [<- hce] at hx2 hx3
     have Hie := Lib.hid hie
     have Hce := Lib.hid hce
     clear hie hce
     have hi : i < p.cons.length := (List.getElem?_eq_some_iff.1 hx1).1
     have hcin : c ∈ p.cons := List.mem_of_getElem? hx1
     have hyc := hok.con c hcin
     have hd0 := hyc.1.dst0
     have hd1 := hyc.2.2
     have hl1' := D'.len
     obtain ⟨b, o, rfl, hb, c0, c1, c2, c3, c4, c5, c6⟩ := (h.c.ext (hB1.trans q7)).con hi
     have hci : p.cons[i] = c := by rw [List.getElem?_eq_getElem hi] at hx1; injection hx1
     rw [hci] at c0 c1 c2 c3 c4 c5 c6
     have hdl : c.dst.toNat < m'.length := by omega
     have hdl2 : c.dst < p.quo.length := by omega
     have hgd := q3.gi (i := c.dst) hdl
     obtain ⟨hgl, hgf⟩ := q3.free
     have kpw := hk1.ext q7
     have hcp := kpw.cell
     have hcV := q5.cell
     have hcF := q6.cell
     have hcx := kx.cell
     have hlp := kpw.lt
     have hlV2 := q5.lt
     have hlF2 := q6.lt
     have hlx := kx.lt
     have Hci := Lib.hid hci
     have Hx1 := Lib.hid hx1
     have Hx2 := Lib.hid hx2
     have Hx3 := Lib.hid hx3
     have Hl1 := Lib.hid hl1'
     have hrel := D'.relax J q2 q1 hcin hx2
     have Hrel := Lib.hid hrel
     have Q1 := Lib.hid q1
     have hfn : ∀ k, Fence.wide.fn k := fun _ => trivial
     have hmix : Tryz.prog.follows .mixedOrders = true := by kernel_rfl
     clear hci hx1 hx2 hx3 hl1' q1 hrel
     by_cases hg0 : gi m' c.dst < 0
     ·have hdg : decide (gi m' c.dst < 0) = true := by simpa using hg0
      gi_wp2
      refine wpIn_region_quiet_round rfl (by kernel_rfl) (by kernel_rfl) (by kernel_rfl) ?_
      repeat (gi_big_quiet_step (fail))
      refine wpQuietIn_nil ?_
      intro wq hwq
      replace hwq := quiet_drew hwq
      have r1 := kpw.ext hwq
      have r2 := q5.ext hwq
      have r3 := q6.ext hwq
      have r4 := kx.ext hwq
      have r5 := q3.ext hwq
      have r6 := r2.cell
      have r7 := r3.cell
      have r8 := r4.cell
      have r9 := r5.gi (i := c.dst) hdl
      obtain ⟨r10, r11⟩ := r5.free
      have r12 := r2.lt
      have r13 := r3.lt
      have r14 := r4.lt
      clear hcp hcV hcF hcx hgd hgf
      gi_wp2
      have hrx : relax m' c.dst (earr c (gi m r) n) = m'.set c.dst.toNat (earr c (gi m r) n) := by unfold relax; rw [if_pos ⟨Hx3.out, .inl hg0⟩]
      have FINI : IRel p src t0 n V F g1 d1 g2 d2 W1 w4.heap.size r (gi m r) (lf.set r.toNat true) ds (pre ++ [x]) (wq.drew.setCell ⟨g1, c.dst.toNat, none⟩ (.int .i64 (earr c (gi m r) n))) := by
       have hrr := Hrel.out
       rw [hrx] at hrr
       have hx4 := hwq.drew
       have hs9 := (hxw.size)
       refine ⟨_, hrr.1.weak (fun y hy hys hyp => ?_), hrr.2, q2, (r5.ext ((Ext.refl wq).drew)).seti hdl _, (q4.ext hx4).setfar (fun e => n6 e.symm) _ _, blk_past (q5.ext hx4) n2, blk_past (q6.ext hx4) n4, (q7.trans hx4).setCell i3 _, (q8.ext hx4).setCell _ _, Nat.le_trans q9 (hwq.drew.keeps.trans (KeepsOthers.setCell _ _ _)).size⟩
       obtain ⟨z, hz, hzc⟩ := hyp
       rcases List.mem_append.1 hz with hz | hz
       ·exact .inl ⟨z, hz, hzc⟩
       ·right
        rw [List.mem_singleton.1 hz] at hzc
        rw [<- hzc, Hce.out]
      have FINK : KpX w4.heap.size g1 W (wq.drew.setCell ⟨g1, c.dst.toNat, none⟩ (.int .i64 (earr c (gi m r) n))) := (KpX.of_ext q9 hwq.drew).trans (KpX.setCell _ _ _)
      have FINO : KeepsFrom w4.heap.size W (wq.drew.setCell ⟨g1, c.dst.toNat, none⟩ (.int .i64 (earr c (gi m r) n))) := (hwq.drew.keeps.trans (KeepsOthers.setCell _ _ _)).from _
      have KEEP := Lib.hid (And.intro FINO (And.intro FINK FINI))
      clear FINO FINK FINI hrx
      clear h hok ha J hB1 hk1 hE hds hxw q3 q4 q5 q6 q7 q8 D' r5 r1 r2 r3 r4 k1 k2 k3 k4 c0 c1 c2 c3 c4 c5 c6 kpw hb hcin hyc o1 o2 lV lF kpr hD kx
      refine wpIn_region_any hmix (wpAnyIn_round l rfl (by kernel_rfl) _ _ _ _ ?_)
      change wpAnyIn _ _ _ _ _ _ _ _ _ (World.drew _)
      refine wpAnyIn_take (i := 4) (v := ?_) rfl rfl (by kernel_rfl) (by kernel_rfl) (by kernel_rfl) (fun _ _ _ h => h) ⟨Or.inl ⟨by rfl, ?_⟩, fun _ => rfl⟩ ?_
      rotate_left
      ·intro w'; go_simp; first | done | with_reducible rfl
      refine wpAnyIn_take (i := 5) (v := ?_) rfl rfl (by kernel_rfl) (by kernel_rfl) (by kernel_rfl) (fun _ _ _ h => h) ⟨Or.inl ⟨by rfl, ?_⟩, fun _ => rfl⟩ ?_
      rotate_left
      ·intro w'; go_simp; first | done | with_reducible rfl
      refine wpAnyIn_ready (rs := [0, 6]) (by kernel_rfl) (by simp) ?_
      refine AllReadyIn.cons rfl (fun K hK => ?_) (AllReadyIn.cons rfl (fun K hK => ?_) AllReadyIn.nil)
      ·go_simp
       refine hK _ _ ?_
       clear hK K
       refine wpAnyIn_take (i := 1) (v := ?_) rfl rfl (by kernel_rfl) (by kernel_rfl) (by kernel_rfl) (fun _ _ _ h => h) ⟨Or.inl ⟨by rfl, ?_⟩, fun _ => rfl⟩ ?_
       rotate_left
       ·intro w'; go_simp; first | done | with_reducible rfl
       refine wpAnyIn_take (i := 2) (v := ?_) rfl rfl (by kernel_rfl) (by kernel_rfl) (by kernel_rfl) (fun _ _ _ h => h) ⟨Or.inl ⟨by rfl, ?_⟩, fun _ => rfl⟩ ?_
       rotate_left
       ·intro w'; go_simp; first | done | with_reducible rfl
       refine wpAnyIn_ready (rs := [3, 6]) (by kernel_rfl) (by simp) ?_
       refine AllReadyIn.cons rfl (fun K hK => ?_) (AllReadyIn.cons rfl (fun K hK => ?_) AllReadyIn.nil)
       ·go_simp
        refine hK _ _ ?_
        clear hK K
        refine wpAnyIn_ready (rs := [6]) (by kernel_rfl) (by simp) ?_
        refine AllReadyIn.cons rfl (fun K hK => ?_) ?_
        rotate_left
        ·exact AllReadyIn.nil
        go_simp
        refine hK _ _ ?_
        clear hK K
        refine wpAnyIn_take (i := 7) (v := ?_) rfl rfl (by kernel_rfl) (by kernel_rfl) (by kernel_rfl) (fun _ _ _ h => h) ⟨Or.inl ⟨by rfl, ?_⟩, fun _ => rfl⟩ ?_
        rotate_left
        ·intro w'; go_simp; first | done | with_reducible rfl
        refine wpAnyIn_ready (rs := [8]) (by kernel_rfl) (by simp) ?_
        refine AllReadyIn.cons rfl (fun K hK => ?_) ?_
        rotate_left
        ·exact AllReadyIn.nil
        go_simp
        refine hK _ _ ?_
        clear hK K
        refine wpAnyIn_done (by kernel_rfl) ?_ _
        gi_wp2; exact KEEP.out
       ·go_simp
        refine hK _ _ ?_
        clear hK K
        refine wpAnyIn_ready (rs := [3]) (by kernel_rfl) (by simp) ?_
        refine AllReadyIn.cons rfl (fun K hK => ?_) ?_
        rotate_left
        ·exact AllReadyIn.nil
        go_simp
        refine hK _ _ ?_
        clear hK K
        refine wpAnyIn_take (i := 7) (v := ?_) rfl rfl (by kernel_rfl) (by kernel_rfl) (by kernel_rfl) (fun _ _ _ h => h) ⟨Or.inl ⟨by rfl, ?_⟩, fun _ => rfl⟩ ?_
        rotate_left
        ·intro w'; go_simp; first | done | with_reducible rfl
        refine wpAnyIn_ready (rs := [8]) (by kernel_rfl) (by simp) ?_
        refine AllReadyIn.cons rfl (fun K hK => ?_) ?_
        rotate_left
        ·exact AllReadyIn.nil
        go_simp
        refine hK _ _ ?_
        clear hK K
        refine wpAnyIn_done (by kernel_rfl) ?_ _
        gi_wp2; exact KEEP.out
      ·go_simp
       refine hK _ _ ?_
       clear hK K
       refine wpAnyIn_ready (rs := [0]) (by kernel_rfl) (by simp) ?_
       refine AllReadyIn.cons rfl (fun K hK => ?_) ?_
       rotate_left
       ·exact AllReadyIn.nil
       go_simp
       refine hK _ _ ?_
       clear hK K
       refine wpAnyIn_take (i := 1) (v := ?_) rfl rfl (by kernel_rfl) (by kernel_rfl) (by kernel_rfl) (fun _ _ _ h => h) ⟨Or.inl ⟨by rfl, ?_⟩, fun _ => rfl⟩ ?_
       rotate_left
       ·intro w'; go_simp; first | done | with_reducible rfl
       refine wpAnyIn_take (i := 2) (v := ?_) rfl rfl (by kernel_rfl) (by kernel_rfl) (by kernel_rfl) (fun _ _ _ h => h) ⟨Or.inl ⟨by rfl, ?_⟩, fun _ => rfl⟩ ?_
       rotate_left
       ·intro w'; go_simp; first | done | with_reducible rfl
       refine wpAnyIn_ready (rs := [3]) (by kernel_rfl) (by simp) ?_
       refine AllReadyIn.cons rfl (fun K hK => ?_) ?_
       rotate_left
       ·exact AllReadyIn.nil
       go_simp
       refine hK _ _ ?_
       clear hK K
       refine wpAnyIn_take (i := 7) (v := ?_) rfl rfl (by kernel_rfl) (by kernel_rfl) (by kernel_rfl) (fun _ _ _ h => h) ⟨Or.inl ⟨by rfl, ?_⟩, fun _ => rfl⟩ ?_
       rotate_left
       ·intro w'; go_simp; first | done | with_reducible rfl
       refine wpAnyIn_ready (rs := [8]) (by kernel_rfl) (by simp) ?_
       refine AllReadyIn.cons rfl (fun K hK => ?_) ?_
       rotate_left
       ·exact AllReadyIn.nil
       go_simp
       refine hK _ _ ?_
       clear hK K
       refine wpAnyIn_done (by kernel_rfl) ?_ _
       gi_wp2; exact KEEP.out
     ·have hdg : decide (gi m' c.dst < 0) = false := by simpa using hg0
      by_cases hg1 : earr c (gi m r) n < gi m' c.dst
      ·have hdh : decide (earr c (gi m r) n < gi m' c.dst) = true := by simpa using hg1
       gi_wp2
       refine wpIn_region_quiet_round rfl (by kernel_rfl) (by kernel_rfl) (by kernel_rfl) ?_
       repeat (gi_big_quiet_step (fail))
       refine wpQuietIn_nil ?_
       intro wq hwq
       replace hwq := quiet_drew hwq
       have r1 := kpw.ext hwq
       have r2 := q5.ext hwq
       have r3 := q6.ext hwq
       have r4 := kx.ext hwq
       have r5 := q3.ext hwq
       have r6 := r2.cell
       have r7 := r3.cell
       have r8 := r4.cell
       have r9 := r5.gi (i := c.dst) hdl
       obtain ⟨r10, r11⟩ := r5.free
       have r12 := r2.lt
       have r13 := r3.lt
       have r14 := r4.lt
       clear hcp hcV hcF hcx hgd hgf
       gi_wp2
       have hrx : relax m' c.dst (earr c (gi m r) n) = m'.set c.dst.toNat (earr c (gi m r) n) := by unfold relax; rw [if_pos ⟨Hx3.out, .inr hg1⟩]
       have FINI : IRel p src t0 n V F g1 d1 g2 d2 W1 w4.heap.size r (gi m r) (lf.set r.toNat true) ds (pre ++ [x]) (wq.drew.setCell ⟨g1, c.dst.toNat, none⟩ (.int .i64 (earr c (gi m r) n))) := by
        have hrr := Hrel.out
        rw [hrx] at hrr
        have hx4 := hwq.drew
        have hs9 := (hxw.size)
        refine ⟨_, hrr.1.weak (fun y hy hys hyp => ?_), hrr.2, q2, (r5.ext ((Ext.refl wq).drew)).seti hdl _, (q4.ext hx4).setfar (fun e => n6 e.symm) _ _, blk_past (q5.ext hx4) n2, blk_past (q6.ext hx4) n4, (q7.trans hx4).setCell i3 _, (q8.ext hx4).setCell _ _, Nat.le_trans q9 (hwq.drew.keeps.trans (KeepsOthers.setCell _ _ _)).size⟩
        obtain ⟨z, hz, hzc⟩ := hyp
        rcases List.mem_append.1 hz with hz | hz
        ·exact .inl ⟨z, hz, hzc⟩
        ·right
         rw [List.mem_singleton.1 hz] at hzc
         rw [<- hzc, Hce.out]
       have FINK : KpX w4.heap.size g1 W (wq.drew.setCell ⟨g1, c.dst.toNat, none⟩ (.int .i64 (earr c (gi m r) n))) := (KpX.of_ext q9 hwq.drew).trans (KpX.setCell _ _ _)
       have FINO : KeepsFrom w4.heap.size W (wq.drew.setCell ⟨g1, c.dst.toNat, none⟩ (.int .i64 (earr c (gi m r) n))) := (hwq.drew.keeps.trans (KeepsOthers.setCell _ _ _)).from _
       have KEEP := Lib.hid (And.intro FINO (And.intro FINK FINI))
       clear FINO FINK FINI hrx
       clear h hok ha J hB1 hk1 hE hds hxw q3 q4 q5 q6 q7 q8 D' r5 r1 r2 r3 r4 k1 k2 k3 k4 c0 c1 c2 c3 c4 c5 c6 kpw hb hcin hyc o1 o2 lV lF kpr hD kx
       refine wpIn_region_any hmix (wpAnyIn_round l rfl (by kernel_rfl) _ _ _ _ ?_)
       change wpAnyIn _ _ _ _ _ _ _ _ _ (World.drew _)
       refine wpAnyIn_take (i := 4) (v := ?_) rfl rfl (by kernel_rfl) (by kernel_rfl) (by kernel_rfl) (fun _ _ _ h => h) ⟨Or.inl ⟨by rfl, ?_⟩, fun _ => rfl⟩ ?_
       rotate_left
       ·intro w'; go_simp; first | done | with_reducible rfl
       refine wpAnyIn_take (i := 5) (v := ?_) rfl rfl (by kernel_rfl) (by kernel_rfl) (by kernel_rfl) (fun _ _ _ h => h) ⟨Or.inl ⟨by rfl, ?_⟩, fun _ => rfl⟩ ?_
       rotate_left
       ·intro w'; go_simp; first | done | with_reducible rfl
       refine wpAnyIn_ready (rs := [0, 6]) (by kernel_rfl) (by simp) ?_
       refine AllReadyIn.cons rfl (fun K hK => ?_) (AllReadyIn.cons rfl (fun K hK => ?_) AllReadyIn.nil)
       ·go_simp
        refine hK _ _ ?_
        clear hK K
        refine wpAnyIn_take (i := 1) (v := ?_) rfl rfl (by kernel_rfl) (by kernel_rfl) (by kernel_rfl) (fun _ _ _ h => h) ⟨Or.inl ⟨by rfl, ?_⟩, fun _ => rfl⟩ ?_
        rotate_left
        ·intro w'; go_simp; first | done | with_reducible rfl
        refine wpAnyIn_take (i := 2) (v := ?_) rfl rfl (by kernel_rfl) (by kernel_rfl) (by kernel_rfl) (fun _ _ _ h => h) ⟨Or.inl ⟨by rfl, ?_⟩, fun _ => rfl⟩ ?_
        rotate_left
        ·intro w'; go_simp; first | done | with_reducible rfl
        refine wpAnyIn_ready (rs := [3, 6]) (by kernel_rfl) (by simp) ?_
        refine AllReadyIn.cons rfl (fun K hK => ?_) (AllReadyIn.cons rfl (fun K hK => ?_) AllReadyIn.nil)
        ·go_simp
         refine hK _ _ ?_
         clear hK K
         refine wpAnyIn_ready (rs := [6]) (by kernel_rfl) (by simp) ?_
         refine AllReadyIn.cons rfl (fun K hK => ?_) ?_
         rotate_left
         ·exact AllReadyIn.nil
         go_simp
         refine hK _ _ ?_
         clear hK K
         refine wpAnyIn_take (i := 7) (v := ?_) rfl rfl (by kernel_rfl) (by kernel_rfl) (by kernel_rfl) (fun _ _ _ h => h) ⟨Or.inl ⟨by rfl, ?_⟩, fun _ => rfl⟩ ?_
         rotate_left
         ·intro w'; go_simp; first | done | with_reducible rfl
         refine wpAnyIn_ready (rs := [8]) (by kernel_rfl) (by simp) ?_
         refine AllReadyIn.cons rfl (fun K hK => ?_) ?_
         rotate_left
         ·exact AllReadyIn.nil
         go_simp
         refine hK _ _ ?_
         clear hK K
         refine wpAnyIn_done (by kernel_rfl) ?_ _
         gi_wp2; exact KEEP.out
        ·go_simp
         refine hK _ _ ?_
         clear hK K
         refine wpAnyIn_ready (rs := [3]) (by kernel_rfl) (by simp) ?_
         refine AllReadyIn.cons rfl (fun K hK => ?_) ?_
         rotate_left
         ·exact AllReadyIn.nil
         go_simp
         refine hK _ _ ?_
         clear hK K
         refine wpAnyIn_take (i := 7) (v := ?_) rfl rfl (by kernel_rfl) (by kernel_rfl) (by kernel_rfl) (fun _ _ _ h => h) ⟨Or.inl ⟨by rfl, ?_⟩, fun _ => rfl⟩ ?_
         rotate_left
         ·intro w'; go_simp; first | done | with_reducible rfl
         refine wpAnyIn_ready (rs := [8]) (by kernel_rfl) (by simp) ?_
         refine AllReadyIn.cons rfl (fun K hK => ?_) ?_
         rotate_left
         ·exact AllReadyIn.nil
         go_simp
         refine hK _ _ ?_
         clear hK K
         refine wpAnyIn_done (by kernel_rfl) ?_ _
         gi_wp2; exact KEEP.out
       ·go_simp
        refine hK _ _ ?_
        clear hK K
        refine wpAnyIn_ready (rs := [0]) (by kernel_rfl) (by simp) ?_
        refine AllReadyIn.cons rfl (fun K hK => ?_) ?_
        rotate_left
        ·exact AllReadyIn.nil
        go_simp
        refine hK _ _ ?_
        clear hK K
        refine wpAnyIn_take (i := 1) (v := ?_) rfl rfl (by kernel_rfl) (by kernel_rfl) (by kernel_rfl) (fun _ _ _ h => h) ⟨Or.inl ⟨by rfl, ?_⟩, fun _ => rfl⟩ ?_
        rotate_left
        ·intro w'; go_simp; first | done | with_reducible rfl
        refine wpAnyIn_take (i := 2) (v := ?_) rfl rfl (by kernel_rfl) (by kernel_rfl) (by kernel_rfl) (fun _ _ _ h => h) ⟨Or.inl ⟨by rfl, ?_⟩, fun _ => rfl⟩ ?_
        rotate_left
        ·intro w'; go_simp; first | done | with_reducible rfl
        refine wpAnyIn_ready (rs := [3]) (by kernel_rfl) (by simp) ?_
        refine AllReadyIn.cons rfl (fun K hK => ?_) ?_
        rotate_left
        ·exact AllReadyIn.nil
        go_simp
        refine hK _ _ ?_
        clear hK K
        refine wpAnyIn_take (i := 7) (v := ?_) rfl rfl (by kernel_rfl) (by kernel_rfl) (by kernel_rfl) (fun _ _ _ h => h) ⟨Or.inl ⟨by rfl, ?_⟩, fun _ => rfl⟩ ?_
        rotate_left
        ·intro w'; go_simp; first | done | with_reducible rfl
        refine wpAnyIn_ready (rs := [8]) (by kernel_rfl) (by simp) ?_
        refine AllReadyIn.cons rfl (fun K hK => ?_) ?_
        rotate_left
        ·exact AllReadyIn.nil
        go_simp
        refine hK _ _ ?_
        clear hK K
        refine wpAnyIn_done (by kernel_rfl) ?_ _
        gi_wp2; exact KEEP.out
      ·have hdh : decide (earr c (gi m r) n < gi m' c.dst) = false := by simpa using hg1
       have hrx : relax m' c.dst (earr c (gi m r) n) = m' := by unfold relax; rw [if_neg (fun hh => by rcases hh.2 with hh | hh <;> omega)]
       have Hrx := Lib.hid hrx
       clear hrx
       gi_wp2
       refine wpIn_region_quiet_round rfl (by kernel_rfl) (by kernel_rfl) (by kernel_rfl) ?_
       repeat (gi_big_quiet_step (fail))
       refine wpQuietIn_nil ?_
       intro wq hwq
       replace hwq := quiet_drew hwq
       gi_wp2
       have hrr := Hrel.out
       rw [Hrx.out] at hrr
       refine ⟨hwq.keeps.from _, KpX.of_ext q9 hwq, ⟨_, hrr.1.weak (fun y hy hys hyp => ?_), hrr.2, q2, q3.ext hwq, q4.ext hwq, q5.ext hwq, q6.ext hwq, q7.trans hwq, q8.ext hwq, Nat.le_trans q9 hwq.size⟩⟩
       obtain ⟨z, hz, hzc⟩ := hyp
       rcases List.mem_append.1 hz with hz | hz
       ·exact .inl ⟨z, hz, hzc⟩
       ·right
        rw [List.mem_singleton.1 hz] at hzc
        rw [<- hzc, Hce.out]
    case done =>
     rintro D ys W hDD hS ⟨m', D', q1, q2, q3, q4, q5, q6, q7, q8, q9⟩ hK
     have hcl := D'.close (fun c hc hcs hce => by
      obtain ⟨i, hi, hie⟩ := List.getElem_of_mem hc
      rw [q1] at hce
      obtain ⟨x, hx, hxe⟩ := hS i c hi (by rw [List.getElem?_eq_getElem hi, hie]) hcs hce
      exact ⟨x, hx, by rw [hxe]⟩) (fun _ => True)
     have Hcl := Lib.hid hcl
     have hnx := next_any F g1 g2 d1 d2 W1.heap.size p.quo.length m' (lf.set r.toNat true) W q6 q3 q4 hn16
     have hcnt : (lf.set r.toNat true).countP (fun b => !b) < lf.countP (fun b => !b) := countP_set (by have := hD.lfl; omega) (by have := e2'.out; rw [gb_of (by have := hD.lfl; omega)] at this; exact this)
     have Hcnt := Lib.hid hcnt
     have Q1 := Lib.hid q1
     clear hcl D' q1 hcnt
     go_wp2_with fail
     refine hnx.mono ?_
     clear hnx
     rintro e w6 ⟨r', rfl, hr', hw6⟩
     have hmem := next_mem hr' Hcl.out.lfl hw6 q3 q4 q5 q6 q7 ((q8.cons hDD (by omega) hK)) i4 n6 n3 n5
     have Hmem := Lib.hid hmem
     clear hmem hw6
     go_wp2_with fail
     go_roundg ((lf.set r.toNat true).countP (fun b => !b))
     case measure => rw [Hhgk.out]; exact Hcnt.out
     case rel =>
      obtain ⟨z1, z2, z3, z4, z5, z6⟩ := Hmem.out
      exact ⟨r', m', _, _, rfl, Hcl.out, hr', rfl, z1, z2, z3, z4, z5, z6⟩
    case stop =>
     rintro D c pre W _ _ h _
     exact h.elim
   ·have hrm : r = -1 := by have := hr.rng; omega
    have hno : ∀ i : Int, 0 <= i -> i < p.quo.length -> 0 <= gi m i -> gb lf i = true := fun i z0 z1 z2 => by
     rcases hr with ⟨_, z⟩ | ⟨z, _⟩
     ·cases hg : gb lf i
      ·exact (z i z0 z1 hg z2).elim
      ·rfl
     ·omega
    have hm := Pln.arrs_eq hok ha (hD.done J hno)
    have Hm := Lib.hid hm
    clear hno hm hr
    have hd0 : decide (0 <= r) = false := by simpa using hr0
    go_wp2_with fail
    show LeavesInM _ _ _ _ _ _ ds .returning wr
    refine hds.leaves ?_
    intro w' hw'
    have hfin := hw' (fun W => Owns EInt W W1.heap.size 3 (.slice (some ⟨g1, 0, none⟩) p.quo.length d1) m /\ Ext w W)
     (fun s X Y row hs hg hr => ⟨hs.1.keptc hg (fun r e => (hr r e).2), hs.2.keptb hg (fun r e => Nat.le_trans hB1.size (hr r e).1)⟩) ⟨o1, hB1.trans hE⟩
    refine ⟨_, results_tmp rfl _ _ _, _, rfl, ?_, hfin.2⟩
    rw [<- Hm.out]
    exact hfin.1.mono (by have := hB1.size; omega)
end Go.Proofs.YtemkpimngbbpkaaGreat
