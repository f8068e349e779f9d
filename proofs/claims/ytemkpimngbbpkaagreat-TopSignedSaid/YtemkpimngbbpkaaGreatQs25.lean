/- Layer 28 (storage) where there are no holds. · Layer 35 (multicast): branches compared. · Layer 35 (multicast): the chapter's example, plain. · The example of the chapters' last parts: its plan, its request, its tree, plain. · The example of the chapters' last parts: its plan, walked. · search.Arrival along a chain of labels; at the example of the chapters' last parts. -/
import Derived.Maps.OwnOps
import Derived.Laws.EntriesVeiled
import Derived.BigQuiet
import Derived.Laws.ResultCell
import Derived.Test.YtemkpimngbbpkaaGreatQs20
import Derived.Test.YtemkpimngbbpkaaGreatQs22
import Derived.Test.YtemkpimngbbpkaaGreatQs24
namespace Go.Proofs.YtemkpimngbbpkaaGreat
set_option linter.unusedVariables false
set_option linter.unusedSimpArgs false
section
open Go.RowKit Go.Shelf Go.Maps
set_option maxRecDepth 100000 in
set_option maxHeartbeats 4000000 in
theorem isort_nil (w : World) : Calls Tryz.prog 273 #[.slice none 0 0, .int .i64 0, .int .i64 0] w fun e w' => e = .returned (.tuple #[]) /\ Ext w w' := by
 go_enter Tryz.func273, Tryz.ntmps273
 go_wp2_with fail
 go_loopg [6] 1 (fun q k wr => k = .int .i64 1 /\ wr = w)
 case atStart => exact ⟨rfl, rfl⟩
 case round =>
  obtain ⟨rfl, rfl⟩ := hrel
  go_wp2_with fail
  go_end0
  exact ⟨rfl, Ext.refl _⟩
set_option maxRecDepth 100000 in
set_option maxHeartbeats 4000000 in
theorem sort_nil (w : World) : Calls Tryz.prog 136 #[.slice none 0 0] w fun e w' => e = .returned (.tuple #[]) /\ Ext w w' := by
 have hlen := fun w => len_any 0 w (by omega) (by omega)
 have hins := isort_nil
 have hpdq : ∀ (k : Int) w, Calls Tryz.prog 213 #[.slice none 0 0, .int .i64 0, .int .i64 0, .int .i64 k] w fun e w' => e = .returned (.tuple #[]) /\ Ext w w' := fun k w => by
  clear hlen
  go_enter Tryz.func213, Tryz.ntmps213
  go_wp2_with fail
  go_loopg [1, 2] 0 (fun q a b wr => a = .int .i64 0 /\ b = .int .i64 0 /\ wr = w)
  case atStart => exact ⟨rfl, rfl, rfl⟩
  case round =>
   obtain ⟨rfl, rfl, rfl⟩ := hrel
   go_wp2_with fail
   refine (hins _).mono ?_
   rintro e w1 ⟨rfl, h1⟩
   go_wp2_with fail
   refine bodyPost_ret (results_none rfl _ _ _) rfl ?_
   exact ⟨rfl, h1⟩
 clear hins
 go_enter Tryz.func136, Tryz.ntmps136
 go_wp2_with fail
 refine (hlen _).mono ?_
 rintro e w1 ⟨⟨k, rfl⟩, rfl⟩
 go_wp2_with fail
 refine (hpdq k _).mono ?_
 rintro e w2 ⟨rfl, h1⟩
 go_wp2_with fail
 go_end0
 exact ⟨rfl, h1⟩
set_option maxRecDepth 100000 in
set_option maxHeartbeats 4000000 in
theorem most_nil (w : World) : Calls Tryz.prog 241 #[.slice none 0 0] w fun e w' => e = .returned (.int .i64 0) /\ Ext w w' := by
 go_enter Tryz.func241, Tryz.ntmps241
 go_wp2
 go_loopg [3, 8] 0 (fun q a k wr => a = .int .i64 0 /\ k = .int .i64 0 /\ wr = w)
 case atStart => exact ⟨rfl, rfl, rfl⟩
 case round =>
  obtain ⟨rfl, rfl, rfl⟩ := hrel
  go_wp2
  go_ret
  exact ⟨rfl, Ext.refl _⟩
set_option maxRecDepth 100000 in
set_option maxHeartbeats 4000000 in
theorem levels_nil (n : Int) (w : World) : Calls Tryz.prog 242 #[.slice none 0 0, .int .i64 n] w fun e w' => e = .returned (.slice none 0 0) /\ Ext w w' := by
 have hmm := @run_makeMap Tryz.prog
 have hso := sort_nil
 obtain ⟨W0, hW0, hB0⟩ : ∃ W0, w.alloc (.map #[] 0) = W0 /\ Ext w W0 := ⟨_, rfl, (Ext.refl _).alloc _⟩
 obtain ⟨W1, hW1, hB1, hk1, hl1⟩ := box1 W0 #[.map (some w.heap.size)] 412
 obtain ⟨W2, hW2, hB2, hk2, hl2⟩ := box1 W1 #[.slice none 0 0] 30
 have hE := (hB0.trans hB1).trans hB2
 have c2 := hk2.cell
 go_enter Tryz.func242, Tryz.ntmps242
 go_wp2_with fail
 go_loopg [18] 0 (fun q k wr => k = .int .i64 0 /\ wr = W2)
 case atStart => exact ⟨rfl, rfl⟩
 case round =>
  obtain ⟨rfl, rfl⟩ := hrel
  go_wp2_with fail
  refine (hso _).mono ?_
  rintro e w3 ⟨rfl, hb3⟩
  have c3 := (hk2.ext hb3).cell
  go_wp2_with fail
  go_loopg [10, 44] 0 (fun q a k wr => a = .slice none 0 0 /\ k = .int .i64 0 /\ wr = w3)
  case atStart => exact ⟨rfl, rfl, rfl⟩
  case round =>
   obtain ⟨rfl, rfl, rfl⟩ := hrel
   go_wp2_with fail
   go_ret
   exact ⟨rfl, hE.trans hb3⟩
set_option maxRecDepth 100000 in
set_option maxHeartbeats 4000000 in
theorem sCheck_nil (Aq : Option Addr) (cq : Nat) (Ac : Option Addr) (cc : Nat) (p : Pln) (w : World) (h : PlnRd w Aq cq Ac cc p) (h0 : p.chk = 0) :
 Calls Tryz.prog 160 #[p.val Aq cq Ac cc, .slice none 0 0] w fun e w' => e = .returned (.int .i64 0) /\ Ext w w' := by
 obtain ⟨W, hW, hB, hk, hlt⟩ := box1 w #[.slice Aq p.quo.length cq, .slice Ac p.cons.length cc] 68
 have hc := hk.cell
 have hpc := pcheck_any Aq cq Ac cc p W (h.ext hB)
 have hrd := h.ext hB
 have hlv := levels_nil
 have hmo := most_nil
 have hqm := h.qm
 have hq0 : ∀ x ∈ p.quo, 0 <= x := fun x hx => by
  unfold Pln.chk at h0
  split at h0
  ·cases h0
  ·split at h0
   ·cases h0
   ·rename_i h2
    simp only [List.any_eq_true, not_exists, not_and, quoB] at h2
    have := h2 x hx
    simp only [Bool.or_eq_true, decide_eq_true_eq] at this
    omega
 have Hq0 := Lib.hid hq0
 clear hq0
 rw [h0] at hpc
 clear h0
 unfold Pln.val at hpc ⊢
 go_enter Tryz.func160, Tryz.ntmps160
 go_wp2_with fail
 clear hW
 refine hpc.mono ?_
 clear hpc
 rintro e w1 ⟨rfl, hb1⟩
 have hE1 := hB.trans hb1
 have hrd1 := hrd.ext hb1
 have c1 := (hk.ext hb1).cell
 have l1 := (hk.ext hb1).lt
 go_wp2_with fail
 go_loopg [17] 0 (fun q k wr => k = .int .i64 0 /\ Ext w1 wr)
 case atStart => exact ⟨rfl, Ext.refl _⟩
 case round =>
  obtain ⟨rfl, hx0⟩ := hrel
  obtain ⟨wo, rfl⟩ : ∃ wo, wo = wr := ⟨_, rfl⟩
  obtain ⟨gko, rfl⟩ : ∃ g, g = gk := ⟨_, rfl⟩
  have hE2 := hE1.trans hx0
  have hrd2 := hrd1.ext hx0
  have c2 := ((hk.ext hb1).ext hx0).cell
  have l2 := ((hk.ext hb1).ext hx0).lt
  clear c1 l1
  go_wp2_with fail
  go_loopg [42] p.quo.length (fun n k wr => ∃ j : Nat, j + n = p.quo.length /\ k = .int .i64 j /\ Ext wo wr)
  case atStart => exact ⟨0, by omega, rfl, Ext.refl _⟩
  case round =>
   obtain ⟨j, hjq, rfl, hx⟩ := hrel
   have Hjq := Lib.hid hjq
   have hjN : j <= p.quo.length := by omega
   clear hjq
   by_cases hlt2 : j < p.quo.length
   ·obtain ⟨b1, o1, rfl, hb1', g1⟩ := (hrd2.q.ext hx).int hlt2
    have hx0 := Hq0.out _ (List.getElem_mem hlt2)
    generalize hxe : p.quo[j] = x at *
    clear hxe
    go_wp2_with fail
    refine (hlv _ _).mono ?_
    rintro e w4 ⟨rfl, hb4⟩
    go_wp2_with fail
    refine (hmo _).mono ?_
    rintro e w5 ⟨rfl, hb5⟩
    have hd : decide (x < 0) = false := decide_eq_false (by omega)
    go_wp2
    go_roundg (gk - 1)
    case measure => have := Hjq.out; omega
    case rel => exact ⟨j + 1, by have := Hjq.out; omega, rfl, (hx.trans hb4).trans hb5⟩
   ·go_wp2
    go_ret
    exact ⟨rfl, hE2.trans hx⟩
set_option maxRecDepth 100000 in
set_option maxHeartbeats 4000000 in
theorem tables_nil (Aq : Option Addr) (cq : Nat) (Ac : Option Addr) (cc : Nat) (p : Pln) (w : World) (h : PlnRd w Aq cq Ac cc p) (h0 : p.chk = 0) :
 Calls Tryz.prog 78 #[.agg #[.slice Aq p.quo.length cq, .slice Ac p.cons.length cc, .slice none 0 0, .slice none 0 0]] w fun e w' => e = .returned (.int .i64 0) /\ Ext w w' := by
 obtain ⟨W, hW, hB, hk, hlt⟩ := box1 w #[.slice Aq p.quo.length cq, .slice Ac p.cons.length cc, .slice none 0 0, .slice none 0 0] 83
 have hc := hk.cell
 have hpc := pcheck_any Aq cq Ac cc p W (h.ext hB)
 have hrd := h.ext hB
 have hbc := fun w h => bCheck_any Aq cq Ac cc p none 0 [] w h (Rd.nil) (by simp)
 have hsc := fun w h => sCheck_nil Aq cq Ac cc p w h h0
 rw [h0] at hpc
 have hb0 : p.bkChk [] = 0 := by unfold Pln.bkChk; rw [if_pos h0]; rfl
 rw [hb0] at hbc
 clear h0 hb0
 unfold Pln.val at hpc hbc hsc
 simp only [List.length_nil] at hbc
 go_enter Tryz.func78, Tryz.ntmps78
 go_wp2_with fail
 clear hW
 refine hpc.mono ?_
 clear hpc
 rintro e w1 ⟨rfl, hb1⟩
 have c1 := (hk.ext hb1).cell
 have l1 := (hk.ext hb1).lt
 go_wp2_with fail
 refine (hbc _ (hrd.ext hb1)).mono ?_
 rintro e w2 ⟨rfl, hb2⟩
 have c2 := ((hk.ext hb1).ext hb2).cell
 have l2 := ((hk.ext hb1).ext hb2).lt
 go_wp2_with fail
 refine (hsc _ ((hrd.ext hb1).ext hb2)).mono ?_
 rintro e w3 ⟨rfl, hb3⟩
 go_wp2
 go_ret
 exact ⟨rfl, ((hB.trans hb1).trans hb2).trans hb3⟩
theorem tabC_nil (Aq : Option Addr) (cq : Nat) (Ac : Option Addr) (cc : Nat) (p : Pln) (w : World) (h : PlnRd w Aq cq Ac cc p) (h0 : p.chk = 0) :
 TabC p [] (.agg #[.slice Aq p.quo.length cq, .slice Ac p.cons.length cc, .slice none 0 0, .slice none 0 0]) 0 w :=
 ⟨fun w' hb => tables_nil Aq cq Ac cc p w' (h.ext hb) h0, fun _ => by unfold Pln.bkChk; rw [if_pos h0]; rfl⟩
end
section
open Go.RowKit Go.Shelf
end
section
open Go.RowKit Go.Shelf
end
section
open Go.RowKit Go.Shelf
def exP5 : Pln := ⟨[100, 100, 100], [⟨0, 1, 5, 45, 24, 2, 0⟩, ⟨1, 2, 10, 50, 24, 2, 0⟩]⟩
def exQ5 : Req := ⟨0, 2, 16, 0, 100, 0, false⟩
def exB5 : List Br := [⟨0, 5, 6, 8, -1⟩, ⟨1, 10, 11, 13, 0⟩]
def exT5 : List Int := [0, 8, 13, -1, -1, -1, -1, -1, -1, -1, -1, -1, -1, -1, -1, -1]
def exT51 : List Int := [0, 8, -1, -1, -1, -1, -1, -1, -1, -1, -1, -1, -1, -1, -1, -1]
theorem exP5_chk : exP5.chk = 0 := by kernel_rfl
theorem exF5 : fineR exP5 exQ5 = true := by kernel_rfl
theorem exM5 : memsB exP5.quo.length exQ5.src [1, 2] = true := by kernel_rfl
theorem exGC5 : GC exP5 [] exQ5 := ⟨by kernel_rfl, by decide, by decide⟩
theorem exE51 : exP5.EarlP [] exQ5 (startL exQ5) exT5 := ⟨⟨2, by kernel_rfl⟩, by kernel_rfl⟩
theorem exE52 : exP5.EarlP [] exQ5 exT51 exT5 := ⟨⟨1, by kernel_rfl⟩, by kernel_rfl⟩
theorem exW51 : (exP5.wayF [] exQ5 (startL exQ5) exT5 17 1).reverse.foldl exP5.addB ([], startL exQ5) = (exB5.take 1, exT51) := by kernel_rfl
theorem exW52 : (exP5.wayF [] exQ5 exT51 exT5 17 2).reverse.foldl exP5.addB (exB5.take 1, exT51) = (exB5, exT5) := by kernel_rfl
theorem ex_grow5 {r : Option (List Br × List Int)} (h : exP5.GrowR [] exQ5 [1, 2] ([], startL exQ5) r) : r = some (exB5, exT5) := by
 rw [Pln.GrowR, if_neg (by decide)] at h
 obtain ⟨T, h1, h2⟩ := h
 rw [EarlP.unique exGC5 (by decide) h1 exE51, if_neg (by decide), exW51, Pln.GrowR, if_neg (by decide)] at h2
 obtain ⟨T2, h3, h4⟩ := h2
 rw [EarlP.unique exGC5 (by decide) h3 exE52, if_neg (by decide), exW52, Pln.GrowR] at h4
 exact h4
theorem ex_grow5_call (Aq Ac Am : Option Addr) (cq cc cm : Nat) (w : World) (h : PlnRd w Aq cq Ac cc exP5) (hm : Rd EInt w Am [1, 2]) :
 Calls Tryz.prog 26 #[.agg #[.slice Aq 3 cq, .slice Ac 2 cc, .slice none 0 0, .slice none 0 0], .agg #[.int .i64 0, .int .i64 2, .int .i64 16, .int .i64 0, .int .i64 100, .int .i64 0, .bool false], .slice Am 2 cm] w fun e w' => ∃ A c B d, e = .returned (.tuple #[.slice A 2 c, .slice B 2 d, .int .i64 0]) /\ Ext w w' := by
 have h1 := Grow_any Aq cq Ac cc exP5 none 0 [] none 0 0 exQ5 Am cm [1, 2] 0 w h Rd.nil hm (by decide) (tabC_nil Aq cq Ac cc exP5 w h exP5_chk)
 refine Calls.mono h1 (fun e w' hh => ?_)
 obtain ⟨hE, ⟨_, r, hr, hs⟩ | ⟨hn, _⟩⟩ := hh
 ·obtain rfl := ex_grow5 hr
  obtain ⟨u, v, rfl, hu, hv, _⟩ := hs
  obtain ⟨A, c, rfl, hA⟩ := hu.form
  obtain ⟨B, d, rfl, hB⟩ := hv.form
  exact ⟨A, c, B, d, rfl, hE⟩
 ·exact (hn ⟨rfl, exF5, exM5⟩).elim
end
section
open Go.RowKit Go.Shelf
theorem blk_fars5 : ∀ (vs : List Value) {w : World} {g g' : Nat} {t : TypeId} {cs : Array Value} (_ : Blk w g t cs) (_ : g ≠ g') (o : Nat), Blk (w.setCells g' o vs) g t cs
 | [], _, _, _, _, _, h, _, _ => h
 | v :: vs, _, _, g', _, _, h, hn, o => blk_fars5 vs (h.far (p := ⟨g', o, none⟩) hn v) hn (o + 1)
set_option maxHeartbeats 4000000 in
theorem plan5c_any (a b c : Int) (w : World) (h0 : 0 <= c) (h1 : c <= 1000) : Calls Tryz.prog 120 #[.int .i64 a, .int .i64 b, .int .i64 c] w fun e w' => e = .returned (.agg #[.int .i64 a, .int .i64 b, .int .i64 c, .int .i64 (c + 40), .int .i64 24, .int .i64 2, .int .i64 0]) /\ Ext w w' := by
 obtain ⟨W, hW, hB, hk, hlt⟩ := box1 w #[.int .i64 0, .int .i64 0, .int .i64 0, .int .i64 0, .int .i64 0, .int .i64 0, .int .i64 0] 61
 have hc := hk.cell
 have hf := hk.frozen
 obtain ⟨w7, hw7, hz7, hE7⟩ : ∃ w7, W.setCells w.heap.size 0 [.int .i64 a, .int .i64 b, .int .i64 c, .int .i64 (c + 40), .int .i64 24, .int .i64 2, .int .i64 0] = w7 /\ Blk w7 w.heap.size 61 #[.int .i64 a, .int .i64 b, .int .i64 c, .int .i64 (c + 40), .int .i64 24, .int .i64 2, .int .i64 0] /\ Ext w w7 :=
  ⟨_, rfl, hk.setCells_ [.int .i64 a, .int .i64 b, .int .i64 c, .int .i64 (c + 40), .int .i64 24, .int .i64 2, .int .i64 0] 0, ext_setCells hB (by omega) 0 _⟩
 simp only [World.setCells, Nat.zero_add, Nat.reduceAdd] at hw7
 go_enter Tryz.func120, Tryz.ntmps120
 go_wp2
 have hc7 := hz7.cell
 refine bodyPost_ret (v := .agg #[.int .i64 a, .int .i64 b, .int .i64 c, .int .i64 (c + 40), .int .i64 24, .int .i64 2, .int .i64 0]) (by rw [results_cell1 rfl]; simp [asAddr, Result.andThen, hc7, go_sem]) rfl ?_
 exact ⟨rfl, hE7⟩
theorem ex5_cons : (ECon.all exP5.cons).toArray = #[.int .i64 0, .int .i64 1, .int .i64 5, .int .i64 45, .int .i64 24, .int .i64 2, .int .i64 0, .int .i64 1, .int .i64 2, .int .i64 10, .int .i64 50, .int .i64 24, .int .i64 2, .int .i64 0] := by kernel_rfl
set_option maxRecDepth 100000 in
set_option maxHeartbeats 4000000 in
theorem plan5_any (w : World) : Calls Tryz.prog 42 #[] w fun e w' => ∃ Aq b o, e = .returned (.agg #[.slice Aq 3 3, .slice (some ⟨b, o, none⟩) 2 2]) /\ PlnRd w' Aq 3 (some ⟨b, o, none⟩) 2 exP5 /\ Ext w w' := by
 have h1 := fun w => plan5c_any 0 1 5 w (by omega) (by omega)
 have h2 := fun w => plan5c_any 1 2 10 w (by omega) (by omega)
 simp only [Int.reduceAdd] at h1 h2
 obtain ⟨W0, hW0, hB0, hk0, hl0⟩ := box1 w #[.slice none 0 0, .slice none 0 0] 68
 obtain ⟨W1, hW1, hB1, hk1, hl1⟩ := box1 W0 #[.int .i64 100, .int .i64 100, .int .i64 100] 3
 go_enter Tryz.func42, Tryz.ntmps42
 go_wp2_with fail
 clear hW0 hW1
 refine (h1 _).mono ?_
 rintro e w2 ⟨rfl, hb2⟩
 go_wp2_with fail
 refine (h2 _).mono ?_
 rintro e w3 ⟨rfl, hb3⟩
 obtain ⟨W4, hW4, hB4, hk4, hl4⟩ := box1 w3 #[.int .i64 0, .int .i64 1, .int .i64 5, .int .i64 45, .int .i64 24, .int .i64 2, .int .i64 0, .int .i64 1, .int .i64 2, .int .i64 10, .int .i64 50, .int .i64 24, .int .i64 2, .int .i64 0] 61
 have b24 := (hb2.trans hb3).trans hB4
 have k0 := (hk0.ext hB1).ext b24
 have k1 := hk1.ext b24
 have hE4 := (hB0.trans hB1).trans b24
 have f0 := k0.frozen
 have l0 := k0.lt
 have c0 := k0.cell
 have z0 := hB0.size
 have z1 := hB1.size
 have z2 := b24.size
 have z3 := (hb2.trans hb3).size
 have hn1 : W0.heap.size ≠ w.heap.size := by omega
 have hn2 : w3.heap.size ≠ w.heap.size := by omega
 obtain ⟨w8, hw8, hz8, hE8, y1, y4⟩ : ∃ w8, W4.setCells w.heap.size 0 [.slice (some ⟨W0.heap.size, 0, none⟩) 3 3, .slice (some ⟨w3.heap.size, 0, none⟩) 2 2] = w8 /\ Blk w8 w.heap.size 68 #[.slice (some ⟨W0.heap.size, 0, none⟩) 3 3, .slice (some ⟨w3.heap.size, 0, none⟩) 2 2] /\ Ext w w8 /\ Blk w8 W0.heap.size 3 _ /\ Blk w8 w3.heap.size 61 _ :=
  ⟨_, rfl, k0.setCells_ [.slice (some ⟨W0.heap.size, 0, none⟩) 3 3, .slice (some ⟨w3.heap.size, 0, none⟩) 2 2] 0, ext_setCells hE4 (by omega) 0 _, blk_fars5 _ k1 hn1 0, blk_fars5 _ hk4 hn2 0⟩
 simp only [World.setCells, Nat.zero_add, Nat.reduceAdd] at hw8
 clear hn1 hn2 z0 z1 z2 z3 k1
 go_wp2
 have c9 := hz8.cell
 refine bodyPost_ret (v := .agg #[.slice (some ⟨W0.heap.size, 0, none⟩) 3 3, .slice (some ⟨w3.heap.size, 0, none⟩) 2 2]) (by rw [results_cell1 rfl]; simp [asAddr, Result.andThen, c9, go_sem]) rfl ?_
 exact ⟨_, _, _, rfl, ⟨rd_blk (l := [100, 100, 100]) (e := 3) y1, rd_blk (l := exP5.cons) (e := 61) (by rw [ex5_cons]; exact y4), by simp [exP5], by simp [exP5], by simp [exP5], by simp [exP5]⟩, hE8⟩
end
section
open Go.RowKit Go.Shelf
attribute [local go_sem] Oper.semAt_some
set_option maxRecDepth 100000 in
set_option maxHeartbeats 8000000 in
theorem sArrival_ch (Aq : Option Addr) (cq : Nat) (Ac : Option Addr) (cc : Nat) (p : Pln) (q : Req) (L : List Lb) (f : Nat -> Nat × Con) (AT : Int) (w : World) (h : PlnRd w Aq cq Ac cc p) (h0 : p.chk = 0) (hf : fineR p q = true) (hse : ∀ c ∈ p.cons, c.st < c.en /\ c.arg q.size = 0) (hqu : ∀ n : Int, 0 <= n -> n < p.quo.length -> q.size <= gi p.quo n /\ gi p.quo n <= 1099511627776) (hsz : 1 <= q.size /\ q.size <= 65536) (hn16 : p.quo.length <= 16 /\ p.cons.length <= 64)
 (C : LbCh p q L f) (hAT : ∀ k (h : k + 1 = L.length), (L[k]'(by omega)).arr q (f k).2 = AT) :
 Calls Tryz.prog 43 #[.agg #[.slice Aq p.quo.length cq, .slice Ac p.cons.length cc, .slice none 0 0, .slice none 0 0], q.val] w fun e w' => e = .returned (.tuple #[.int .i64 AT, .int .i64 0]) /\ Ext w w' := by
 obtain ⟨W1, hW1, hB1, hk1, hkq, hl1, hlq⟩ := box2 w #[.slice Aq p.quo.length cq, .slice Ac p.cons.length cc, .slice none 0 0, .slice none 0 0] q.cells 83 85
 simp only [Req.cells] at hW1 hkq
 have hbd := build_any Aq cq Ac cc p q W1 (h.ext hB1) h0 hf hse hqu hsz hn16
 have hrd := h.ext hB1
 have r0 := hk1.cell
 have r1 := hkq.cell
 have r2 := hk1.lt
 have r3 := hkq.lt
 have hL12 := C.len
 have H0 := Lib.hid h0
 have Hqu := Lib.hid hqu
 have Hse := Lib.hid hse
 unfold Req.val at hbd ⊢
 clear h0 hf hse hqu
 go_enter Tryz.func43, Tryz.ntmps43
 go_wp2_with fail
 clear hW1 r0 r1 r2 r3
 refine hbd.mono ?_
 clear hbd
 rintro e w2 ⟨B, rfl, hBl, hg, hb2⟩
 go_wp2_with fail
 refine (labels_any Aq cq Ac cc p q _ B L f w2 (hrd.ext hb2) hg C).mono ?_
 rintro e w4 ⟨u, rfl, hu4, hb4⟩
 obtain ⟨Al, cl, rfl, hRl⟩ := hu4.form
 have hx4 := hb2.trans hb4
 have hg4 := hg.ext hb4
 have har := arrival_any Aq cq Ac cc p q W1.heap.size B Al cl L f (fun k => if k < L.length then (0, false) else (AT, true)) w4 (hrd.ext hx4) hg4 hRl (by omega) C.mv (if_pos (by omega)) (fun k hk => by
  rw [if_pos hk]
  unfold aStep
  by_cases h1 : k + 1 < L.length
  ·rw [if_pos h1, if_neg (fun hh => (C.next k h1).1 hh.1)]
  ·rw [if_neg h1, if_pos ⟨C.last k (by omega), .inl rfl⟩, hAT k (by omega)])
 rw [if_neg (Nat.lt_irrefl _)] at har
 go_wp2_with fail
 refine har.mono ?_
 clear har
 rintro e w6 ⟨rfl, hb6⟩
 go_wp2
 go_ret2
 exact ⟨rfl, hB1.trans (hx4.trans hb6)⟩
def exL5 : List Lb := [⟨0, 0, 1099511627776, 0⟩, ⟨1, 0, 1099511627776, 8⟩]
def exG5 : Nat -> Nat × Con := fun k => if k = 0 then (0, ⟨0, 1, 5, 45, 24, 2, 0⟩) else (1, ⟨1, 2, 10, 50, 24, 2, 0⟩)
theorem ex5_mv0 : MvD exP5 exQ5 ⟨0, 0, 1099511627776, 0⟩ 0 ⟨0, 1, 5, 45, 24, 2, 0⟩ where
 at_ := rfl
 one := by
  intro k c h
  match k with
  | 0 => simp [exP5] at h; subst h; simp
  | 1 => simp [exP5] at h; subst h; simp
  | k + 2 => simp [exP5] at h
 n16 := by decide +kernel
 dst := by decide +kernel
 fit := by decide +kernel
 bd := by decide +kernel
 til := by decide +kernel
 dead := by decide +kernel
 room := by decide +kernel
 cust := rfl
theorem ex5_mv1 : MvD exP5 exQ5 ⟨1, 0, 1099511627776, 8⟩ 1 ⟨1, 2, 10, 50, 24, 2, 0⟩ where
 at_ := rfl
 one := by
  intro k c h
  match k with
  | 0 => simp [exP5] at h; subst h; simp
  | 1 => simp [exP5] at h; subst h; simp
  | k + 2 => simp [exP5] at h
 n16 := by decide +kernel
 dst := by decide +kernel
 fit := by decide +kernel
 bd := by decide +kernel
 til := by decide +kernel
 dead := by decide +kernel
 room := by decide +kernel
 cust := rfl
theorem ex5_ch : LbCh exP5 exQ5 exL5 exG5 where
 len := by decide +kernel
 fst := fun _ => rfl
 src := by decide +kernel
 rdy := by decide +kernel
 mv := by
  intro k h
  match k, h with
  | 0, _ => exact ex5_mv0
  | 1, _ => exact ex5_mv1
 next := by
  intro k h
  match k, h with
  | 0, _ =>
    refine ⟨by decide +kernel, by kernel_rfl, ?_⟩
    intro j hj h2
    obtain rfl : j = 0 := by omega
    kernel_rfl
 last := by
  intro k h
  obtain rfl : k = 1 := by simp [exL5] at h; omega
  kernel_rfl
 ord := by
  intro k h
  match k, h with
  | 0, _ => exact (by decide +kernel : ¬ lbC ⟨1, 0, 1099511627776, 8⟩ ⟨0, 0, 1099511627776, 0⟩ < 0)
theorem ex_arrival5 (Aq Ac : Option Addr) (cq cc : Nat) (w : World) (h : PlnRd w Aq cq Ac cc exP5) :
 Calls Tryz.prog 43 #[.agg #[.slice Aq 3 cq, .slice Ac 2 cc, .slice none 0 0, .slice none 0 0], .agg #[.int .i64 0, .int .i64 2, .int .i64 16, .int .i64 0, .int .i64 100, .int .i64 0, .bool false]] w fun e w' => e = .returned (.tuple #[.int .i64 13, .int .i64 0]) /\ Ext w w' := by
 refine sArrival_ch Aq cq Ac cc exP5 exQ5 exL5 exG5 13 w h exP5_chk exF5 ?_ ?_ (by decide) (by decide) ex5_ch ?_
 ·intro c hc
  simp [exP5] at hc
  rcases hc with rfl | rfl <;> decide +kernel
 ·intro n h0 h1
  have h2 : n < 3 := h1
  rcases (show n = 0 ∨ n = 1 ∨ n = 2 by omega) with rfl | rfl | rfl <;> decide +kernel
 ·intro k h
  obtain rfl : k = 1 := by simp [exL5] at h; omega
  kernel_rfl
end
end Go.Proofs.YtemkpimngbbpkaaGreat
