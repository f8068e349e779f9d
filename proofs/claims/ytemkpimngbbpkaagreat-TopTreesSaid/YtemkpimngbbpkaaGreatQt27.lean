/- Layer 28 (storage) where there are no holds. · Layer 35 (multicast): branches compared. · Layer 35 (multicast): the chapter's example, plain. · TopMirror, the example: the search's graph is built. · TopMirror, the example: lists of labels. · TopMirror, the example: DeleteFunc and SortFunc on labels. · TopMirror, the example: Earliest (the labels' contract as a hypothesis). · Layer 35 (multicast): the chapter's example, walked. · Layer 35 (multicast): awake. · Layer 35 (multicast): the sizes; what comes in. -/
import Derived.Maps.OwnOps
import Derived.Laws.EntriesVeiled
import Derived.BigQuiet
import Derived.Deep.RegionHeld3
import Derived.Test.YtemkpimngbbpkaaGreatQt03
import Derived.Test.YtemkpimngbbpkaaGreatQt05
import Derived.Test.YtemkpimngbbpkaaGreatQt23
import Derived.Test.YtemkpimngbbpkaaGreatQt24
import Derived.Test.YtemkpimngbbpkaaGreatQt25
import Derived.Test.YtemkpimngbbpkaaGreatQt26
namespace Go.Proofs.YtemkpimngbbpkaaGreat
set_option linter.unusedVariables false
set_option linter.unusedSimpArgs false
section
open Go.RowKit Go.Shelf Go.Maps
set_option maxRecDepth 100000 in
set_option maxHeartbeats 4000000 in
theorem isort_nil (w : World) : Calls Tryz.prog 273 #[.slice none 0 0, .int .i64 0, .int .i64 0] w fun e w' => e = .returned (.tuple #[]) /\ Ext w w' := by
 go_enter Tryz.func273, Tryz.ntmps273
 go_wp2_with fail
 go_loopg [6] 1 (fun q k wr => k = .int .i64 1 /\ wr = w)
 case atStart => exact ⟨rfl, rfl⟩
 case round =>
  obtain ⟨rfl, rfl⟩ := hrel
  go_wp2_with fail
  go_end0
  exact ⟨rfl, Ext.refl _⟩
set_option maxRecDepth 100000 in
set_option maxHeartbeats 4000000 in
theorem sort_nil (w : World) : Calls Tryz.prog 136 #[.slice none 0 0] w fun e w' => e = .returned (.tuple #[]) /\ Ext w w' := by
 have hlen := fun w => len_any 0 w (by omega) (by omega)
 have hins := isort_nil
 have hpdq : ∀ (k : Int) w, Calls Tryz.prog 213 #[.slice none 0 0, .int .i64 0, .int .i64 0, .int .i64 k] w fun e w' => e = .returned (.tuple #[]) /\ Ext w w' := fun k w => by
  clear hlen
  go_enter Tryz.func213, Tryz.ntmps213
  go_wp2_with fail
  go_loopg [1, 2] 0 (fun q a b wr => a = .int .i64 0 /\ b = .int .i64 0 /\ wr = w)
  case atStart => exact ⟨rfl, rfl, rfl⟩
  case round =>
   obtain ⟨rfl, rfl, rfl⟩ := hrel
   go_wp2_with fail
   refine (hins _).mono ?_
   rintro e w1 ⟨rfl, h1⟩
   go_wp2_with fail
   refine bodyPost_ret (results_none rfl _ _ _) rfl ?_
   exact ⟨rfl, h1⟩
 clear hins
 go_enter Tryz.func136, Tryz.ntmps136
 go_wp2_with fail
 refine (hlen _).mono ?_
 rintro e w1 ⟨⟨k, rfl⟩, rfl⟩
 go_wp2_with fail
 refine (hpdq k _).mono ?_
 rintro e w2 ⟨rfl, h1⟩
 go_wp2_with fail
 go_end0
 exact ⟨rfl, h1⟩
set_option maxRecDepth 100000 in
set_option maxHeartbeats 4000000 in
theorem most_nil (w : World) : Calls Tryz.prog 241 #[.slice none 0 0] w fun e w' => e = .returned (.int .i64 0) /\ Ext w w' := by
 go_enter Tryz.func241, Tryz.ntmps241
 go_wp2
 go_loopg [3, 8] 0 (fun q a k wr => a = .int .i64 0 /\ k = .int .i64 0 /\ wr = w)
 case atStart => exact ⟨rfl, rfl, rfl⟩
 case round =>
  obtain ⟨rfl, rfl, rfl⟩ := hrel
  go_wp2
  go_ret
  exact ⟨rfl, Ext.refl _⟩
set_option maxRecDepth 100000 in
set_option maxHeartbeats 4000000 in
theorem levels_nil (n : Int) (w : World) : Calls Tryz.prog 242 #[.slice none 0 0, .int .i64 n] w fun e w' => e = .returned (.slice none 0 0) /\ Ext w w' := by
 have hmm := @run_makeMap Tryz.prog
 have hso := sort_nil
 obtain ⟨W0, hW0, hB0⟩ : ∃ W0, w.alloc (.map #[] 0) = W0 /\ Ext w W0 := ⟨_, rfl, (Ext.refl _).alloc _⟩
 obtain ⟨W1, hW1, hB1, hk1, hl1⟩ := box1 W0 #[.map (some w.heap.size)] 412
 obtain ⟨W2, hW2, hB2, hk2, hl2⟩ := box1 W1 #[.slice none 0 0] 30
 have hE := (hB0.trans hB1).trans hB2
 have c2 := hk2.cell
 go_enter Tryz.func242, Tryz.ntmps242
 go_wp2_with fail
 go_loopg [18] 0 (fun q k wr => k = .int .i64 0 /\ wr = W2)
 case atStart => exact ⟨rfl, rfl⟩
 case round =>
  obtain ⟨rfl, rfl⟩ := hrel
  go_wp2_with fail
  refine (hso _).mono ?_
  rintro e w3 ⟨rfl, hb3⟩
  have c3 := (hk2.ext hb3).cell
  go_wp2_with fail
  go_loopg [10, 44] 0 (fun q a k wr => a = .slice none 0 0 /\ k = .int .i64 0 /\ wr = w3)
  case atStart => exact ⟨rfl, rfl, rfl⟩
  case round =>
   obtain ⟨rfl, rfl, rfl⟩ := hrel
   go_wp2_with fail
   go_ret
   exact ⟨rfl, hE.trans hb3⟩
set_option maxRecDepth 100000 in
set_option maxHeartbeats 4000000 in
theorem sCheck_nil (Aq : Option Addr) (cq : Nat) (Ac : Option Addr) (cc : Nat) (p : Pln) (w : World) (h : PlnRd w Aq cq Ac cc p) (h0 : p.chk = 0) :
 Calls Tryz.prog 160 #[p.val Aq cq Ac cc, .slice none 0 0] w fun e w' => e = .returned (.int .i64 0) /\ Ext w w' := by
 obtain ⟨W, hW, hB, hk, hlt⟩ := box1 w #[.slice Aq p.quo.length cq, .slice Ac p.cons.length cc] 68
 have hc := hk.cell
 have hpc := pcheck_any Aq cq Ac cc p W (h.ext hB)
 have hrd := h.ext hB
 have hlv := levels_nil
 have hmo := most_nil
 have hqm := h.qm
 have hq0 : ∀ x ∈ p.quo, 0 <= x := fun x hx => by
  unfold Pln.chk at h0
  split at h0
  ·cases h0
  ·split at h0
   ·cases h0
   ·rename_i h2
    simp only [List.any_eq_true, not_exists, not_and, quoB] at h2
    have := h2 x hx
    simp only [Bool.or_eq_true, decide_eq_true_eq] at this
    omega
 have Hq0 := Lib.hid hq0
 clear hq0
 rw [h0] at hpc
 clear h0
 unfold Pln.val at hpc ⊢
 go_enter Tryz.func160, Tryz.ntmps160
 go_wp2_with fail
 clear hW
 refine hpc.mono ?_
 clear hpc
 rintro e w1 ⟨rfl, hb1⟩
 have hE1 := hB.trans hb1
 have hrd1 := hrd.ext hb1
 have c1 := (hk.ext hb1).cell
 have l1 := (hk.ext hb1).lt
 go_wp2_with fail
 go_loopg [17] 0 (fun q k wr => k = .int .i64 0 /\ Ext w1 wr)
 case atStart => exact ⟨rfl, Ext.refl _⟩
 case round =>
  obtain ⟨rfl, hx0⟩ := hrel
  obtain ⟨wo, rfl⟩ : ∃ wo, wo = wr := ⟨_, rfl⟩
  obtain ⟨gko, rfl⟩ : ∃ g, g = gk := ⟨_, rfl⟩
  have hE2 := hE1.trans hx0
  have hrd2 := hrd1.ext hx0
  have c2 := ((hk.ext hb1).ext hx0).cell
  have l2 := ((hk.ext hb1).ext hx0).lt
  clear c1 l1
  go_wp2_with fail
  go_loopg [42] p.quo.length (fun n k wr => ∃ j : Nat, j + n = p.quo.length /\ k = .int .i64 j /\ Ext wo wr)
  case atStart => exact ⟨0, by omega, rfl, Ext.refl _⟩
  case round =>
   obtain ⟨j, hjq, rfl, hx⟩ := hrel
   have Hjq := Lib.hid hjq
   have hjN : j <= p.quo.length := by omega
   clear hjq
   by_cases hlt2 : j < p.quo.length
   ·obtain ⟨b1, o1, rfl, hb1', g1⟩ := (hrd2.q.ext hx).int hlt2
    have hx0 := Hq0.out _ (List.getElem_mem hlt2)
    generalize hxe : p.quo[j] = x at *
    clear hxe
    go_wp2_with fail
    refine (hlv _ _).mono ?_
    rintro e w4 ⟨rfl, hb4⟩
    go_wp2_with fail
    refine (hmo _).mono ?_
    rintro e w5 ⟨rfl, hb5⟩
    have hd : decide (x < 0) = false := decide_eq_false (by omega)
    go_wp2
    go_roundg (gk - 1)
    case measure => have := Hjq.out; omega
    case rel => exact ⟨j + 1, by have := Hjq.out; omega, rfl, (hx.trans hb4).trans hb5⟩
   ·go_wp2
    go_ret
    exact ⟨rfl, hE2.trans hx⟩
set_option maxRecDepth 100000 in
set_option maxHeartbeats 4000000 in
theorem tables_nil (Aq : Option Addr) (cq : Nat) (Ac : Option Addr) (cc : Nat) (p : Pln) (w : World) (h : PlnRd w Aq cq Ac cc p) (h0 : p.chk = 0) :
 Calls Tryz.prog 78 #[.agg #[.slice Aq p.quo.length cq, .slice Ac p.cons.length cc, .slice none 0 0, .slice none 0 0]] w fun e w' => e = .returned (.int .i64 0) /\ Ext w w' := by
 obtain ⟨W, hW, hB, hk, hlt⟩ := box1 w #[.slice Aq p.quo.length cq, .slice Ac p.cons.length cc, .slice none 0 0, .slice none 0 0] 83
 have hc := hk.cell
 have hpc := pcheck_any Aq cq Ac cc p W (h.ext hB)
 have hrd := h.ext hB
 have hbc := fun w h => bCheck_any Aq cq Ac cc p none 0 [] w h (Rd.nil) (by simp)
 have hsc := fun w h => sCheck_nil Aq cq Ac cc p w h h0
 rw [h0] at hpc
 have hb0 : p.bkChk [] = 0 := by unfold Pln.bkChk; rw [if_pos h0]; rfl
 rw [hb0] at hbc
 clear h0 hb0
 unfold Pln.val at hpc hbc hsc
 simp only [List.length_nil] at hbc
 go_enter Tryz.func78, Tryz.ntmps78
 go_wp2_with fail
 clear hW
 refine hpc.mono ?_
 clear hpc
 rintro e w1 ⟨rfl, hb1⟩
 have c1 := (hk.ext hb1).cell
 have l1 := (hk.ext hb1).lt
 go_wp2_with fail
 refine (hbc _ (hrd.ext hb1)).mono ?_
 rintro e w2 ⟨rfl, hb2⟩
 have c2 := ((hk.ext hb1).ext hb2).cell
 have l2 := ((hk.ext hb1).ext hb2).lt
 go_wp2_with fail
 refine (hsc _ ((hrd.ext hb1).ext hb2)).mono ?_
 rintro e w3 ⟨rfl, hb3⟩
 go_wp2
 go_ret
 exact ⟨rfl, ((hB.trans hb1).trans hb2).trans hb3⟩
theorem tabC_nil (Aq : Option Addr) (cq : Nat) (Ac : Option Addr) (cc : Nat) (p : Pln) (w : World) (h : PlnRd w Aq cq Ac cc p) (h0 : p.chk = 0) :
 TabC p [] (.agg #[.slice Aq p.quo.length cq, .slice Ac p.cons.length cc, .slice none 0 0, .slice none 0 0]) 0 w :=
 ⟨fun w' hb => tables_nil Aq cq Ac cc p w' (h.ext hb) h0, fun _ => by unfold Pln.bkChk; rw [if_pos h0]; rfl⟩
end
section
open Go.RowKit Go.Shelf
end
section
open Go.RowKit Go.Shelf
end
section
open Go.RowKit Go.Shelf
attribute [local go_sem] Oper.semAt_some
theorem Owns.kpxZ {α : Type} {E : Elt α} {g : Nat} {w w' : World} {base : Nat} {e t : TypeId} {v : Value} {l : List α} {cs : Array Value} (h : Owns E w base e v l) (hg : Blk w g t cs) (hne : t ≠ e) (hk : KpX w.heap.size g w w') : Owns E w' base e v l :=
 h.kpx hk (fun b hb => ⟨(h.block hb).2, fun e2 => by
  subst e2
  obtain ⟨c2, f2, h2⟩ := h.cellsZ hb
  have h1 : w.heap[b]? = some (.cells cs t (0, 0)) := hg
  rw [h1] at h2
  injection h2 with h2
  injection h2 with _ h2 _
  exact hne h2⟩)
theorem SpsAt.kpxZ {g : Nat} {w w' : World} {base : Nat} {t : TypeId} {cs : Array Value} {L : List Sl} {f : Nat -> Spn} (h : SpsAt w base L f) (hg : Blk w g t cs) (hne : t ≠ 190) (hk : KpX w.heap.size g w w') : SpsAt w' base L f := fun k hk2 => ⟨(h k hk2).1, (h k hk2).2.kpxZ hg hne hk⟩
theorem bld_fin {Aq : Option Addr} {nq cq : Nat} {Ac : Option Addr} {nc cc : Nat} {q : Req} {B b0 b1 : Nat} {LG' : List Sl} {DL' : List Int} {u : Value} {f : Nat -> Spn} {L : List Sl} {y : Spn} {a w : World} {A6 A9 : Option Addr} {c6 c9 n6 n9 : Nat} {g0 r0 d0 : Value}
 (kB : Blk w B 302 (gcells Aq nq cq Ac nc cc q g0 r0 d0)) (hG : Owns ESl w b1 188 (.slice A6 n6 c6) LG') (hD : Owns EInt w b1 3 (.slice A9 n9 c9) DL') (hS : SpsAt w b0 L f) (hU : Owns ESpn w b0 190 u [y]) (hx : Ext a w) (hB : a.heap.size <= B) :
 Blk ((w.setCell ⟨B, 11, none⟩ (.slice A6 n6 c6)).setCell ⟨B, 13, none⟩ (.slice A9 n9 c9)) B 302 (gcells Aq nq cq Ac nc cc q (.slice A6 n6 c6) r0 (.slice A9 n9 c9)) /\
 Owns ESl ((w.setCell ⟨B, 11, none⟩ (.slice A6 n6 c6)).setCell ⟨B, 13, none⟩ (.slice A9 n9 c9)) b1 188 (.slice A6 n6 c6) LG' /\
 Owns EInt ((w.setCell ⟨B, 11, none⟩ (.slice A6 n6 c6)).setCell ⟨B, 13, none⟩ (.slice A9 n9 c9)) b1 3 (.slice A9 n9 c9) DL' /\
 SpsAt ((w.setCell ⟨B, 11, none⟩ (.slice A6 n6 c6)).setCell ⟨B, 13, none⟩ (.slice A9 n9 c9)) b0 L f /\
 Owns ESpn ((w.setCell ⟨B, 11, none⟩ (.slice A6 n6 c6)).setCell ⟨B, 13, none⟩ (.slice A9 n9 c9)) b0 190 u [y] /\
 Ext a ((w.setCell ⟨B, 11, none⟩ (.slice A6 n6 c6)).setCell ⟨B, 13, none⟩ (.slice A9 n9 c9)) := by
 have k1 := kB.set_ 11 (.slice A6 n6 c6)
 exact ⟨k1.set_ 13 (.slice A9 n9 c9), (hG.setZ kB (by decide) 11 _).setZ k1 (by decide) 13 _, (hD.setZ kB (by decide) 11 _).setZ k1 (by decide) 13 _, (hS.setCell kB (by decide) 11 _).setCell k1 (by decide) 13 _, (hU.setZ kB (by decide) 11 _).setZ k1 (by decide) 13 _, (hx.setCell hB _).setCell hB _⟩
set_option maxRecDepth 100000 in
set_option maxHeartbeats 32000000 in
theorem build_any (Aq : Option Addr) (cq : Nat) (Ac : Option Addr) (cc : Nat) (p : Pln) (q : Req) (w : World) (h : PlnRd w Aq cq Ac cc p) (h0 : p.chk = 0) (hf : fineR p q = true) (hse : ∀ c ∈ p.cons, c.st < c.en /\ c.arg q.size = 0) (hqu : ∀ n : Int, 0 <= n -> n < p.quo.length -> q.size <= gi p.quo n /\ gi p.quo n <= 1099511627776) (hs : 1 <= q.size /\ q.size <= 65536) (hn16 : p.quo.length <= 16 /\ p.cons.length <= 64) :
 Calls Tryz.prog 121 #[.agg #[.slice Aq p.quo.length cq, .slice Ac p.cons.length cc, .slice none 0 0, .slice none 0 0], q.val] w fun e w' => ∃ B, e = .returned (.tuple #[.pointer (some ⟨B, 0, none⟩), .bool true]) /\ w.heap.size <= B /\ GAt Aq cq Ac cc p q w.heap.size w' B /\ Ext w w' := by
 obtain ⟨i0, hi0, hz0, hz1, hz2⟩ := info_parts info_sl
 obtain ⟨i1, hi1, hy0, hy1, hy2⟩ := info_parts info_int
 obtain ⟨W1, hW1, hB1, hk1, hkq, hl1, hlq⟩ := box2 w #[.slice Aq p.quo.length cq, .slice Ac p.cons.length cc, .slice none 0 0, .slice none 0 0] q.cells 83 85
 simp only [Req.cells] at hW1 hkq
 have htb := tables_nilM Aq cq Ac cc p W1 (h.ext hB1) h0
 have hcr := fun w' (hw' : Ext W1 w') => tCheckRequest_any Aq cq Ac cc p q w' ((h.ext hB1).ext hw')
 have hbf := fun i w h hi hse => bFree_nil Aq cq Ac cc p i w h h0 hi hse
 have hsf := fun n w h hn hq => sFree_nil Aq cq Ac cc p n q.size w h h0 hn hs hq
 have hdu := fun c w => Duration_any c q.size w
 have hrd := h.ext hB1
 have hqm := h.qm
 have hcm := h.cm
 have r0 := hk1.cell
 unfold Pln.val at hcr hbf hsf
 unfold Req.val at hcr ⊢
 have Hf := Lib.hid hf
 have Hse := Lib.hid hse
 have Hqu := Lib.hid hqu
 clear h0 hf hse hqu
 go_enter Tryz.func121, Tryz.ntmps121
 go_wp2_with fail
 clear hW1
 refine htb.mono ?_
 clear htb
 rintro e w1 ⟨rfl, hb1⟩
 have r1 := (hk1.ext hb1).cell
 have r2 := (hkq.ext hb1).cell
 have r3 := (hk1.ext hb1).lt
 have r4 := (hkq.ext hb1).lt
 go_wp2_with fail
 refine (hcr _ hb1).mono ?_
 clear hcr
 rintro e w2 ⟨k, rfl, hk0, hb2⟩
 obtain rfl := hk0.2 Hf.out
 clear hk0 r1 r2 r3 r4
 have hb12 := hb1.trans hb2
 have r1 := (hk1.ext hb12).cell
 have r2 := (hkq.ext hb12).cell
 have r3 := (hk1.ext hb12).lt
 have r4 := (hkq.ext hb12).lt
 obtain ⟨W5, hW5, hB5, hk5, hl5⟩ := box1 w2 #[.slice Aq p.quo.length cq, .slice Ac p.cons.length cc, .slice none 0 0, .slice none 0 0, .int .i64 q.src, .int .i64 q.dst, .int .i64 q.size, .int .i64 q.ready, .int .i64 q.dead, .int .i64 q.prio, .bool q.cust, .slice none 0 0, .slice none 0 0, .slice none 0 0] 302
 have r5 := (hk1.ext (hb12.trans hB5)).cell
 have r6 := (hk1.ext (hb12.trans hB5)).lt
 go_wp2_with fail
 clear r0 r1 r2 r3 r4 r5 r6 hW5
 go_loopg [34] p.cons.length (fun n v wr => ∃ (j : Nat) (Ag Ad : Option Addr) (cg cd : Nat) (LG : List Sl), j + n = p.cons.length /\ v = .int .i64 j /\ LG.length = j /\ Blk wr w2.heap.size 302 (gcells Aq p.quo.length cq Ac p.cons.length cc q (.slice Ag LG.length cg) (.slice none 0 0) (.slice Ad j cd)) /\ Owns ESl wr W1.heap.size 188 (.slice Ag LG.length cg) LG /\ Owns EInt wr W1.heap.size 3 (.slice Ad j cd) ((p.cons.take j).map (fun c => c.dur q.size)) /\ SpsAt wr w.heap.size LG (fun k => ⟨(gc p.cons k).st, (gc p.cons k).en⟩) /\ Ext W1 wr)
 case atStart => exact ⟨0, none, none, 0, 0, [], by omega, rfl, rfl, hk5, Owns.none_ _ _, Owns.none_ _ _, SpsAt.nil _ _ _, hb12.trans hB5⟩
 case round =>
  obtain ⟨j, Ag, Ad, cg, cd, LG, hjq, rfl, hLG, kB, hG, hD, hS, hx⟩ := hrel
  have Hjq := Lib.hid hjq
  have hjN : j <= p.cons.length := by omega
  clear hjq
  have t0 := (hk1.ext hx).cell
  have t1 := (hk1.ext hx).lt
  have hsx := hx.size
  by_cases hlt : j < p.cons.length
  ·obtain ⟨bc, oc, rfl, hbc, z0, z1, z2, z3, z4, z5, z6⟩ := (hrd.c.ext hx).con hlt
   have Hgc := Lib.hid (show gc p.cons (j : Int) = p.cons[j] from gc_get (i := (j : Int)) (by omega))
   have hsc := Hse.out _ (List.getElem_mem hlt)
   have Htk := Lib.hid (take_snoc hlt rfl)
   have hbf2 := fun w h => hbf (j : Int) w h ⟨by omega, by omega⟩ (by rw [Hgc.out]; exact hsc.1)
   rw [Hgc.out] at hbf2
   generalize p.cons[j] = c at *
   have hdu2 := fun w => hdu c w
   have hdr : c.durR q.size = c.dur q.size := if_pos hsc.2
   rw [hdr, hsc.2] at hdu2
   unfold Con.val at hdu2
   clear hdr hsc hdu hbf
   obtain ⟨W6, hW6, hB6, hk6, hl6⟩ := box1 wr c.cells 61
   simp only [Con.cells] at hW6 hk6
   have hx6 := hx.trans hB6
   have u0 := (hk1.ext hx6).cell
   have u1 := (hk1.ext hx6).lt
   go_wp2_with fail
   clear hW6 z0 z1 z2 z3 z4 z5 z6 u0 u1 t0 t1
   refine (hbf2 _ (hrd.ext hx6)).mono ?_
   rintro e w7 ⟨u, rfl, hu7, hb7⟩
   obtain ⟨A7, c7, rfl, hR7⟩ := hu7.form
   simp only [List.length_cons, List.length_nil, Nat.zero_add] at hu7 ⊢
   have hx7' := hx6.trans hb7
   have u0 := (hk6.ext hb7).cell
   have u1 := (hk6.ext hb7).lt
   have u2 := (hkq.ext hx7').cell
   have u3 := (hkq.ext hx7').lt
   go_wp2_with fail
   clear u0 u1 u2 u3
   refine (hdu2 _).mono ?_
   rintro e w8 ⟨rfl, hb8⟩
   have hx8 := hx7'.trans hb8
   have hsz8 := hx8.size
   have hw8 : w.heap.size <= w8.heap.size := by omega
   have hB8 := (hB6.trans hb7).trans hb8
   have kB8 := kB.ext hB8
   have hGo := hG.ext hB8
   have hDo := hD.ext hB8
   have hSo := hS.ext hB8
   have hUo := (hu7.ext hb8).mono (show w.heap.size <= W6.heap.size by have := hx6.size; omega)
   unfold gcells at kB8
   have b0 := kB8.cell
   have b1 := kB8.lt
   have b2 := kB8.frozen
   have Hmn := Lib.hid (show min j p.cons.length = j by omega)
   have hLc : LG.length <= 64 := by omega
   have HLG := Lib.hid hLG
   have Hsp := Lib.hid (show (⟨c.st, c.en⟩ : Spn) = ⟨(gc p.cons (LG.length : Int)).st, (gc p.cons (LG.length : Int)).en⟩ by rw [HLG.out, Hgc.out])
   have Hlen := Lib.hid (show (LG ++ [(⟨A7, 1, c7⟩ : Sl)]).length = LG.length + 1 by simp)
   clear hLG
   go_wp2_with fail
   -- GEN BEGIN
   have hS0 : w8.drew.cell? ⟨w2.heap.size, 11, none⟩ = some (.slice Ag LG.length cg) /\ w8.drew.cell? ⟨w2.heap.size, 13, none⟩ = some (.slice Ad j cd) := ⟨kB8.cell 11, kB8.cell 13⟩
   refine wp_region_P (fun k => decide (16 <= k)) (fun w' => w'.cell? ⟨w2.heap.size, 11, none⟩ = some (.slice Ag LG.length cg) /\ w'.cell? ⟨w2.heap.size, 13, none⟩ = some (.slice Ad j cd)) (by kernel_rfl) hS0 (fun _ => ?_)
   refine pT 0 (v := ?_) rfl (fun _ _ _ h => h) (by rfl) ?_ ?_
   rotate_left
   ·intro w'; go_simp; first | done | with_reducible rfl
   try simp only [Act.put, sp1]
   refine pT 1 (v := ?_) rfl (fun _ _ _ h => h) (by rfl) ?_ ?_
   rotate_left
   ·intro w'; go_simp; first | done | with_reducible rfl
   try simp only [Act.put, sp1]
   refine pT 2 (v := ?_) rfl (fun _ _ _ h => h) (by rfl) ?_ ?_
   rotate_left
   ·intro w'; go_simp; first | done | with_reducible rfl
   try simp only [Act.put, sp1]
   refine pT 3 (v := ?_) rfl (fun _ _ _ h => h) (by rfl) ?_ ?_
   rotate_left
   ·intro w'; go_simp; first | done | with_reducible rfl
   try simp only [Act.put, sp1]
   refine pT 4 (v := ?_) rfl (fun _ _ _ h => h) (by rfl) ?_ ?_
   rotate_left
   ·intro w'; go_simp; first | done | with_reducible rfl
   try simp only [Act.put, sp1]
   refine pK 5 (v := ?_) rfl (fun _ _ _ h => h) (by rfl) ?_ (by assumption) ?_
   rotate_left
   ·intro w' hw'
    (try have hC := hw'.2)
    (try have hC9 := hw'.1)
    go_simp
    first | done | with_reducible rfl
   try simp only [Act.put, sp1]
   refine pT 6 (v := ?_) rfl (fun _ _ _ h => h) (by rfl) ?_ ?_
   rotate_left
   ·intro w'; go_simp; first | done | with_reducible rfl
   try simp only [Act.put, sp1]
   refine pT 9 (v := ?_) rfl (fun _ _ _ h => h) (by rfl) ?_ ?_
   rotate_left
   ·intro w'; go_simp; first | done | with_reducible rfl
   try simp only [Act.put, sp1]
   refine pT 10 (v := ?_) rfl (fun _ _ _ h => h) (by rfl) ?_ ?_
   rotate_left
   ·intro w'; go_simp; first | done | with_reducible rfl
   try simp only [Act.put, sp1]
   refine pT 11 (v := ?_) rfl (fun _ _ _ h => h) (by rfl) ?_ ?_
   rotate_left
   ·intro w'; go_simp; first | done | with_reducible rfl
   try simp only [Act.put, sp1]
   refine pK 12 (v := ?_) rfl (fun _ _ _ h => h) (by rfl) ?_ (by assumption) ?_
   rotate_left
   ·intro w' hw'
    (try have hC := hw'.2)
    (try have hC9 := hw'.1)
    go_simp
    first | done | with_reducible rfl
   try simp only [Act.put, sp1]
   refine pT 13 (v := ?_) rfl (fun _ _ _ h => h) (by rfl) ?_ ?_
   rotate_left
   ·intro w'; go_simp; first | done | with_reducible rfl
   try simp only [Act.put, sp1]
   refine wpAnyP_ready (rs := [7, 14]) (by kernel_rfl) (by simp) ?_
   refine AllReadyP.cons rfl (fun K hK => ?_) (AllReadyP.cons rfl (fun K hK => ?_) AllReadyP.nil)
   ·go_simp
    refine hK.out _ _ (fun _ _ => ⟨(Blk.ext kB8 (by repeat (first | exact Ext.refl _ | apply Ext.alloc | apply Ext.drew))).cell 11, (Blk.ext kB8 (by repeat (first | exact Ext.refl _ | apply Ext.alloc | apply Ext.drew))).cell 13⟩) ?_
    clear hK K
    refine wpAnyP_ready (rs := [8, 14]) (by kernel_rfl) (by simp) ?_
    refine AllReadyP.cons rfl (fun K hK => ?_) (AllReadyP.cons rfl (fun K hK => ?_) AllReadyP.nil)
    ·refine step_push (by rfl) (.tmp 60) (.tmp 62) _ (by rfl) W1.heap.size 188 i0 _ 24 Tryz.underlying300 hi0 hz0 hz1 hz2 (by rfl) (.slice Ag LG.length cg) (by rfl) (hGo.ext (by repeat (first | exact Ext.refl _ | apply Ext.alloc | apply Ext.drew))) (w8.heap.size) (⟨A7, 1, c7⟩ : Sl) (by rfl) (by first | exact Blk.new _ _ _ | (simp [blk_alloc_iff, blk_drew]; done) | (simp [blk_alloc_iff, blk_drew]; rfl)) (by simp only [maxLen]; omega) (by omega) (by have := hx8.size; simp; omega) ?_
     intro v6 w6 hv6 hg6 hat
     have hD6 := Owns.kepttZ (hDo.ext (by repeat (first | exact Ext.refl _ | apply Ext.alloc | apply Ext.drew))) (hGo.ext (by repeat (first | exact Ext.refl _ | apply Ext.alloc | apply Ext.drew))) (by decide) hg6
     have kB6 := Blk.kepttZ (kB8.ext (by repeat (first | exact Ext.refl _ | apply Ext.alloc | apply Ext.drew))) (hGo.ext (by repeat (first | exact Ext.refl _ | apply Ext.alloc | apply Ext.drew))) (by decide) hg6
     have hS6 := SpsAt.kepttZ (hSo.ext (by repeat (first | exact Ext.refl _ | apply Ext.alloc | apply Ext.drew))) (hGo.ext (by repeat (first | exact Ext.refl _ | apply Ext.alloc | apply Ext.drew))) (by decide) hg6
     have hU6 := Owns.kepttZ (hUo.ext (by repeat (first | exact Ext.refl _ | apply Ext.alloc | apply Ext.drew))) (hGo.ext (by repeat (first | exact Ext.refl _ | apply Ext.alloc | apply Ext.drew))) (by decide) hg6
     have hx6 := ext_grown (hx8.trans (by repeat (first | exact Ext.refl _ | apply Ext.alloc | apply Ext.drew))) (hGo.ext (by repeat (first | exact Ext.refl _ | apply Ext.alloc | apply Ext.drew))) (Nat.le_refl _) hg6
     obtain ⟨A6, c6, rfl, _⟩ := hv6.form
     simp only [List.length_append, List.length_cons, List.length_nil, Nat.zero_add, List.length_map, List.length_take, Hmn.out] at hv6 ⊢
     refine hK.out _ _ (fun _ _ => ⟨kB6.cell 11, kB6.cell 13⟩) ?_
     clear hK K
     refine pO 14 rfl (fun K hK => ?_)
     ·go_simp
      refine hK.out _ _ (fun _ _ => ⟨(Blk.ext kB6 (by repeat (first | exact Ext.refl _ | apply Ext.alloc | apply Ext.drew))).cell 11, (Blk.ext kB6 (by repeat (first | exact Ext.refl _ | apply Ext.alloc | apply Ext.drew))).cell 13⟩) ?_
      clear hK K
      refine pO 15 rfl (fun K hK => ?_)
      ·refine step_push (by rfl) (.tmp 67) (.tmp 69) _ (by rfl) W1.heap.size 3 i1 _ 8 Tryz.underlying30 hi1 hy0 hy1 hy2 (by rfl) (.slice Ad j cd) (by rfl) (hD6.ext (by repeat (first | exact Ext.refl _ | apply Ext.alloc | apply Ext.drew))) (w6.heap.size) (c.dur q.size) (by rfl) (by first | exact Blk.new _ _ _ | (simp [blk_alloc_iff, blk_drew]; done) | (simp [blk_alloc_iff, blk_drew]; rfl)) (by simp [maxLen]; omega) (by simp; omega) (by have := hx6.size; simp; omega) ?_
       intro v17 w17 hv17 hg17 hat
       have hGz := Owns.kepttZ (hv6.ext (by repeat (first | exact Ext.refl _ | apply Ext.alloc | apply Ext.drew))) (hD6.ext (by repeat (first | exact Ext.refl _ | apply Ext.alloc | apply Ext.drew))) (by decide) hg17
       have kBz := Blk.kepttZ (kB6.ext (by repeat (first | exact Ext.refl _ | apply Ext.alloc | apply Ext.drew))) (hD6.ext (by repeat (first | exact Ext.refl _ | apply Ext.alloc | apply Ext.drew))) (by decide) hg17
       have hSz := SpsAt.kepttZ (hS6.ext (by repeat (first | exact Ext.refl _ | apply Ext.alloc | apply Ext.drew))) (hD6.ext (by repeat (first | exact Ext.refl _ | apply Ext.alloc | apply Ext.drew))) (by decide) hg17
       have hUz := Owns.kepttZ (hU6.ext (by repeat (first | exact Ext.refl _ | apply Ext.alloc | apply Ext.drew))) (hD6.ext (by repeat (first | exact Ext.refl _ | apply Ext.alloc | apply Ext.drew))) (by decide) hg17
       have hxz := ext_grown (hx6.trans (by repeat (first | exact Ext.refl _ | apply Ext.alloc | apply Ext.drew))) (hD6.ext (by repeat (first | exact Ext.refl _ | apply Ext.alloc | apply Ext.drew))) (Nat.le_refl _) hg17
       obtain ⟨A9, c9, rfl, _⟩ := hv17.form
       simp only [List.length_append, List.length_cons, List.length_nil, Nat.zero_add, List.length_map, List.length_take, Hmn.out] at hv17 ⊢
       refine hK.out _ _ (fun _ _ => ⟨kBz.cell 11, kBz.cell 13⟩) ?_
       clear hK K
       refine pT 16 (v := ?_) rfl (fun _ _ _ h => h) (by rfl) ?_ ?_
       rotate_left
       ·intro w'; go_simp; first | done | with_reducible rfl
       try simp only [Act.put, sp1]
       refine pT 17 (v := ?_) rfl (fun _ _ _ h => h) (by rfl) ?_ ?_
       rotate_left
       ·intro w'; go_simp; first | done | with_reducible rfl
       try simp only [Act.put, sp1]
       have q1 := kBz.lt
       have q2 := kBz.frozen
       have q3 := kBz.cell
       refine pO 18 rfl (fun K hK => ?_)
       go_simp
       refine hK.out _ _ (fun h => absurd h (by decide)) ?_
       clear hK K
       refine pT 19 (v := ?_) rfl (fun _ _ _ h => h) (by rfl) ?_ ?_
       rotate_left
       ·intro w'; go_simp; first | done | with_reducible rfl
       try simp only [Act.put, sp1]
       refine pT 20 (v := ?_) rfl (fun _ _ _ h => h) (by rfl) ?_ ?_
       rotate_left
       ·intro w'; go_simp; first | done | with_reducible rfl
       try simp only [Act.put, sp1]
       refine pO 21 rfl (fun K hK => ?_)
       go_simp
       refine hK.out _ _ (fun h => absurd h (by decide)) ?_
       clear hK K
       refine wpAnyP_done (by kernel_rfl) ?_ _
       have hFin := bld_fin kBz hGz hv17 hSz hUz hxz (by have := hb12.size; omega)
       clear q1 q2 q3
       go_wp2
       go_roundg (gk - 1)
       case measure => have := Hjq.out; omega
       case rel => exact ⟨j + 1, A6, A9, c6, c9, LG ++ [⟨A7, 1, c7⟩], by have := Hjq.out; omega, by go_num, by rw [List.length_append, HLG.out]; rfl, by rw [Hlen.out]; exact hFin.1, by rw [Hlen.out]; exact hFin.2.1, by rw [Htk.out, List.map_append]; exact hFin.2.2.1, SpsAt.push hFin.2.2.2.1 (by (try dsimp only); rw [<- Hsp.out]; exact hFin.2.2.2.2.1), hFin.2.2.2.2.2⟩
    ·go_simp
     refine hK.out _ _ (fun _ _ => ⟨(Blk.ext kB8 (by repeat (first | exact Ext.refl _ | apply Ext.alloc | apply Ext.drew))).cell 11, (Blk.ext kB8 (by repeat (first | exact Ext.refl _ | apply Ext.alloc | apply Ext.drew))).cell 13⟩) ?_
     clear hK K
     refine pO 8 rfl (fun K hK => ?_)
     ·refine step_push (by rfl) (.tmp 60) (.tmp 62) _ (by rfl) W1.heap.size 188 i0 _ 24 Tryz.underlying300 hi0 hz0 hz1 hz2 (by rfl) (.slice Ag LG.length cg) (by rfl) (hGo.ext (by repeat (first | exact Ext.refl _ | apply Ext.alloc | apply Ext.drew))) (w8.heap.size) (⟨A7, 1, c7⟩ : Sl) (by rfl) (by first | exact Blk.new _ _ _ | (simp [blk_alloc_iff, blk_drew]; done) | (simp [blk_alloc_iff, blk_drew]; rfl)) (by simp only [maxLen]; omega) (by omega) (by have := hx8.size; simp; omega) ?_
      intro v6 w6 hv6 hg6 hat
      have hD6 := Owns.kepttZ (hDo.ext (by repeat (first | exact Ext.refl _ | apply Ext.alloc | apply Ext.drew))) (hGo.ext (by repeat (first | exact Ext.refl _ | apply Ext.alloc | apply Ext.drew))) (by decide) hg6
      have bD6 := Blk.kepttZ (g := w8.heap.size + 1) (t := 3) (cs := #[.int .i64 (c.dur q.size)]) (by first | exact Blk.new _ _ _ | (simp [blk_alloc_iff, blk_drew]; done) | (simp [blk_alloc_iff, blk_drew]; rfl)) (hGo.ext (by repeat (first | exact Ext.refl _ | apply Ext.alloc | apply Ext.drew))) (by decide) hg6
      have kB6 := Blk.kepttZ (kB8.ext (by repeat (first | exact Ext.refl _ | apply Ext.alloc | apply Ext.drew))) (hGo.ext (by repeat (first | exact Ext.refl _ | apply Ext.alloc | apply Ext.drew))) (by decide) hg6
      have hS6 := SpsAt.kepttZ (hSo.ext (by repeat (first | exact Ext.refl _ | apply Ext.alloc | apply Ext.drew))) (hGo.ext (by repeat (first | exact Ext.refl _ | apply Ext.alloc | apply Ext.drew))) (by decide) hg6
      have hU6 := Owns.kepttZ (hUo.ext (by repeat (first | exact Ext.refl _ | apply Ext.alloc | apply Ext.drew))) (hGo.ext (by repeat (first | exact Ext.refl _ | apply Ext.alloc | apply Ext.drew))) (by decide) hg6
      have hx6 := ext_grown (hx8.trans (by repeat (first | exact Ext.refl _ | apply Ext.alloc | apply Ext.drew))) (hGo.ext (by repeat (first | exact Ext.refl _ | apply Ext.alloc | apply Ext.drew))) (Nat.le_refl _) hg6
      obtain ⟨A6, c6, rfl, _⟩ := hv6.form
      simp only [List.length_append, List.length_cons, List.length_nil, Nat.zero_add, List.length_map, List.length_take, Hmn.out] at hv6 ⊢
      refine hK.out _ _ (fun _ _ => ⟨kB6.cell 11, kB6.cell 13⟩) ?_
      clear hK K
      refine pO 15 rfl (fun K hK => ?_)
      ·refine step_push (by rfl) (.tmp 67) (.tmp 69) _ (by rfl) W1.heap.size 3 i1 _ 8 Tryz.underlying30 hi1 hy0 hy1 hy2 (by rfl) (.slice Ad j cd) (by rfl) (hD6.ext (by repeat (first | exact Ext.refl _ | apply Ext.alloc | apply Ext.drew))) (w8.heap.size + 1) (c.dur q.size) (by rfl) bD6 (by simp [maxLen]; omega) (by simp; omega) (by have := hx6.size; simp; omega) ?_
       intro v17 w17 hv17 hg17 hat
       have hGz := Owns.kepttZ (hv6.ext (by repeat (first | exact Ext.refl _ | apply Ext.alloc | apply Ext.drew))) (hD6.ext (by repeat (first | exact Ext.refl _ | apply Ext.alloc | apply Ext.drew))) (by decide) hg17
       have kBz := Blk.kepttZ (kB6.ext (by repeat (first | exact Ext.refl _ | apply Ext.alloc | apply Ext.drew))) (hD6.ext (by repeat (first | exact Ext.refl _ | apply Ext.alloc | apply Ext.drew))) (by decide) hg17
       have hSz := SpsAt.kepttZ (hS6.ext (by repeat (first | exact Ext.refl _ | apply Ext.alloc | apply Ext.drew))) (hD6.ext (by repeat (first | exact Ext.refl _ | apply Ext.alloc | apply Ext.drew))) (by decide) hg17
       have hUz := Owns.kepttZ (hU6.ext (by repeat (first | exact Ext.refl _ | apply Ext.alloc | apply Ext.drew))) (hD6.ext (by repeat (first | exact Ext.refl _ | apply Ext.alloc | apply Ext.drew))) (by decide) hg17
       have hxz := ext_grown (hx6.trans (by repeat (first | exact Ext.refl _ | apply Ext.alloc | apply Ext.drew))) (hD6.ext (by repeat (first | exact Ext.refl _ | apply Ext.alloc | apply Ext.drew))) (Nat.le_refl _) hg17
       obtain ⟨A9, c9, rfl, _⟩ := hv17.form
       simp only [List.length_append, List.length_cons, List.length_nil, Nat.zero_add, List.length_map, List.length_take, Hmn.out] at hv17 ⊢
       refine hK.out _ _ (fun _ _ => ⟨kBz.cell 11, kBz.cell 13⟩) ?_
       clear hK K
       refine pT 16 (v := ?_) rfl (fun _ _ _ h => h) (by rfl) ?_ ?_
       rotate_left
       ·intro w'; go_simp; first | done | with_reducible rfl
       try simp only [Act.put, sp1]
       refine pT 17 (v := ?_) rfl (fun _ _ _ h => h) (by rfl) ?_ ?_
       rotate_left
       ·intro w'; go_simp; first | done | with_reducible rfl
       try simp only [Act.put, sp1]
       have q1 := kBz.lt
       have q2 := kBz.frozen
       have q3 := kBz.cell
       refine pO 18 rfl (fun K hK => ?_)
       go_simp
       refine hK.out _ _ (fun h => absurd h (by decide)) ?_
       clear hK K
       refine pT 19 (v := ?_) rfl (fun _ _ _ h => h) (by rfl) ?_ ?_
       rotate_left
       ·intro w'; go_simp; first | done | with_reducible rfl
       try simp only [Act.put, sp1]
       refine pT 20 (v := ?_) rfl (fun _ _ _ h => h) (by rfl) ?_ ?_
       rotate_left
       ·intro w'; go_simp; first | done | with_reducible rfl
       try simp only [Act.put, sp1]
       refine pO 21 rfl (fun K hK => ?_)
       go_simp
       refine hK.out _ _ (fun h => absurd h (by decide)) ?_
       clear hK K
       refine wpAnyP_done (by kernel_rfl) ?_ _
       have hFin := bld_fin kBz hGz hv17 hSz hUz hxz (by have := hb12.size; omega)
       clear q1 q2 q3
       go_wp2
       go_roundg (gk - 1)
       case measure => have := Hjq.out; omega
       case rel => exact ⟨j + 1, A6, A9, c6, c9, LG ++ [⟨A7, 1, c7⟩], by have := Hjq.out; omega, by go_num, by rw [List.length_append, HLG.out]; rfl, by rw [Hlen.out]; exact hFin.1, by rw [Hlen.out]; exact hFin.2.1, by rw [Htk.out, List.map_append]; exact hFin.2.2.1, SpsAt.push hFin.2.2.2.1 (by (try dsimp only); rw [<- Hsp.out]; exact hFin.2.2.2.2.1), hFin.2.2.2.2.2⟩
   ·go_simp
    refine hK.out _ _ (fun _ _ => ⟨(Blk.ext kB8 (by repeat (first | exact Ext.refl _ | apply Ext.alloc | apply Ext.drew))).cell 11, (Blk.ext kB8 (by repeat (first | exact Ext.refl _ | apply Ext.alloc | apply Ext.drew))).cell 13⟩) ?_
    clear hK K
    refine pO 7 rfl (fun K hK => ?_)
    ·go_simp
     refine hK.out _ _ (fun _ _ => ⟨(Blk.ext kB8 (by repeat (first | exact Ext.refl _ | apply Ext.alloc | apply Ext.drew))).cell 11, (Blk.ext kB8 (by repeat (first | exact Ext.refl _ | apply Ext.alloc | apply Ext.drew))).cell 13⟩) ?_
     clear hK K
     refine pO 8 rfl (fun K hK => ?_)
     ·refine step_push (by rfl) (.tmp 60) (.tmp 62) _ (by rfl) W1.heap.size 188 i0 _ 24 Tryz.underlying300 hi0 hz0 hz1 hz2 (by rfl) (.slice Ag LG.length cg) (by rfl) (hGo.ext (by repeat (first | exact Ext.refl _ | apply Ext.alloc | apply Ext.drew))) (w8.heap.size + 1) (⟨A7, 1, c7⟩ : Sl) (by rfl) (by first | exact Blk.new _ _ _ | (simp [blk_alloc_iff, blk_drew]; done) | (simp [blk_alloc_iff, blk_drew]; rfl)) (by simp only [maxLen]; omega) (by omega) (by have := hx8.size; simp; omega) ?_
      intro v6 w6 hv6 hg6 hat
      have hD6 := Owns.kepttZ (hDo.ext (by repeat (first | exact Ext.refl _ | apply Ext.alloc | apply Ext.drew))) (hGo.ext (by repeat (first | exact Ext.refl _ | apply Ext.alloc | apply Ext.drew))) (by decide) hg6
      have bD6 := Blk.kepttZ (g := w8.heap.size) (t := 3) (cs := #[.int .i64 (c.dur q.size)]) (by first | exact Blk.new _ _ _ | (simp [blk_alloc_iff, blk_drew]; done) | (simp [blk_alloc_iff, blk_drew]; rfl)) (hGo.ext (by repeat (first | exact Ext.refl _ | apply Ext.alloc | apply Ext.drew))) (by decide) hg6
      have kB6 := Blk.kepttZ (kB8.ext (by repeat (first | exact Ext.refl _ | apply Ext.alloc | apply Ext.drew))) (hGo.ext (by repeat (first | exact Ext.refl _ | apply Ext.alloc | apply Ext.drew))) (by decide) hg6
      have hS6 := SpsAt.kepttZ (hSo.ext (by repeat (first | exact Ext.refl _ | apply Ext.alloc | apply Ext.drew))) (hGo.ext (by repeat (first | exact Ext.refl _ | apply Ext.alloc | apply Ext.drew))) (by decide) hg6
      have hU6 := Owns.kepttZ (hUo.ext (by repeat (first | exact Ext.refl _ | apply Ext.alloc | apply Ext.drew))) (hGo.ext (by repeat (first | exact Ext.refl _ | apply Ext.alloc | apply Ext.drew))) (by decide) hg6
      have hx6 := ext_grown (hx8.trans (by repeat (first | exact Ext.refl _ | apply Ext.alloc | apply Ext.drew))) (hGo.ext (by repeat (first | exact Ext.refl _ | apply Ext.alloc | apply Ext.drew))) (Nat.le_refl _) hg6
      obtain ⟨A6, c6, rfl, _⟩ := hv6.form
      simp only [List.length_append, List.length_cons, List.length_nil, Nat.zero_add, List.length_map, List.length_take, Hmn.out] at hv6 ⊢
      refine hK.out _ _ (fun _ _ => ⟨kB6.cell 11, kB6.cell 13⟩) ?_
      clear hK K
      refine pO 15 rfl (fun K hK => ?_)
      ·refine step_push (by rfl) (.tmp 67) (.tmp 69) _ (by rfl) W1.heap.size 3 i1 _ 8 Tryz.underlying30 hi1 hy0 hy1 hy2 (by rfl) (.slice Ad j cd) (by rfl) (hD6.ext (by repeat (first | exact Ext.refl _ | apply Ext.alloc | apply Ext.drew))) (w8.heap.size) (c.dur q.size) (by rfl) bD6 (by simp [maxLen]; omega) (by simp; omega) (by have := hx6.size; simp; omega) ?_
       intro v17 w17 hv17 hg17 hat
       have hGz := Owns.kepttZ (hv6.ext (by repeat (first | exact Ext.refl _ | apply Ext.alloc | apply Ext.drew))) (hD6.ext (by repeat (first | exact Ext.refl _ | apply Ext.alloc | apply Ext.drew))) (by decide) hg17
       have kBz := Blk.kepttZ (kB6.ext (by repeat (first | exact Ext.refl _ | apply Ext.alloc | apply Ext.drew))) (hD6.ext (by repeat (first | exact Ext.refl _ | apply Ext.alloc | apply Ext.drew))) (by decide) hg17
       have hSz := SpsAt.kepttZ (hS6.ext (by repeat (first | exact Ext.refl _ | apply Ext.alloc | apply Ext.drew))) (hD6.ext (by repeat (first | exact Ext.refl _ | apply Ext.alloc | apply Ext.drew))) (by decide) hg17
       have hUz := Owns.kepttZ (hU6.ext (by repeat (first | exact Ext.refl _ | apply Ext.alloc | apply Ext.drew))) (hD6.ext (by repeat (first | exact Ext.refl _ | apply Ext.alloc | apply Ext.drew))) (by decide) hg17
       have hxz := ext_grown (hx6.trans (by repeat (first | exact Ext.refl _ | apply Ext.alloc | apply Ext.drew))) (hD6.ext (by repeat (first | exact Ext.refl _ | apply Ext.alloc | apply Ext.drew))) (Nat.le_refl _) hg17
       obtain ⟨A9, c9, rfl, _⟩ := hv17.form
       simp only [List.length_append, List.length_cons, List.length_nil, Nat.zero_add, List.length_map, List.length_take, Hmn.out] at hv17 ⊢
       refine hK.out _ _ (fun _ _ => ⟨kBz.cell 11, kBz.cell 13⟩) ?_
       clear hK K
       refine pT 16 (v := ?_) rfl (fun _ _ _ h => h) (by rfl) ?_ ?_
       rotate_left
       ·intro w'; go_simp; first | done | with_reducible rfl
       try simp only [Act.put, sp1]
       refine pT 17 (v := ?_) rfl (fun _ _ _ h => h) (by rfl) ?_ ?_
       rotate_left
       ·intro w'; go_simp; first | done | with_reducible rfl
       try simp only [Act.put, sp1]
       have q1 := kBz.lt
       have q2 := kBz.frozen
       have q3 := kBz.cell
       refine pO 18 rfl (fun K hK => ?_)
       go_simp
       refine hK.out _ _ (fun h => absurd h (by decide)) ?_
       clear hK K
       refine pT 19 (v := ?_) rfl (fun _ _ _ h => h) (by rfl) ?_ ?_
       rotate_left
       ·intro w'; go_simp; first | done | with_reducible rfl
       try simp only [Act.put, sp1]
       refine pT 20 (v := ?_) rfl (fun _ _ _ h => h) (by rfl) ?_ ?_
       rotate_left
       ·intro w'; go_simp; first | done | with_reducible rfl
       try simp only [Act.put, sp1]
       refine pO 21 rfl (fun K hK => ?_)
       go_simp
       refine hK.out _ _ (fun h => absurd h (by decide)) ?_
       clear hK K
       refine wpAnyP_done (by kernel_rfl) ?_ _
       have hFin := bld_fin kBz hGz hv17 hSz hUz hxz (by have := hb12.size; omega)
       clear q1 q2 q3
       go_wp2
       go_roundg (gk - 1)
       case measure => have := Hjq.out; omega
       case rel => exact ⟨j + 1, A6, A9, c6, c9, LG ++ [⟨A7, 1, c7⟩], by have := Hjq.out; omega, by go_num, by rw [List.length_append, HLG.out]; rfl, by rw [Hlen.out]; exact hFin.1, by rw [Hlen.out]; exact hFin.2.1, by rw [Htk.out, List.map_append]; exact hFin.2.2.1, SpsAt.push hFin.2.2.2.1 (by (try dsimp only); rw [<- Hsp.out]; exact hFin.2.2.2.2.1), hFin.2.2.2.2.2⟩
   -- GEN END
  ·obtain rfl : j = p.cons.length := by omega
   obtain ⟨wo, rfl⟩ : ∃ wo, wo = wr := ⟨_, rfl⟩
   rw [List.take_length] at hD
   have HLG := Lib.hid hLG
   have hLc : LG.length <= 64 := by omega
   clear hLG
   go_wp2_with fail
   clear t0 t1
   go_loopg [80] p.quo.length (fun n v wr => ∃ (i : Nat) (Ar : Option Addr) (cr : Nat) (LR : List Sl), i + n = p.quo.length /\ v = .int .i64 i /\ LR.length = i /\ Blk wr w2.heap.size 302 (gcells Aq p.quo.length cq Ac p.cons.length cc q (.slice Ag LG.length cg) (.slice Ar LR.length cr) (.slice Ad p.cons.length cd)) /\ Owns ESl wr wo.heap.size 188 (.slice Ar LR.length cr) LR /\ SpsAt wr w.heap.size LR (fun _ => ⟨0, 1099511627776⟩) /\ KpX wo.heap.size w2.heap.size wo wr)
   case atStart => exact ⟨0, none, 0, [], by omega, rfl, rfl, kB, Owns.none_ _ _, SpsAt.nil _ _ _, KpX.refl _ _ _⟩
   case round =>
    obtain ⟨i, Ar, cr, LR, hiq, rfl, hLR, kB1, hR, hS1, hK⟩ := hrel
    have Hiq := Lib.hid hiq
    have hiN : i <= p.quo.length := by omega
    clear hiq
    have hb12s := hb12.size
    have hEx := hK.ext hx hsx hb12s
    have hKs := hK.size
    by_cases hlt : i < p.quo.length
    ·have hqi := Hqu.out (i : Int) (by omega) (by omega)
     have hsf2 := fun w h => hsf (i : Int) w h ⟨by omega, by omega⟩ hqi
     have t0 := (hk1.ext hEx).cell
     have t1 := (hk1.ext hEx).lt
     have t2 := (hkq.ext hEx).cell
     have t3 := (hkq.ext hEx).lt
     have HLR := Lib.hid hLR
     have hLRc : LR.length <= 16 := by omega
     clear hLR hqi
     go_wp2_with fail
     clear t0 t1 t2 t3
     refine (hsf2 _ (hrd.ext hEx)).mono ?_
     clear hsf2
     rintro e w7 ⟨u, rfl, hu7, hb7⟩
     obtain ⟨A7, c7, rfl, hR7⟩ := hu7.form
     simp only [List.length_cons, List.length_nil, Nat.zero_add] at hu7 ⊢
     have hEx7 := hEx.trans hb7
     have hu8 := hu7.mono (show w.heap.size <= wr.heap.size by have := hB1.size; omega)
     have kB7 := kB1.ext hb7
     unfold gcells at kB7
     have hb7s := hb7.size
     have t0 := kB7.cell
     have t1 := kB7.lt
     have Hlen := Lib.hid (show (LR ++ [(⟨A7, 1, c7⟩ : Sl)]).length = LR.length + 1 by simp)
     go_wp2_with (at_builtin; refine wpList_push rfl (.tmp 98) (.tmp 100) _ (by rfl) wo.heap.size 188 i0 _ 24 Tryz.underlying300 hi0 hz0 hz1 hz2 (by rfl) (.slice Ar LR.length cr) (by rfl) (hR.ext (hb7.alloc _)) w7.heap.size (⟨A7, 1, c7⟩ : Sl) (by rfl) (Blk.new w7 _ _) (by simp only [maxLen]; omega) (by omega) (by simp; omega) ?_; intro v6 w6 hv6 hg6 hat6; have kB6 := Blk.kepttZ (kB7.ext ((Ext.refl _).alloc _)) (hR.ext (hb7.alloc _)) (by decide) hg6; have hS6 := SpsAt.kepttZ (hS1.ext (hb7.alloc _)) (hR.ext (hb7.alloc _)) (by decide) hg6; have hU6 := Owns.kepttZ (hu8.ext ((Ext.refl _).alloc _)) (hR.ext (hb7.alloc _)) (by decide) hg6; have hK6 : KpX wo.heap.size w2.heap.size wo w6 := KpX.trans hK (KpX.trans (KpX.of_ext hKs (hb7.alloc _)) (KpX.grown (by simp; omega) hg6 (fun r e => (hR.block e).1))); have x1 := kB6.lt; have x2 := kB6.frozen; have x3 := kB6.cell; obtain ⟨A6, c6, rfl, hR6⟩ := hv6.form; simp only [List.length_append, List.length_cons, List.length_nil, Nat.zero_add] at hv6 ⊢)
     go_roundg (gk - 1)
     case measure => have := Hiq.out; omega
     case rel => exact ⟨i + 1, A6, c6, LR ++ [⟨A7, 1, c7⟩], by have := Hiq.out; omega, by go_num, by rw [Hlen.out, HLR.out], by rw [Hlen.out]; exact kB6.set_ 12 _, by rw [Hlen.out]; exact hv6.setZ kB6 (by decide) 12 _, SpsAt.push (hS6.setCell kB6 (by decide) 12 _) (hU6.setZ kB6 (by decide) 12 _), hK6.trans (KpX.setCell _ _ _)⟩
    ·obtain rfl : i = p.quo.length := by omega
     have hEw := hB1.trans hEx
     go_wp2
     go_ret2
     refine ⟨w2.heap.size, rfl, by have := hB1.size; omega, ⟨Ag, Ar, Ad, cg, cr, cd, LG, LR, kB1, (hG.kpxZ kB (by decide) hK).rd, hR.rd, (hD.kpxZ kB (by decide) hK).rd, HLG.out, hLR, hS.kpxZ kB (by decide) hK, hS1⟩, hEw⟩
end
section
open Go.RowKit Go.Shelf
attribute [local go_sem] Oper.semAt_some
theorem rd_new3M (W : World) (t : TypeId) (a b c : Int) : Rd EInt (W.alloc (.cells #[.int .i64 a, .int .i64 b, .int .i64 c] t)).drew (some ⟨W.heap.size, 0, none⟩) [a, b, c] := rd_blk3 (t := t) (show Blk (W.alloc (.cells #[.int .i64 a, .int .i64 b, .int .i64 c] t)).drew W.heap.size t #[.int .i64 a, .int .i64 b, .int .i64 c] from Blk.new W t _)
def lbC (x y : Lb) : Int := orL [cmpI x.tm y.tm, cmpI x.node y.node, cmpI x.fr y.fr]
set_option maxRecDepth 100000 in
set_option maxHeartbeats 4000000 in
theorem lcompare_any (x y : Lb) (w : World) :
 Calls Tryz.prog 200 #[.agg #[.int .i64 x.node, .int .i64 x.fr, .int .i64 x.til, .int .i64 x.tm], .agg #[.int .i64 y.node, .int .i64 y.fr, .int .i64 y.til, .int .i64 y.tm]] w fun e w' => e = .returned (.int .i64 (lbC x y)) /\ Ext w w' := by
 obtain ⟨W, hW, hB, hk, hk2, hlt, hlt2⟩ := box2 w #[.int .i64 x.node, .int .i64 x.fr, .int .i64 x.til, .int .i64 x.tm] #[.int .i64 y.node, .int .i64 y.fr, .int .i64 y.til, .int .i64 y.tm] 308 308
 have hc := hk.cell
 have hc2 := hk2.cell
 go_enter Tryz.func200, Tryz.ntmps200
 go_wp2_with fail
 clear hW
 have hN := Near.refl W
 go_region_held3 (fun w' => Ext W w' /\ ∀ b o, b < W.heap.size -> w'.cell? ⟨b, o, none⟩ = W.cell? ⟨b, o, none⟩) (first | exact hN.drew | exact near_alloc (by assumption) _ | assumption)
  (first | (go_at_call 68; refine (cmp_any _ _ _).mono ?_; rintro e w1 ⟨rfl, rfl⟩) | (go_at_call 67; refine (or_any _ 3 [cmpI x.tm y.tm, cmpI x.node y.node, cmpI x.fr y.fr] _ (by first | exact rd_blk3 (Blk.new _ _ _) | exact rd_new3M _ _ _ _ _) (by simp)).mono ?_; rintro e w1 ⟨rfl, rfl⟩))
 all_goals
  clear hN
  go_wp2
  go_ret
  exact ⟨rfl, hB.trans (And.left ‹Ext W _ /\ _›)⟩
set_option maxRecDepth 100000 in
set_option maxHeartbeats 4000000 in
theorem lab1_any (bx : Nat) (x y : Lb) (w : World) (kx : Blk w bx 308 #[.int .i64 x.node, .int .i64 x.fr, .int .i64 x.til, .int .i64 x.tm]) :
 Calls Tryz.prog 202 #[.agg #[.int .i64 y.node, .int .i64 y.fr, .int .i64 y.til, .int .i64 y.tm], .pointer (some ⟨bx, 0, none⟩)] w fun e w' => e = .returned (.bool (lbSame x y)) /\ Ext w w' := by
 obtain ⟨W, hW, hB, hk, hlt⟩ := box1 w #[.int .i64 y.node, .int .i64 y.fr, .int .i64 y.til, .int .i64 y.tm] 308
 have hc := hk.cell
 have kx2 := kx.ext hB
 have hc2 := kx2.cell
 have hl2 := kx2.lt
 have hs := fun w => same_any x y w
 unfold Lb.val at hs
 go_enter Tryz.func202, Tryz.ntmps202
 go_wp2_with fail
 refine (hs _).mono ?_
 rintro e w1 ⟨rfl, hb1⟩
 go_wp2
 go_ret
 exact ⟨rfl, hB.trans hb1⟩
set_option maxRecDepth 100000 in
set_option maxHeartbeats 4000000 in
theorem lab2_any (bx : Nat) (x y : Lb) (h0 h1 h2 h3 : Int) (w : World) (kx : Blk w bx 313 #[.int .i64 x.node, .int .i64 x.fr, .int .i64 x.til, .int .i64 x.tm, .int .i64 h0, .int .i64 h1, .int .i64 h2, .int .i64 h3]) :
 Calls Tryz.prog 205 #[.agg #[.int .i64 y.node, .int .i64 y.fr, .int .i64 y.til, .int .i64 y.tm], .pointer (some ⟨bx, 0, none⟩)] w fun e w' => e = .returned (.bool (lbSame x y)) /\ Ext w w' := by
 obtain ⟨W, hW, hB, hk, hlt⟩ := box1 w #[.int .i64 y.node, .int .i64 y.fr, .int .i64 y.til, .int .i64 y.tm] 308
 have hc := hk.cell
 have kx2 := kx.ext hB
 have hc2 := kx2.cell
 have hl2 := kx2.lt
 have hs := fun w => same_any x y w
 unfold Lb.val at hs
 go_enter Tryz.func205, Tryz.ntmps205
 go_wp2_with fail
 refine (hs _).mono ?_
 rintro e w1 ⟨rfl, hb1⟩
 go_wp2
 go_ret
 exact ⟨rfl, hB.trans hb1⟩
set_option maxRecDepth 100000 in
set_option maxHeartbeats 4000000 in
theorem idx1_hit (A : Option Addr) (c bx : Nat) (x : Lb) (w : World) (hR : Rd ELb w A [x]) (kx : Blk w bx 308 #[.int .i64 x.node, .int .i64 x.fr, .int .i64 x.til, .int .i64 x.tm]) :
 Calls Tryz.prog 267 #[.slice A 1 c, .func (.func 202) #[] #[.pointer (some ⟨bx, 0, none⟩)]] w fun e w' => e = .returned (.int .i64 0) /\ Ext w w' := by
 obtain ⟨b, o, rfl, hb, c0, c1, c2, c3⟩ := hR.lb (k := 0) (by simp)
 simp only [List.getElem_cons_zero, Nat.zero_mul, Nat.add_zero] at c0 c1 c2 c3
 have hla := fun w h => lab1_any bx x x w h
 have hss : lbSame x x = true := by simp [lbSame]
 rw [hss] at hla
 clear hss
 go_enter Tryz.func267, Tryz.ntmps267
 go_wp2_with fail
 go_loopg [8] 1 (fun n k wr => k = .int .i64 0 /\ wr = w)
 case atStart => exact ⟨rfl, rfl⟩
 case round =>
  obtain ⟨rfl, rfl⟩ := hrel
  go_wp2_with fail
  refine (hla _ kx).mono ?_
  rintro e w1 ⟨rfl, hb1⟩
  go_wp2
  go_ret
  exact ⟨rfl, hb1⟩
set_option maxRecDepth 100000 in
set_option maxHeartbeats 4000000 in
theorem cnt2_none (A : Option Addr) (c bx : Nat) (x : Lb) (h0 h1 h2 h3 : Int) (l : List Lb) (w : World) (hR : Rd ELb w A l) (hm : l.length <= 64) (kx : Blk w bx 313 #[.int .i64 x.node, .int .i64 x.fr, .int .i64 x.til, .int .i64 x.tm, .int .i64 h0, .int .i64 h1, .int .i64 h2, .int .i64 h3]) (hn : ∀ k (h : k < l.length), lbSame x l[k] = false) :
 Calls Tryz.prog 204 #[.slice A l.length c, .func (.func 205) #[] #[.pointer (some ⟨bx, 0, none⟩)]] w fun e w' => e = .returned (.bool false) /\ Ext w w' := by
 have hix : Calls Tryz.prog 267 #[.slice A l.length c, .func (.func 205) #[] #[.pointer (some ⟨bx, 0, none⟩)]] w fun e w' => e = .returned (.int .i64 (-1)) /\ Ext w w' := by
  have Hn := Lib.hid hn
  clear hn
  go_enter Tryz.func267, Tryz.ntmps267
  go_wp2_with fail
  go_loopg [8] l.length (fun n k wr => ∃ j : Nat, j + n = l.length /\ k = .int .i64 j /\ Ext w wr)
  case atStart => exact ⟨0, by omega, rfl, Ext.refl _⟩
  case round =>
   obtain ⟨j, hjk, rfl, hx⟩ := hrel
   have Hjk := Lib.hid hjk
   have hjl : j <= l.length := by omega
   clear hjk
   by_cases hlt : j < l.length
   ·obtain ⟨b, o, rfl, hb, c0, c1, c2, c3⟩ := (hR.ext hx).lb hlt
    have hla := fun w h => lab2_any bx x l[j] h0 h1 h2 h3 w h
    rw [Hn.out j hlt] at hla
    generalize l[j] = y at *
    go_wp2_with fail
    refine (hla _ (kx.ext hx)).mono ?_
    rintro e w1 ⟨rfl, hb1⟩
    go_wp2
    go_roundg (gk - 1)
    case measure => have := Hjk.out; omega
    case rel => exact ⟨j + 1, by have := Hjk.out; omega, by go_num, hx.trans hb1⟩
   ·go_wp2
    go_ret
    exact ⟨rfl, hx⟩
 clear hn
 go_enter Tryz.func204, Tryz.ntmps204
 go_wp2_with fail
 refine hix.mono ?_
 rintro e w1 ⟨rfl, hb1⟩
 go_wp2
 go_ret
 exact ⟨rfl, hb1⟩
set_option maxRecDepth 100000 in
set_option maxHeartbeats 4000000 in
theorem min1_any (A : Option Addr) (c : Nat) (x : Lb) (f : Value) (w : World) (hR : Rd ELb w A [x]) :
 Calls Tryz.prog 199 #[.slice A 1 c, f] w fun e w' => e = .returned (.agg #[.int .i64 x.node, .int .i64 x.fr, .int .i64 x.til, .int .i64 x.tm]) /\ Ext w w' := by
 obtain ⟨W1, hW1, hB1, hk1, hl1⟩ := box1 w #[.int .i64 0, .int .i64 0, .int .i64 0, .int .i64 0] 308
 obtain ⟨W2, hW2, hB2, hk2, hl2⟩ := box1 W1 #[.int .i64 x.node, .int .i64 x.fr, .int .i64 x.til, .int .i64 x.tm] 308
 obtain ⟨b, o, rfl, hb, c0, c1, c2, c3⟩ := (hR.ext hB1).lb (k := 0) (by simp)
 simp only [List.getElem_cons_zero, Nat.zero_mul, Nat.add_zero] at c0 c1 c2 c3
 have k3 := hk1.ext hB2
 have a0 := hk2.cell
 have a1 := hk2.lt
 have a2 := k3.cell
 have a3 := k3.lt
 have a4 := k3.frozen
 go_enter Tryz.func199, Tryz.ntmps199
 go_wp2_with fail
 go_loopg [6] 1 (fun n k wr => k = .int .i64 1 /\ wr = W2)
 case atStart => exact ⟨rfl, rfl⟩
 case round =>
  obtain ⟨rfl, rfl⟩ := hrel
  go_wp2_with fail
  obtain ⟨w7, hw7, hz7, hE7⟩ : ∃ w7, wr.setCells w.heap.size 0 [.int .i64 x.node, .int .i64 x.fr, .int .i64 x.til, .int .i64 x.tm] = w7 /\ Blk w7 w.heap.size 308 #[.int .i64 x.node, .int .i64 x.fr, .int .i64 x.til, .int .i64 x.tm] /\ Ext w w7 :=
   ⟨_, rfl, k3.setCells_ [.int .i64 x.node, .int .i64 x.fr, .int .i64 x.til, .int .i64 x.tm] 0, ext_setCells (hB1.trans hB2) (Nat.le_refl _) 0 _⟩
  simp only [World.setCells, Nat.zero_add, Nat.reduceAdd] at hw7
  try rw [hw7]
  have hc7 := hz7.cell
  refine bodyPost_ret (v := .agg #[.int .i64 x.node, .int .i64 x.fr, .int .i64 x.til, .int .i64 x.tm]) (by rw [results_cell1 rfl]; simp [asAddr, Result.andThen, hc7, go_sem]) rfl ?_
  exact ⟨rfl, hE7⟩
end
section
open Go.RowKit Go.Shelf
attribute [local go_sem] Oper.semAt_some
theorem zero_lb : ∀ w, (zeroValue 308).run Tryz.prog w = .ok (.agg #[.int .i64 0, .int .i64 0, .int .i64 0, .int .i64 0]) w := fun w => by kernel_rfl
theorem run_clear_lb {w : World} {g : Nat} {e : TypeId} {cur : Array Value} {c : Nat} (hk : Blk w g e cur) (hn : 4 <= cur.size) (ty : TypeId) :
 (Builtin.clear_ #[229] ty #[.slice (some ⟨g, 0, none⟩) 1 c]).run Tryz.prog w = .ok (.tuple #[]) (w.setCells g 0 [.int .i64 0, .int .i64 0, .int .i64 0, .int .i64 0]) := by
 have hst := run_storeCells_cells (P := Tryz.prog) g 0 [.int .i64 0, .int .i64 0, .int .i64 0, .int .i64 0] 0 w
  (fun j hj => by
   rw [hk.cell]
   simp only [List.length_cons, List.length_nil] at hj
   rw [Array.getElem?_eq_getElem (by omega)]
   rfl)
  (fun j hj => hk.frozen _) (fun v hv => by simp only [List.mem_cons, List.mem_nil_iff, or_false, or_self] at hv; subst hv; rfl)
 rw [Nat.add_zero] at hst
 have hz : (Builtin.zeroCells #[.int .i64 0, .int .i64 0, .int .i64 0, .int .i64 0] 1).toList = [.int .i64 0, .int .i64 0, .int .i64 0, .int .i64 0] := by kernel_rfl
 simp only [Builtin.clear_]
 simp [run_underlying Tryz.underlying229, zero_lb, Value.cells, hz, hst]
set_option maxRecDepth 100000 in
set_option maxHeartbeats 4000000 in
theorem del1_any (g c bx : Nat) (x : Lb) (base : Nat) (w : World) (hv : Owns ELb w base 308 (.slice (some ⟨g, 0, none⟩) 1 c) [x]) (kx : Blk w bx 308 #[.int .i64 x.node, .int .i64 x.fr, .int .i64 x.til, .int .i64 x.tm]) :
 Calls Tryz.prog 201 #[.slice (some ⟨g, 0, none⟩) 1 c, .func (.func 202) #[] #[.pointer (some ⟨bx, 0, none⟩)]] w fun e w' => e = .returned (.slice (some ⟨g, 0, none⟩) 0 c) /\ Owns ELb w' base 308 (.slice (some ⟨g, 0, none⟩) 0 c) [] /\ ∃ w1 vs, Ext w w1 /\ w' = w1.setCells g 0 vs := by
 obtain ⟨i0, hi0, hz0, hz1, hz2⟩ := info_parts info_lb
 have hix := idx1_hit (some ⟨g, 0, none⟩) c bx x w hv.rd kx
 have hc1 := hv.cap
 simp only [List.length_cons, List.length_nil] at hc1
 go_enter Tryz.func201, Tryz.ntmps201
 go_wp2_with fail
 refine hix.mono ?_
 rintro e w1 ⟨rfl, hb1⟩
 have hv1 := hv.ext hb1
 obtain ⟨cur, hkc, hcs, hlc, _⟩ := hv1.there_
 have hct1 : ∀ w, (Instr.slice 229 (.slice (some ⟨g, 0, none⟩) 1 c) (some (.int .i64 0)) none none).run Tryz.prog w = .ok (.slice (some ⟨g, 0, none⟩) 1 c) w := fun w => by
  have h := run_cut (P := Tryz.prog) (A := some ⟨g, 0, none⟩) Tryz.underlying229 hi0 hz1 (n := 1) (c := c) (k := 0) (by omega) w
  rw [cutA, if_neg (by omega)] at h
  simpa [Addr.add_lit, ELb] using h
 have hct2 : ∀ w, (Instr.sliceAt 229 (.slice (some ⟨g, 0, none⟩) 1 c) (some (.int .i64 0)) none none).run Tryz.prog w = .ok (.slice (some ⟨g, 0, none⟩) 1 c) w := fun w => by
  have h := run_cutAt (P := Tryz.prog) (A := some ⟨g, 0, none⟩) Tryz.underlying229 hi0 hz1 (n := 1) (c := c) (k := 0) (by omega) w
  rw [cutA, if_neg (by omega)] at h
  simpa [Addr.add_lit, ELb] using h
 have hct3 : ∀ w, (Instr.slice 229 (.slice (some ⟨g, 0, none⟩) 1 c) none (some (.int .i64 0)) none).run Tryz.prog w = .ok (.slice (some ⟨g, 0, none⟩) 0 c) w := fun w => by
  have h := run_take (P := Tryz.prog) (A := some ⟨g, 0, none⟩) Tryz.underlying229 hi0 (n := 1) (c := c) (k := 0) (by omega) w
  simpa using h
 have hct4 : ∀ w, (Instr.sliceAt 229 (.slice (some ⟨g, 0, none⟩) 1 c) none (some (.int .i64 0)) none).run Tryz.prog w = .ok (.slice (some ⟨g, 0, none⟩) 0 c) w := fun w => by
  have h := run_takeAt (P := Tryz.prog) (A := some ⟨g, 0, none⟩) Tryz.underlying229 hi0 (n := 1) (c := c) (k := 0) (by omega) w
  simpa using h
 have hcl := run_clear_lb (c := c) hkc (by rw [hcs]; show 4 <= c * 4; omega)
 have hfin := hv1.cutoff (a := 0) (Nat.zero_le _) [.int .i64 0, .int .i64 0, .int .i64 0, .int .i64 0] (by show 0 * 4 + 4 <= c * 4; omega)
 simp only [Nat.zero_mul, List.take_zero] at hfin
 clear hcs hkc hlc
 go_wp2
 go_loopg [5, 6] 1 (fun n i j wr => i = .int .i64 0 /\ j = .int .i64 1 /\ wr = w1)
 case atStart => exact ⟨rfl, rfl, rfl⟩
 case round =>
  obtain ⟨rfl, rfl, rfl⟩ := hrel
  go_wp2
  go_ret
  exact ⟨rfl, hfin, wr, _, hb1, rfl⟩
set_option maxRecDepth 100000 in
set_option maxHeartbeats 4000000 in
theorem lins_any (A : Option Addr) (c : Nat) (l : List Lb) (w : World) (hR : Rd ELb w A l) (hm : 1 <= l.length /\ l.length <= 12) (hs : ∀ k (h : k + 1 < l.length), ¬ lbC l[k + 1] l[k] < 0) :
 Calls Tryz.prog 308 #[.slice A l.length c, .int .i64 0, .int .i64 l.length, .func (.func 200) #[] #[]] w fun e w' => e = .returned (.tuple #[]) /\ Ext w w' := by
 have Hs := Lib.hid hs
 clear hs
 go_enter Tryz.func308, Tryz.ntmps308
 go_wp2_with fail
 go_loopg [8] l.length (fun n v wr => ∃ i : Nat, i + 1 + n = l.length + 1 /\ v = .int .i64 ((i : Int) + 1) /\ Ext w wr)
 case atStart => exact ⟨0, by omega, by go_num, Ext.refl _⟩
 case round =>
  obtain ⟨i, hik, rfl, hx⟩ := hrel
  have Hik := Lib.hid hik
  have hil : i + 1 <= l.length + 1 := by omega
  clear hik
  obtain ⟨wo, rfl⟩ : ∃ wo, wo = wr := ⟨_, rfl⟩
  by_cases hlt : i + 1 < l.length
  ·obtain ⟨b, o, e1, hb, c0, c1, c2, c3⟩ := (hR.ext hx).lb (k := i) (by omega)
   obtain ⟨b', o', e2, hb', d0, d1, d2, d3⟩ := (hR.ext hx).lb hlt
   obtain ⟨rfl, rfl⟩ : b = b' /\ o = o' := by rw [e1] at e2; injection e2 with e2; injection e2 with e3 e4; exact ⟨e3, e4⟩
   subst e1
   have Hc := Lib.hid (Hs.out i hlt)
   have ei : ((i : Int) + 1 - 1) = (i : Int) := by omega
   have en : ((i : Int) + 1).toNat = i + 1 := by omega
   generalize l[i + 1] = y at *
   generalize l[i] = x at *
   obtain ⟨v, hv⟩ : ∃ v, lbC y x = v := ⟨_, rfl⟩
   have hcQ := fun d os => lcompare_any y x (Sort.grow (redrawn wo d) os)
   simp only [hv] at hcQ
   rw [hv] at Hc
   have dv : decide (v < 0) = false := decide_eq_false (by have := Hc.out; omega)
   have di : decide (0 < (i : Int) + 1) = true := decide_eq_true (by omega)
   clear hv
   obtain ⟨gko, rfl⟩ : ∃ g, g = gk := ⟨_, rfl⟩
   go_wp2_with fail
   go_loopg [9] 1 (fun n v wr => v = .int .i64 ((i : Int) + 1) /\ wr = wo)
   case atStart => exact ⟨rfl, rfl⟩
   case round =>
    obtain ⟨rfl, rfl⟩ := hrel
    have hN := Near.refl wr
    have hC := hN.2
    go_wp2_with fail
    have hq := quiet_near hN
    refine wp_region_quiet_below (by kernel_rfl) (by kernel_rfl) ?_
    repeat (first | go_big_quiet_skip | (go_big_quiet_want; go_big_quiet_op; first | go_big_quiet_on | (apply Exists.intro; refine ⟨fun _ => ?_, ?_⟩; (focus (first | (go_at_call 200; with_reducible exact Calls.regrown_of (hcQ _ _)))); go_big_quiet_on)))
    refine wpQuiet_nil ?_
    intro w1 hw1
    clear hq
    replace hw1 := quiet_ext hw1
    replace hN := hN.step hw1
    have hC := hN.2
    go_wp2
    go_roundg (gko - 1)
    case measure => have := Hik.out; omega
    case rel => exact ⟨i + 1, by have := Hik.out; omega, by go_num, hx.trans hN.1⟩
  ·go_wp2
   go_end0
   exact ⟨rfl, hx⟩
set_option maxRecDepth 100000 in
set_option maxHeartbeats 4000000 in
theorem lsort_any (A : Option Addr) (c : Nat) (l : List Lb) (w : World) (hR : Rd ELb w A l) (hm : 1 <= l.length /\ l.length <= 12) (hs : ∀ k (h : k + 1 < l.length), ¬ lbC l[k + 1] l[k] < 0) :
 Calls Tryz.prog 206 #[.slice A l.length c, .func (.func 200) #[] #[]] w fun e w' => e = .returned (.tuple #[]) /\ Ext w w' := by
 have hlen := fun w => len_any (l.length : Int) w (by omega) (by omega)
 have hmx : (l.length : Int) <= 12 := by omega
 have hpdq : ∀ (k : Int) w, Rd ELb w A l -> Calls Tryz.prog 268 #[.slice A l.length c, .int .i64 0, .int .i64 l.length, .int .i64 k, .func (.func 200) #[] #[]] w fun e w' => e = .returned (.tuple #[]) /\ Ext w w' := fun k w hR => by
  have hins := lins_any A c l w hR hm hs
  have hd : decide ((l.length : Int) <= 12) = true := decide_eq_true hmx
  clear hlen hs
  go_enter Tryz.func268, Tryz.ntmps268
  go_wp2_with fail
  go_loopg [1, 2] 0 (fun q a b wr => a = .int .i64 0 /\ b = .int .i64 l.length /\ wr = w)
  case atStart => exact ⟨rfl, rfl, rfl⟩
  case round =>
   obtain ⟨rfl, rfl, rfl⟩ := hrel
   go_wp2_with fail
   refine hins.mono ?_
   rintro e w1 ⟨rfl, h1⟩
   go_wp2_with fail
   refine bodyPost_ret (results_none rfl _ _ _) rfl ?_
   exact ⟨rfl, h1⟩
 clear hs
 go_enter Tryz.func206, Tryz.ntmps206
 go_wp2_with fail
 refine (hlen _).mono ?_
 rintro e w1 ⟨⟨k, rfl⟩, rfl⟩
 go_wp2_with fail
 refine (hpdq k _ hR).mono ?_
 rintro e w2 ⟨rfl, h1⟩
 go_wp2_with fail
 go_end0
 exact ⟨rfl, h1⟩
end
section
open Go.RowKit Go.Shelf
attribute [local go_sem] Oper.semAt_some
structure LbCh (p : Pln) (q : Req) (L : List Lb) (f : Nat -> Nat × Con) : Prop where
 len : 1 <= L.length /\ L.length <= 12
 fst : ∀ (h : 0 < L.length), L[0] = ⟨q.src, 0, 1099511627776, q.ready⟩
 src : 0 <= q.src /\ q.src < p.quo.length /\ p.quo.length <= 16
 rdy : 0 <= q.ready /\ q.ready < 1099511627776
 mv : ∀ k (h : k < L.length), MvD p q L[k] (f k).1 (f k).2
 next : ∀ k (h : k + 1 < L.length), (f k).2.dst ≠ q.dst /\ L[k + 1] = mvL q L[k] (f k).2 /\ ∀ j (hj : j < L.length), j <= k -> lbSame L[k + 1] L[j] = false
 last : ∀ k, k + 1 = L.length -> (f k).2.dst = q.dst
 ord : ∀ k (h : k + 1 < L.length), ¬ lbC L[k + 1] L[k] < 0
section
variable {p : Pln} {q : Req} {L : List Lb} {f : Nat -> Nat × Con} {AT : Int}
end
end
section
open Go.RowKit Go.Shelf
end
section
open Go.RowKit Go.Shelf
end
section
open Go.RowKit Go.Shelf
structure PlnIn (w : World) (Aq : Option Addr) (cq : Nat) (Ac : Option Addr) (cc : Nat) (p : Pln) : Prop where
 q : Rd EInt w Aq p.quo
 c : Rd ECon w Ac p.cons
 qc : p.quo.length <= cq
 ck : p.cons.length <= cc
 qm : cq <= maxLen
 cm : cc <= maxLen
theorem PlnIn.le {w : World} {Aq : Option Addr} {cq : Nat} {Ac : Option Addr} {cc : Nat} {p : Pln} (h : PlnIn w Aq cq Ac cc p) : p.quo.length <= 9223372036854775807 /\ p.cons.length <= 9223372036854775807 := by
 have h1 := h.qc
 have h2 := h.ck
 have h3 := h.qm
 have h4 := h.cm
 unfold maxLen at h3 h4
 omega
def Pln.gr27 (p : Pln) : Bool := decide (6 < p.quo.length ∨ 10 < p.cons.length)
theorem greatP_any (Aq : Option Addr) (cq : Nat) (Ac : Option Addr) (cc : Nat) (p : Pln) (w : World) (hq : p.quo.length <= 9223372036854775807) (hcn : p.cons.length <= 9223372036854775807) :
 Calls Tryz.prog 25 #[p.val Aq cq Ac cc] w fun e w' => e = .returned (.bool p.gr27) /\ Ext w w' := by
 obtain ⟨W, hW, hB, hk, hlt⟩ := box1 w #[.slice Aq p.quo.length cq, .slice Ac p.cons.length cc] 68
 have hc := hk.cell
 have hl0 := hk.lt
 unfold Pln.val
 go_enter Tryz.func25, Tryz.ntmps25
 go_wp2
 all_goals go_ret
 all_goals refine ⟨ret_bool ?_, hB⟩
 all_goals clear hc hk hW hB hlt hl0
 all_goals rw [Bool.eq_iff_iff]
 all_goals simp_all [Pln.gr27]
 all_goals omega
end
end Go.Proofs.YtemkpimngbbpkaaGreat
