/- TopMirror, the example: storage where there are no holds. · TopMirror, the example: the ledger without tickets. · TopMirror, the example: free intervals, of storage where there are no holds. · TopMirror, the example: the search's graph. · TopMirror, the example: the search's small functions. · TopMirror, the example: the search's graph is built. · TopMirror, the example: the moves of a label. · TopMirror, the example: arrival. · TopMirror, the example: which label a move comes from. · TopMirror, the example: lists of labels. · TopMirror, the example: DeleteFunc and SortFunc on labels. · TopMirror, the example: Earliest (the labels' contract as a hypothesis). · TopMirror, the example: the labels, what a round keeps. -/
import Derived.Maps.OwnOps
import Derived.Laws.EntriesVeiled
import Derived.BigQuiet
import Derived.Laws.ResultCell
import Derived.Deep.RegionHeld3
import Derived.Deep.AppendLies
import Derived.RangeFuncNested
import Derived.RangeFuncOwn
import Derived.Deep.LoopGhost
import Derived.Test.YtemkpimngbbpkaaGreatQs01
import Derived.Test.YtemkpimngbbpkaaGreatQs05
import Derived.Test.YtemkpimngbbpkaaGreatQs06
import Derived.Test.YtemkpimngbbpkaaGreatQs09
import Derived.Test.YtemkpimngbbpkaaGreatQs10
import Derived.Test.YtemkpimngbbpkaaGreatQs16
import Derived.Test.YtemkpimngbbpkaaGreatQs21
import Derived.Test.YtemkpimngbbpkaaGreatQs22
namespace Go.Proofs.YtemkpimngbbpkaaGreat
set_option linter.unusedVariables false
set_option linter.unusedSimpArgs false
section
open Go.RowKit Go.Shelf Go.Maps
set_option maxRecDepth 100000 in
set_option maxHeartbeats 4000000 in
theorem isort_nilM (w : World) : Calls Tryz.prog 273 #[.slice none 0 0, .int .i64 0, .int .i64 0] w fun e w' => e = .returned (.tuple #[]) /\ Ext w w' := by
 go_enter Tryz.func273, Tryz.ntmps273
 go_wp2_with fail
 go_loopg [6] 1 (fun q k wr => k = .int .i64 1 /\ wr = w)
 case atStart => exact ⟨rfl, rfl⟩
 case round =>
  obtain ⟨rfl, rfl⟩ := hrel
  go_wp2_with fail
  go_end0
  exact ⟨rfl, Ext.refl _⟩
set_option maxRecDepth 100000 in
set_option maxHeartbeats 4000000 in
theorem sort_nilM (w : World) : Calls Tryz.prog 136 #[.slice none 0 0] w fun e w' => e = .returned (.tuple #[]) /\ Ext w w' := by
 have hlen := fun w => len_any 0 w (by omega) (by omega)
 have hins := isort_nilM
 have hpdq : ∀ (k : Int) w, Calls Tryz.prog 213 #[.slice none 0 0, .int .i64 0, .int .i64 0, .int .i64 k] w fun e w' => e = .returned (.tuple #[]) /\ Ext w w' := fun k w => by
  clear hlen
  go_enter Tryz.func213, Tryz.ntmps213
  go_wp2_with fail
  go_loopg [1, 2] 0 (fun q a b wr => a = .int .i64 0 /\ b = .int .i64 0 /\ wr = w)
  case atStart => exact ⟨rfl, rfl, rfl⟩
  case round =>
   obtain ⟨rfl, rfl, rfl⟩ := hrel
   go_wp2_with fail
   refine (hins _).mono ?_
   rintro e w1 ⟨rfl, h1⟩
   go_wp2_with fail
   refine bodyPost_ret (results_none rfl _ _ _) rfl ?_
   exact ⟨rfl, h1⟩
 clear hins
 go_enter Tryz.func136, Tryz.ntmps136
 go_wp2_with fail
 refine (hlen _).mono ?_
 rintro e w1 ⟨⟨k, rfl⟩, rfl⟩
 go_wp2_with fail
 refine (hpdq k _).mono ?_
 rintro e w2 ⟨rfl, h1⟩
 go_wp2_with fail
 go_end0
 exact ⟨rfl, h1⟩
set_option maxRecDepth 100000 in
set_option maxHeartbeats 4000000 in
theorem most_nilM (w : World) : Calls Tryz.prog 241 #[.slice none 0 0] w fun e w' => e = .returned (.int .i64 0) /\ Ext w w' := by
 go_enter Tryz.func241, Tryz.ntmps241
 go_wp2
 go_loopg [3, 8] 0 (fun q a k wr => a = .int .i64 0 /\ k = .int .i64 0 /\ wr = w)
 case atStart => exact ⟨rfl, rfl, rfl⟩
 case round =>
  obtain ⟨rfl, rfl, rfl⟩ := hrel
  go_wp2
  go_ret
  exact ⟨rfl, Ext.refl _⟩
set_option maxRecDepth 100000 in
set_option maxHeartbeats 4000000 in
theorem levels_nilM (n : Int) (w : World) : Calls Tryz.prog 242 #[.slice none 0 0, .int .i64 n] w fun e w' => e = .returned (.slice none 0 0) /\ Ext w w' := by
 have hmm := @run_makeMap Tryz.prog
 have hso := sort_nilM
 obtain ⟨W0, hW0, hB0⟩ : ∃ W0, w.alloc (.map #[] 0) = W0 /\ Ext w W0 := ⟨_, rfl, (Ext.refl _).alloc _⟩
 obtain ⟨W1, hW1, hB1, hk1, hl1⟩ := box1 W0 #[.map (some w.heap.size)] 412
 obtain ⟨W2, hW2, hB2, hk2, hl2⟩ := box1 W1 #[.slice none 0 0] 30
 have hE := (hB0.trans hB1).trans hB2
 have c2 := hk2.cell
 go_enter Tryz.func242, Tryz.ntmps242
 go_wp2_with fail
 go_loopg [18] 0 (fun q k wr => k = .int .i64 0 /\ wr = W2)
 case atStart => exact ⟨rfl, rfl⟩
 case round =>
  obtain ⟨rfl, rfl⟩ := hrel
  go_wp2_with fail
  refine (hso _).mono ?_
  rintro e w3 ⟨rfl, hb3⟩
  have c3 := (hk2.ext hb3).cell
  go_wp2_with fail
  go_loopg [10, 44] 0 (fun q a k wr => a = .slice none 0 0 /\ k = .int .i64 0 /\ wr = w3)
  case atStart => exact ⟨rfl, rfl, rfl⟩
  case round =>
   obtain ⟨rfl, rfl, rfl⟩ := hrel
   go_wp2_with fail
   go_ret
   exact ⟨rfl, hE.trans hb3⟩
set_option maxRecDepth 100000 in
set_option maxHeartbeats 4000000 in
theorem sCheck_nilM (Aq : Option Addr) (cq : Nat) (Ac : Option Addr) (cc : Nat) (p : Pln) (w : World) (h : PlnRd w Aq cq Ac cc p) (h0 : p.chk = 0) :
 Calls Tryz.prog 160 #[p.val Aq cq Ac cc, .slice none 0 0] w fun e w' => e = .returned (.int .i64 0) /\ Ext w w' := by
 obtain ⟨W, hW, hB, hk, hlt⟩ := box1 w #[.slice Aq p.quo.length cq, .slice Ac p.cons.length cc] 68
 have hc := hk.cell
 have hpc := pcheck_any Aq cq Ac cc p W (h.ext hB)
 have hrd := h.ext hB
 have hlv := levels_nilM
 have hmo := most_nilM
 have hqm := h.qm
 have hq0 : ∀ x ∈ p.quo, 0 <= x := fun x hx => by
  unfold Pln.chk at h0
  split at h0
  ·cases h0
  ·split at h0
   ·cases h0
   ·rename_i h2
    simp only [List.any_eq_true, not_exists, not_and, quoB] at h2
    have := h2 x hx
    simp only [Bool.or_eq_true, decide_eq_true_eq] at this
    omega
 have Hq0 := Lib.hid hq0
 clear hq0
 rw [h0] at hpc
 clear h0
 unfold Pln.val at hpc ⊢
 go_enter Tryz.func160, Tryz.ntmps160
 go_wp2_with fail
 clear hW
 refine hpc.mono ?_
 clear hpc
 rintro e w1 ⟨rfl, hb1⟩
 have hE1 := hB.trans hb1
 have hrd1 := hrd.ext hb1
 have c1 := (hk.ext hb1).cell
 have l1 := (hk.ext hb1).lt
 go_wp2_with fail
 go_loopg [17] 0 (fun q k wr => k = .int .i64 0 /\ Ext w1 wr)
 case atStart => exact ⟨rfl, Ext.refl _⟩
 case round =>
  obtain ⟨rfl, hx0⟩ := hrel
  obtain ⟨wo, rfl⟩ : ∃ wo, wo = wr := ⟨_, rfl⟩
  obtain ⟨gko, rfl⟩ : ∃ g, g = gk := ⟨_, rfl⟩
  have hE2 := hE1.trans hx0
  have hrd2 := hrd1.ext hx0
  have c2 := ((hk.ext hb1).ext hx0).cell
  have l2 := ((hk.ext hb1).ext hx0).lt
  clear c1 l1
  go_wp2_with fail
  go_loopg [42] p.quo.length (fun n k wr => ∃ j : Nat, j + n = p.quo.length /\ k = .int .i64 j /\ Ext wo wr)
  case atStart => exact ⟨0, by omega, rfl, Ext.refl _⟩
  case round =>
   obtain ⟨j, hjq, rfl, hx⟩ := hrel
   have Hjq := Lib.hid hjq
   have hjN : j <= p.quo.length := by omega
   clear hjq
   by_cases hlt2 : j < p.quo.length
   ·obtain ⟨b1, o1, rfl, hb1', g1⟩ := (hrd2.q.ext hx).int hlt2
    have hx0 := Hq0.out _ (List.getElem_mem hlt2)
    generalize hxe : p.quo[j] = x at *
    clear hxe
    go_wp2_with fail
    refine (hlv _ _).mono ?_
    rintro e w4 ⟨rfl, hb4⟩
    go_wp2_with fail
    refine (hmo _).mono ?_
    rintro e w5 ⟨rfl, hb5⟩
    have hd : decide (x < 0) = false := decide_eq_false (by omega)
    go_wp2
    go_roundg (gk - 1)
    case measure => have := Hjq.out; omega
    case rel => exact ⟨j + 1, by have := Hjq.out; omega, rfl, (hx.trans hb4).trans hb5⟩
   ·go_wp2
    go_ret
    exact ⟨rfl, hE2.trans hx⟩
set_option maxRecDepth 100000 in
set_option maxHeartbeats 4000000 in
theorem tables_nilM (Aq : Option Addr) (cq : Nat) (Ac : Option Addr) (cc : Nat) (p : Pln) (w : World) (h : PlnRd w Aq cq Ac cc p) (h0 : p.chk = 0) :
 Calls Tryz.prog 78 #[.agg #[.slice Aq p.quo.length cq, .slice Ac p.cons.length cc, .slice none 0 0, .slice none 0 0]] w fun e w' => e = .returned (.int .i64 0) /\ Ext w w' := by
 obtain ⟨W, hW, hB, hk, hlt⟩ := box1 w #[.slice Aq p.quo.length cq, .slice Ac p.cons.length cc, .slice none 0 0, .slice none 0 0] 83
 have hc := hk.cell
 have hpc := pcheck_any Aq cq Ac cc p W (h.ext hB)
 have hrd := h.ext hB
 have hbc := fun w h => bCheck_any Aq cq Ac cc p none 0 [] w h (Rd.nil) (by simp)
 have hsc := fun w h => sCheck_nilM Aq cq Ac cc p w h h0
 rw [h0] at hpc
 have hb0 : p.bkChk [] = 0 := by unfold Pln.bkChk; rw [if_pos h0]; rfl
 rw [hb0] at hbc
 clear h0 hb0
 unfold Pln.val at hpc hbc hsc
 simp only [List.length_nil] at hbc
 go_enter Tryz.func78, Tryz.ntmps78
 go_wp2_with fail
 clear hW
 refine hpc.mono ?_
 clear hpc
 rintro e w1 ⟨rfl, hb1⟩
 have c1 := (hk.ext hb1).cell
 have l1 := (hk.ext hb1).lt
 go_wp2_with fail
 refine (hbc _ (hrd.ext hb1)).mono ?_
 rintro e w2 ⟨rfl, hb2⟩
 have c2 := ((hk.ext hb1).ext hb2).cell
 have l2 := ((hk.ext hb1).ext hb2).lt
 go_wp2_with fail
 refine (hsc _ ((hrd.ext hb1).ext hb2)).mono ?_
 rintro e w3 ⟨rfl, hb3⟩
 go_wp2
 go_ret
 exact ⟨rfl, ((hB.trans hb1).trans hb2).trans hb3⟩
end
section
open Go.RowKit Go.Shelf
attribute [local go_sem] Oper.semAt_some
end
section
open Go.RowKit Go.Shelf
attribute [local go_sem] Oper.semAt_some
set_option maxRecDepth 100000 in
set_option maxHeartbeats 4000000 in
theorem sEnd_any (T : Int) (ga go base : Nat) (w : World) (hb : base <= w.heap.size) (ka : Blk w ga 3 #[.int .i64 0]) (ko : Blk w go 188 #[.slice none 0 0]) (hga : ga < base) (hgo : go < base) (hne : ga ≠ go) (hT : 0 < T) :
 Calls Tryz.prog 261 #[.int .i64 T, .pointer (some ⟨ga, 0, none⟩), .pointer (some ⟨go, 0, none⟩)] w fun e w' => (∃ r, e = .returned r) /\ ∃ u, Owns ESpn w' base 190 u [⟨0, T⟩] /\ Blk w' go 188 #[u] /\ KpY base ga go w w' := by
 obtain ⟨i0, hi0, hz0, hz1, hz2⟩ := info_parts info_spn
 have c1 := ka.cell
 have c2 := ka.lt
 have c3 := ko.cell
 have c4 := ko.lt
 have dT : decide (0 < T) = true := decide_eq_true hT
 clear hT
 go_enter Tryz.func261, Tryz.ntmps261
 go_wp2_with (at_builtin; refine wpList_push rfl (.tmp 11) (.tmp 15) _ (by rfl) base 190 i0 _ 16 Tryz.underlying188 hi0 hz0 hz1 hz2 (by rfl) (.slice none 0 0) (by rfl) (Owns.none_ (E := ESpn) base 190) w.heap.size (⟨0, T⟩ : Spn) (by rfl) (Blk.new w _ _) (by simp [maxLen]) (by simp) (by simp; omega) ?_; intro v6 w6 hv6 hg6 hat6; have hK6 : KpX base go w w6 := KpX.trans (KpX.of_ext hb ((Ext.refl w).alloc _)) (KpX.grown (by simp; omega) hg6 (fun r e => by cases e)); have ko6 := Blk.kept (ko.ext ((Ext.refl _).alloc _)) hg6 (fun e' => by cases e'); have ka6 := Blk.kept (ka.ext ((Ext.refl _).alloc _)) hg6 (fun e' => by cases e'); have x1 := ko6.lt; have x2 := ko6.frozen; have x3 := ka6.lt; have x4 := ka6.frozen; have x5 := ko6.cell; have x6 := ka6.cell; obtain ⟨A6, d6, rfl, hR6⟩ := hv6.form; simp only [List.length_append, List.length_cons, List.length_nil, Nat.zero_add] at hv6 ⊢)
 go_end0
 refine ⟨⟨_, rfl⟩, .slice A6 1 d6, ?_, ?_, ?_⟩
 ·exact (hv6.kept (grown_setCell (World.grownBy.refl w6 (some go)) 0 _) (fun g hg e => by injection e with e; have := (hv6.block hg).1; omega)).kept (grown_setCell (World.grownBy.refl _ (some ga)) 0 _) (fun g hg e => by injection e with e; have := (hv6.block hg).1; omega)
 ·exact (ko6.set0 _).far (p := ⟨ga, 0, none⟩) (fun e => hne e.symm) _
 ·exact (((KpY.refl base ga go w).kpx hK6).setB 0 _).setA 0 _
set_option maxRecDepth 100000 in
set_option maxHeartbeats 4000000 in
theorem sAt_any (gp gn gs ge ga : Nat) (Aq : Option Addr) (cq : Nat) (Ac : Option Addr) (cc : Nat) (p : Pln) (n size : Int) (w : World) (h : PlnRd w Aq cq Ac cc p) (kp : Blk w gp 68 #[.slice Aq p.quo.length cq, .slice Ac p.cons.length cc]) (kn : Blk w gn 3 #[.int .i64 n]) (ks : Blk w gs 3 #[.int .i64 size]) (ka : Blk w ga 3 #[.int .i64 (-1)])
 (hn : 0 <= n /\ n < p.quo.length) (hq : 0 <= size /\ size <= gi p.quo n /\ gi p.quo n <= 1099511627776) :
 Calls Tryz.prog 262 #[.int .i64 0, .int .i64 0, .pointer (some ⟨gp, 0, none⟩), .pointer (some ⟨gn, 0, none⟩), .pointer (some ⟨gs, 0, none⟩), .pointer (some ⟨ge, 0, none⟩), .pointer (some ⟨ga, 0, none⟩)] w fun e w' => (∃ r, e = .returned r) /\ Blk w' ga 3 #[.int .i64 0] /\ KpX w.heap.size ga w w' := by
 obtain ⟨b, o, rfl, hb0, _⟩ := h.q.int (k := 0) (by omega)
 obtain ⟨hc, hb⟩ := h.q.gi (i := n) (by omega)
 have c1 := kp.cell
 have c2 := kn.cell
 have c3 := ks.cell
 have c4 := ka.cell
 have l1 := kp.lt
 have l2 := kn.lt
 have l3 := ks.lt
 have l4 := ka.lt
 have hqm := h.qm
 have dq : decide (gi p.quo n < size) = false := decide_eq_false (by omega)
 have hN := Near.refl w
 generalize gi p.quo n = x at *
 go_enter Tryz.func262, Tryz.ntmps262
 go_wp2_with fail
 have hq := quiet_near hN
 refine wp_region_quiet_below (by kernel_rfl) (by kernel_rfl) ?_
 repeat (first | go_big_quiet_skip | (go_big_quiet_want; go_big_quiet_op; first | go_big_quiet_on | (apply Exists.intro; refine ⟨fun _ => ?_, ?_⟩; (focus (first | fail)); go_big_quiet_on)))
 refine wpQuiet_nil ?_
 intro w1 hw1
 clear hq
 replace hw1 := quiet_ext hw1
 replace hN := hN.step hw1
 have hC := hN.2
 have ka2 := ka.ext hN.1
 have y1 := ka2.lt
 have y2 := ka2.frozen
 have y3 := ka2.cell
 go_wp2
 go_end0
 exact ⟨⟨_, rfl⟩, ka2.set0 _, (KpX.of_ext (Nat.le_refl _) hN.1).trans (KpX.setCell _ _ _)⟩
set_option maxRecDepth 100000 in
set_option maxHeartbeats 8000000 in
theorem sFree_nil (Aq : Option Addr) (cq : Nat) (Ac : Option Addr) (cc : Nat) (p : Pln) (n size : Int) (w : World) (h : PlnRd w Aq cq Ac cc p) (h0 : p.chk = 0) (hn : 0 <= n /\ n < p.quo.length) (hs : 1 <= size /\ size <= 65536) (hq : size <= gi p.quo n /\ gi p.quo n <= 1099511627776) :
 Calls Tryz.prog 197 #[p.val Aq cq Ac cc, .slice none 0 0, .int .i64 n, .int .i64 size] w fun e w' => ∃ u, e = .returned (.tuple #[u, .int .i64 0]) /\ Owns ESpn w' w.heap.size 190 u [⟨0, 1099511627776⟩] /\ Ext w w' := by
 obtain ⟨W1, hW1, hB1, hk1, hlt1⟩ := box1 w #[.slice Aq p.quo.length cq, .slice Ac p.cons.length cc] 68
 obtain ⟨W2, hW2, hB2, hk2, hlt2⟩ := box1 W1 #[.int .i64 n] 3
 obtain ⟨W3, hW3, hB3, hk3, hlt3⟩ := box1 W2 #[.int .i64 size] 3
 have hE3 := (hB1.trans hB2).trans hB3
 have k1 := (hk1.ext hB2).ext hB3
 have k2 := hk2.ext hB3
 have hsc := sCheck_nilM Aq cq Ac cc p W3 (h.ext hE3) h0
 have hlv := levels_nilM n
 have c1 := k1.cell
 have hqm := h.qm
 have d1 : decide (n < 0) = false := decide_eq_false (by omega)
 have d2 : decide ((p.quo.length : Int) <= n) = false := decide_eq_false (by omega)
 have d3 : decide (size < 1) = false := decide_eq_false (by omega)
 have d4 : decide (65536 < size) = false := decide_eq_false (by omega)
 unfold Pln.val at hsc ⊢
 go_enter Tryz.func197, Tryz.ntmps197
 go_wp2_with fail
 clear hW1 hW2 hW3
 refine hsc.mono ?_
 clear hsc
 rintro e w4 ⟨rfl, hb4⟩
 have k14 := k1.ext hb4
 have k24 := k2.ext hb4
 have k34 := hk3.ext hb4
 have y1 := k14.cell
 have y2 := k24.cell
 have y3 := k34.cell
 have y4 := k14.lt
 have y5 := k24.lt
 have y6 := k34.lt
 obtain ⟨W5, hW5, hB5, hk5, hlt5⟩ := box1 w4 #[.slice none 0 0] 188
 obtain ⟨W6, hW6, hB6, hk6, hlt6⟩ := box1 W5 #[.int .i64 (-1)] 3
 obtain ⟨W7, hW7, hB7, hk7, hlt7⟩ := box1 W6 #[.func (.func 261) #[] #[.pointer (some ⟨W5.heap.size, 0, none⟩), .pointer (some ⟨w4.heap.size, 0, none⟩)]] 380
 have hE7 := (hB5.trans hB6).trans hB7
 have hE47 := (hE3.trans hb4).trans hE7
 have hat := sAt_any w.heap.size W1.heap.size W2.heap.size W6.heap.size W5.heap.size Aq cq Ac cc p n size W7 (h.ext hE47) (k14.ext hE7) (k24.ext hE7) (k34.ext hE7) (hk6.ext hB7) hn ⟨by omega, hq⟩
 go_wp2_with fail
 clear hW5 hW6 hW7 c1 y1 y2 y3 y4 y5 y6
 refine hat.mono ?_
 clear hat
 rintro e w8 ⟨⟨r, rfl⟩, ka8, hK8⟩
 have k28 := hK8.blk (k24.ext hE7) (by have := (k24.ext hE7).lt; omega) (by have := k24.lt; have := hB5.size; omega)
 have ko8 := hK8.blk ((hk5.ext hB6).ext hB7) (by have := ((hk5.ext hB6).ext hB7).lt; omega) (by omega)
 have ke8 := hK8.blk hk7 (by omega) (by omega)
 have hs8 := hK8.size
 have z1 := k28.cell
 have z2 := k28.lt
 go_wp2_with fail
 clear z1 z2
 refine (hlv _).mono ?_
 rintro e w9 ⟨rfl, hb9⟩
 have hs9 := hb9.size
 have ke9 := ke8.ext hb9
 have ko9 := ko8.ext hb9
 have z1 := ke9.cell
 have z2 := ke9.lt
 have hen := sEnd_any 1099511627776 W5.heap.size w4.heap.size w9.heap.size w9 (Nat.le_refl _) (ka8.ext hb9) ko9 (by have := (ka8.ext hb9).lt; omega) ko9.lt (by omega) (by omega)
 go_wp2_with fail
 go_loopg [45] 0 (fun q k wr => k = .int .i64 0 /\ wr = w9)
 case atStart => exact ⟨rfl, rfl⟩
 case round =>
  obtain ⟨rfl, rfl⟩ := hrel
  go_wp2_with fail
  refine hen.mono ?_
  clear hen
  rintro e w10 ⟨⟨r, rfl⟩, u, hu, ko10, hK10⟩
  have x1 := ko10.cell
  have x2 := ko10.lt
  go_wp2_with fail
  go_ret2
  have hsz4 : w.heap.size <= w4.heap.size := by have := hE3.size; have := hb4.size; omega
  have hsz7 := hE7.size
  have hExt : Ext w wr := (hK8.ext hE47 (by omega) (by omega)).trans hb9
  exact ⟨_, rfl, hu.mono hExt.size, hK10.out hExt hExt.size (by omega) (by omega)⟩
set_option maxRecDepth 100000 in
set_option maxHeartbeats 8000000 in
theorem bFree_nil (Aq : Option Addr) (cq : Nat) (Ac : Option Addr) (cc : Nat) (p : Pln) (i : Int) (w : World) (h : PlnRd w Aq cq Ac cc p) (h0 : p.chk = 0) (hi : 0 <= i /\ i < p.cons.length) (hse : (gc p.cons i).st < (gc p.cons i).en) :
 Calls Tryz.prog 195 #[p.val Aq cq Ac cc, .slice none 0 0, .int .i64 i] w fun e w' => ∃ u, e = .returned (.tuple #[u, .int .i64 0]) /\ Owns ESpn w' w.heap.size 190 u [⟨(gc p.cons i).st, (gc p.cons i).en⟩] /\ Ext w w' := by
 obtain ⟨W1, hW1, hB1, hk1, hlt1⟩ := box1 w #[.slice Aq p.quo.length cq, .slice Ac p.cons.length cc] 68
 have hbc := bcheck_any Aq cq Ac cc p none 0 [] i W1 (h.ext hB1) Rd.nil (by simp)
 have hb0 : p.bkE [] i = 0 := by
  unfold Pln.bkE
  rw [if_pos (by unfold Pln.bkChk; rw [if_pos h0]; rfl), if_neg (by omega)]
 rw [hb0] at hbc
 have hfr := fun w h => free_any Aq cq Ac cc p none 0 [] i (gc p.cons i).st w h Rd.nil (by simp) hi
 have hfl : freeL (gc p.cons i) [] i (gc p.cons i).st = [⟨(gc p.cons i).st, (gc p.cons i).en⟩] := by
  show addS (max (gc p.cons i).st (gc p.cons i).st) (gc p.cons i).en [] = _
  rw [Int.max_self]
  unfold addS
  rw [if_pos hse]
  rfl
 rw [hfl] at hfr
 obtain ⟨b, o, rfl, hb, j0, j1, j2, j3, j4, j5, j6⟩ := ((h.c).ext hB1).con (show i.toNat < p.cons.length by omega)
 have Hgc := Lib.hid (gc_get (show i.toNat < p.cons.length by omega))
 rw [Hgc.out] at hfr ⊢
 generalize p.cons[i.toNat] = c at *
 have c1 := hk1.cell
 have hcm := h.cm
 have hrd := h.ext hB1
 clear h0 hb0 hfl hse
 simp only [List.length_nil] at hbc hfr
 unfold Pln.val at hbc hfr ⊢
 go_enter Tryz.func195, Tryz.ntmps195
 go_wp2_with fail
 clear hW1
 refine hbc.mono ?_
 clear hbc
 rintro e w4 ⟨rfl, hb4⟩
 have k4 := hk1.ext hb4
 have y1 := k4.cell
 have y2 := k4.lt
 have y3 := hb4.cell_some j2
 have y4 := Nat.lt_of_lt_of_le hb hb4.size
 have hN := Near.refl w4
 have hrd4 := hrd.ext hb4
 have hE4 := hB1.trans hb4
 have hs4 := hE4.size
 go_wp2_with fail
 go_cut [6, 7] from 9 to 25 (fun u z wx => z = .int .i64 0 /\ Owns ESpn wx w.heap.size 190 u [⟨c.st, c.en⟩] /\ Ext w4 wx)
 case first =>
  go_region_held3 (fun w' => Ext w4 w' /\ ∀ b o, b < w4.heap.size -> w'.cell? ⟨b, o, none⟩ = w4.cell? ⟨b, o, none⟩) (first | exact hN.drew | exact Near.step (by assumption) hb9 | assumption)
   (first | (go_at_call 258; refine (hfr _ (hrd4.ext (And.left (by assumption)))).mono ?_; rintro e w9 ⟨u, rfl, hu9, hb9⟩; have hx9 : Ext w4 w9 := Ext.trans (And.left (by assumption)) hb9; replace hu9 := hu9.mono (Nat.le_trans hs4 (Ext.size (And.left (by assumption))))))
  all_goals
   try go_wp2_with fail
   go_meet
   exact ⟨rfl, hu9, hx9⟩
 case rest =>
  obtain ⟨rfl, hu, hx⟩ := hcut
  go_wp2
  go_ret2
  exact ⟨_, rfl, hu, hE4.trans hx⟩
end
section
open Go.RowKit Go.Shelf
attribute [local go_sem] Oper.semAt_some
structure Sl where
 a : Option Addr
 n : Nat
 c : Nat
def ESl : Elt Sl := ⟨fun s => [.slice s.a s.n s.c], 1, fun _ => rfl, by omega, fun x u hu => by simp at hu; subst hu; rfl⟩
theorem Rd.sl {w : World} {A : Option Addr} {l : List Sl} (h : Rd ESl w A l) {k : Nat} (hk : k < l.length) : ∃ b o, A = some ⟨b, o, none⟩ /\ b < w.heap.size /\ w.cell? ⟨b, o + k, none⟩ = some (.slice l[k].a l[k].n l[k].c) := by
 obtain ⟨b, o, rfl, hb, hc⟩ := h.at hk
 refine ⟨b, o, rfl, hb, ?_⟩
 have := hc 0 (.slice l[k].a l[k].n l[k].c) rfl
 simpa [ESl] using this
theorem info_sl : (Tryz.prog.info? 188).map (fun i => (i.zero, i.size, i.bytes)) = some (some (.slice none 0 0), 1, 24) := by kernel_rfl
def SpsAt (w : World) (base : Nat) (L : List Sl) (f : Nat -> Spn) : Prop :=
 ∀ k (h : k < L.length), L[k].n = 1 /\ Owns ESpn w base 190 (.slice L[k].a 1 L[k].c) [f k]
theorem SpsAt.nil (w : World) (base : Nat) (f : Nat -> Spn) : SpsAt w base [] f := fun k h => absurd h (by simp)
theorem SpsAt.ext {w w' : World} {base : Nat} {L : List Sl} {f : Nat -> Spn} (h : SpsAt w base L f) (hb : Ext w w') : SpsAt w' base L f := fun k hk => ⟨(h k hk).1, (h k hk).2.ext hb⟩
theorem SpsAt.kepttZ {β : Type} {E' : Elt β} {w w' : World} {base base' : Nat} {L : List Sl} {f : Nat -> Spn} {e' : TypeId} {v' : Value} {l' : List β} (h : SpsAt w base L f) (h' : Owns E' w base' e' v' l') (hne : 190 ≠ e') (hg : w.grownBy w' v'.ownBlock) : SpsAt w' base L f :=
 fun k hk => ⟨(h k hk).1, (h k hk).2.kepttZ h' hne hg⟩
theorem SpsAt.push {w : World} {base : Nat} {L : List Sl} {f : Nat -> Spn} {a : Option Addr} {c : Nat} (h : SpsAt w base L f) (hu : Owns ESpn w base 190 (.slice a 1 c) [f L.length]) : SpsAt w base (L ++ [⟨a, 1, c⟩]) f := by
 intro k hk
 rcases Nat.lt_or_ge k L.length with h1 | h1
 ·rw [List.getElem_append_left h1]; exact h k h1
 ·obtain rfl : k = L.length := by simp at hk; omega
  simp only [List.getElem_append_right (Nat.le_refl _), Nat.sub_self, List.getElem_cons_zero]
  exact ⟨trivial, hu⟩
theorem SpsAt.setCell {w : World} {base : Nat} {L : List Sl} {f : Nat -> Spn} (h : SpsAt w base L f) {g : Nat} {t : TypeId} {cs : Array Value} (hg : Blk w g t cs) (hne : t ≠ 190) (o : Nat) (v : Value) : SpsAt (w.setCell ⟨g, o, none⟩ v) base L f := by
 intro k hk
 refine ⟨(h k hk).1, (h k hk).2.kept (grown_setCell (World.grownBy.refl w (some g)) o v) (fun b hb e => ?_)⟩
 injection e with e
 subst e
 obtain ⟨c2, f2, h2⟩ := (h k hk).2.cellsZ hb
 have h1 : w.heap[b]? = some (.cells cs t (0, 0)) := hg
 rw [h1] at h2
 injection h2 with h2
 injection h2 with _ h2 _
 exact hne h2
def gcells (Aq : Option Addr) (nq cq : Nat) (Ac : Option Addr) (nc cc : Nat) (q : Req) (g r d : Value) : Array Value :=
 #[.slice Aq nq cq, .slice Ac nc cc, .slice none 0 0, .slice none 0 0, .int .i64 q.src, .int .i64 q.dst, .int .i64 q.size, .int .i64 q.ready, .int .i64 q.dead, .int .i64 q.prio, .bool q.cust, g, r, d]
structure GAt (Aq : Option Addr) (cq : Nat) (Ac : Option Addr) (cc : Nat) (p : Pln) (q : Req) (base : Nat) (w : World) (B : Nat) : Prop where
 mk ::
 out : ∃ (Ag Ar Ad : Option Addr) (cg cr cd : Nat) (LG LR : List Sl), Blk w B 302 (gcells Aq p.quo.length cq Ac p.cons.length cc q (.slice Ag LG.length cg) (.slice Ar LR.length cr) (.slice Ad p.cons.length cd)) /\
  Rd ESl w Ag LG /\ Rd ESl w Ar LR /\ Rd EInt w Ad (p.cons.map (fun c => c.dur q.size)) /\ LG.length = p.cons.length /\ LR.length = p.quo.length /\ SpsAt w base LG (fun k => ⟨(gc p.cons k).st, (gc p.cons k).en⟩) /\ SpsAt w base LR (fun _ => ⟨0, 1099511627776⟩)
theorem GAt.ext {Aq : Option Addr} {cq : Nat} {Ac : Option Addr} {cc : Nat} {p : Pln} {q : Req} {base : Nat} {w w' : World} {B : Nat} (h : GAt Aq cq Ac cc p q base w B) (hb : Ext w w') : GAt Aq cq Ac cc p q base w' B := by
 obtain ⟨Ag, Ar, Ad, cg, cr, cd, LG, LR, h1, h2, h3, h4, h5, h6, h7, h8⟩ := h.out
 exact ⟨Ag, Ar, Ad, cg, cr, cd, LG, LR, h1.ext hb, h2.ext hb, h3.ext hb, h4.ext hb, h5, h6, h7.ext hb, h8.ext hb⟩
end
section
open Go.RowKit Go.Shelf
attribute [local go_sem] Oper.semAt_some
structure Lb where
 node : Int
 fr : Int
 til : Int
 tm : Int
def Lb.cells (b : Lb) : List Value := [.int .i64 b.node, .int .i64 b.fr, .int .i64 b.til, .int .i64 b.tm]
def Lb.val (b : Lb) : Value := .agg #[.int .i64 b.node, .int .i64 b.fr, .int .i64 b.til, .int .i64 b.tm]
def ELb : Elt Lb := ⟨Lb.cells, 4, fun _ => rfl, by omega, fun x u hu => by simp [Lb.cells] at hu; rcases hu with h | h | h | h <;> subst h <;> rfl⟩
theorem info_lb : (Tryz.prog.info? 308).map (fun i => (i.zero, i.size, i.bytes)) = some (some (.agg #[.int .i64 0, .int .i64 0, .int .i64 0, .int .i64 0]), 4, 32) := by kernel_rfl
theorem Rd.lb {w : World} {A : Option Addr} {l : List Lb} (h : Rd ELb w A l) {k : Nat} (hk : k < l.length) : ∃ b o, A = some ⟨b, o, none⟩ /\ b < w.heap.size /\
 w.cell? ⟨b, o + k * 4, none⟩ = some (.int .i64 l[k].node) /\ w.cell? ⟨b, o + k * 4 + 1, none⟩ = some (.int .i64 l[k].fr) /\ w.cell? ⟨b, o + k * 4 + 2, none⟩ = some (.int .i64 l[k].til) /\ w.cell? ⟨b, o + k * 4 + 3, none⟩ = some (.int .i64 l[k].tm) := by
 obtain ⟨b, o, rfl, hb, hc⟩ := h.at hk
 exact ⟨b, o, rfl, hb, by simpa [ELb] using hc 0 (.int .i64 l[k].node) rfl, by simpa [ELb] using hc 1 (.int .i64 l[k].fr) rfl, by simpa [ELb] using hc 2 (.int .i64 l[k].til) rfl, by simpa [ELb] using hc 3 (.int .i64 l[k].tm) rfl⟩
def lbSame (x y : Lb) : Bool := x.node == y.node && x.fr == y.fr
set_option maxRecDepth 100000 in
set_option maxHeartbeats 4000000 in
theorem same_any (x y : Lb) (w : World) : Calls Tryz.prog 203 #[x.val, y.val] w fun e w' => e = .returned (.bool (lbSame x y)) /\ Ext w w' := by
 obtain ⟨W, hW, hB, hk, hk2, hlt, hlt2⟩ := box2 w #[.int .i64 x.node, .int .i64 x.fr, .int .i64 x.til, .int .i64 x.tm] #[.int .i64 y.node, .int .i64 y.fr, .int .i64 y.til, .int .i64 y.tm] 308 308
 have c1 := hk.cell
 have c2 := hk2.cell
 unfold Lb.val lbSame
 by_cases h1 : x.node = y.node
 ·have d1 : (x.node == y.node) = true := by simpa using h1
  clear h1
  go_enter Tryz.func203, Tryz.ntmps203
  go_wp2_with fail
  go_ret
  exact ⟨by simp [d1], hB⟩
 ·have d1 : (x.node == y.node) = false := by simpa using h1
  clear h1
  go_enter Tryz.func203, Tryz.ntmps203
  go_wp2_with fail
  go_ret
  exact ⟨by simp [d1], hB⟩
set_option maxRecDepth 100000 in
set_option maxHeartbeats 4000000 in
theorem gleave_any (Aq : Option Addr) (cq : Nat) (Ac : Option Addr) (cc : Nat) (p : Pln) (q : Req) (base B : Nat) (h : Hp) (w : World) (hg : GAt Aq cq Ac cc p q base w B) (hc : q.cust = false) :
 Calls Tryz.prog 266 #[.pointer (some ⟨B, 0, none⟩), .agg #[.int .i64 h.con, .int .i64 h.beg, .int .i64 h.en, .int .i64 h.arr]] w fun e w' => e = .returned (.int .i64 h.en) /\ Ext w w' := by
 obtain ⟨W, hW, hB, hk, hlt⟩ := box1 w #[.int .i64 h.con, .int .i64 h.beg, .int .i64 h.en, .int .i64 h.arr] 94
 obtain ⟨Ag, Ar, Ad, cg, cr, cd, LG, LR, k1, _⟩ := (hg.ext hB).out
 unfold gcells at k1
 rw [hc] at k1
 have c1 := hk.cell
 have c2 := k1.cell
 have l2 := k1.lt
 go_enter Tryz.func266, Tryz.ntmps266
 go_wp2_with fail
 go_ret
 exact ⟨rfl, hB⟩
def RoomP (w : World) (e : Ending) (w' : World) : Prop := ∃ A c, e = .returned (.slice A 1 c) /\ Rd ESpn w' A [⟨0, 1099511627776⟩] /\ Ext w w'
set_option maxRecDepth 100000 in
set_option maxHeartbeats 4000000 in
theorem grooms_dest (Aq : Option Addr) (cq : Nat) (Ac : Option Addr) (cc : Nat) (p : Pln) (q : Req) (base B : Nat) (w : World) (hg : GAt Aq cq Ac cc p q base w B) :
 Calls Tryz.prog 264 #[.pointer (some ⟨B, 0, none⟩), .int .i64 q.dst] w (RoomP w) := by
 obtain ⟨Ag, Ar, Ad, cg, cr, cd, LG, LR, k1, _⟩ := hg.out
 unfold gcells at k1
 have c2 := k1.cell
 have l2 := k1.lt
 go_enter Tryz.func264, Tryz.ntmps264
 go_wp2_with fail
 go_ret
 refine ⟨_, _, rfl, rd_blk (l := [(⟨0, 1099511627776⟩ : Spn)]) (e := 190) (Blk.new _ _ _), (Ext.refl _).alloc _⟩
set_option maxRecDepth 100000 in
set_option maxHeartbeats 4000000 in
theorem grooms_node (Aq : Option Addr) (cq : Nat) (Ac : Option Addr) (cc : Nat) (p : Pln) (q : Req) (base B : Nat) (n : Int) (w : World) (hg : GAt Aq cq Ac cc p q base w B) (hn : 0 <= n /\ n < p.quo.length) (hd : n ≠ q.dst) (hq : p.quo.length <= 16) :
 Calls Tryz.prog 264 #[.pointer (some ⟨B, 0, none⟩), .int .i64 n] w (RoomP w) := by
 obtain ⟨Ag, Ar, Ad, cg, cr, cd, LG, LR, k1, h2, h3, h4, h5, h6, h7, h8⟩ := hg.out
 have hkn : n.toNat < LR.length := by omega
 obtain ⟨b, o, rfl, hb, hc⟩ := h3.sl hkn
 obtain ⟨e1, hu⟩ := h8 n.toNat hkn
 rw [e1] at hc
 rw [<- h6] at hq hn
 generalize LR[n.toNat] = x at *
 unfold gcells at k1
 have c2 := k1.cell
 have l2 := k1.lt
 have d1 : (n == q.dst) = false := by simpa using hd
 clear hd e1 h6
 go_enter Tryz.func264, Tryz.ntmps264
 go_wp2_with fail
 go_ret
 exact ⟨_, _, rfl, hu.rd, Ext.refl _⟩
set_option maxRecDepth 100000 in
set_option maxHeartbeats 8000000 in
theorem ghop_any (Aq : Option Addr) (cq : Nat) (Ac : Option Addr) (cc : Nat) (p : Pln) (q : Req) (base B : Nat) (i : Nat) (t : Int) (c : Con) (w : World) (hg : GAt Aq cq Ac cc p q base w B) (hrd : PlnRd w Aq cq Ac cc p) (hi : i < p.cons.length) (hc : p.cons[i] = c)
 (hm : max c.st t + c.dur q.size <= c.en) (hb : 0 <= c.st /\ 0 <= t /\ 0 <= c.dur q.size /\ c.en <= 1099511627776 /\ 0 <= c.rng /\ c.rng <= 1099511627776) :
 Calls Tryz.prog 265 #[.pointer (some ⟨B, 0, none⟩), .int .i64 i, .int .i64 t] w fun e w' => e = .returned (.tuple #[.agg #[.int .i64 i, .int .i64 (max c.st t), .int .i64 (max c.st t + c.dur q.size), .int .i64 (max c.st t + c.dur q.size + c.rng)], .bool true]) /\ Ext w w' := by
 obtain ⟨Ag, Ar, Ad, cg, cr, cd, LG, LR, k1, h2, h3, h4, h5, h6, h7, h8⟩ := hg.out
 obtain ⟨W1, hW1, hB1, hk1, hl1⟩ := box1 w #[.int .i64 0, .int .i64 0, .int .i64 0, .int .i64 0] 94
 have hcm := hrd.cm
 obtain ⟨bd, od, rfl, hbd, hd⟩ := (h4.ext hB1).int (k := i) (by simpa using hi)
 simp only [List.getElem_map, hc] at hd
 obtain ⟨bg, og, rfl, hbg, hgc⟩ := (h2.ext hB1).sl (k := i) (by omega)
 obtain ⟨e1, hu⟩ := h7 i (by omega)
 have Hgi := Lib.hid (show gc p.cons (i : Int) = c by rw [gc_get (i := (i : Int)) (by omega)]; simpa using hc)
 dsimp only at hu
 rw [Hgi.out] at hu
 rw [e1] at hgc
 generalize hx : LG[i] = x at *
 obtain ⟨bs, os, hxa, hbs, hs0, hs1⟩ := (hu.rd.ext hB1).spn (k := 0) (by simp)
 rw [hxa] at hgc
 simp only [List.getElem_cons_zero, Nat.zero_mul, Nat.add_zero] at hs0 hs1
 obtain ⟨bc, oc, rfl, hbc, z0, z1, z2, z3, z4, z5, z6⟩ := (hrd.c.ext hB1).con hi
 simp only [hc] at z0 z1 z2 z3 z4 z5 z6
 have hLi : (i : Int) < (LG.length : Int) := by omega
 have hLm : LG.length <= 1000000 := by omega
 have hpi : (i : Int) < (p.cons.length : Int) := by omega
 have Hh5 := Lib.hid h5
 clear h5 e1 hx hxa hu h2 h3 h4 h6 h7 h8
 unfold gcells at k1
 have k2 := k1.ext hB1
 have c2 := k2.cell
 have l2 := k2.lt
 obtain ⟨W2, hW2, hB2, hk2, hl2⟩ := box1 W1 #[.int .i64 c.st, .int .i64 c.en] 190
 obtain ⟨m, hm2⟩ : ∃ m, max c.st t = m := ⟨_, rfl⟩
 rw [hm2] at hm ⊢
 have hm0 : 0 <= m := by rw [<- hm2]; omega
 have dm : decide (m + c.dur q.size <= c.en) = true := decide_eq_true hm
 have c3 := (k2.ext hB2).cell
 have l3 := (k2.ext hB2).lt
 have y5 := hB2.cell_some z5
 have hbc2 := Nat.lt_of_lt_of_le hbc hB2.size
 have k4 := hk1.ext hB2
 have c4 := k4.cell
 have l4 := k4.lt
 have f4 := k4.frozen
 have c5 := hk2.cell
 generalize c.dur q.size = d at *
 go_enter Tryz.func265, Tryz.ntmps265
 go_wp2_with fail
 go_loopg [28] 1 (fun n k wr => k = .int .i64 0 /\ wr = W1)
 case atStart => exact ⟨rfl, rfl⟩
 case round =>
  obtain ⟨rfl, rfl⟩ := hrel
  go_wp2_with fail
  obtain ⟨w7, hw7, hz7, hE7⟩ : ∃ w7, W2.setCells w.heap.size 0 [.int .i64 i, .int .i64 m, .int .i64 (m + d), .int .i64 (m + d + c.rng)] = w7 /\ Blk w7 w.heap.size 94 #[.int .i64 i, .int .i64 m, .int .i64 (m + d), .int .i64 (m + d + c.rng)] /\ Ext w w7 :=
   ⟨_, rfl, k4.setCells_ [.int .i64 i, .int .i64 m, .int .i64 (m + d), .int .i64 (m + d + c.rng)] 0, ext_setCells (hB1.trans hB2) (Nat.le_refl _) 0 _⟩
  simp only [World.setCells, Nat.zero_add, Nat.reduceAdd] at hw7
  rw [hw7]
  have hc7 := hz7.cell
  refine bodyPost_ret (v := .tuple #[.agg #[.int .i64 i, .int .i64 m, .int .i64 (m + d), .int .i64 (m + d + c.rng)], .bool true]) (by rw [results_cell_tmp rfl]; simp [asAddr, Result.andThen, hc7, go_sem]) rfl ?_
  exact ⟨rfl, hE7⟩
end
section
open Go.RowKit Go.Shelf
attribute [local go_sem] Oper.semAt_some
theorem Owns.kpxZ {α : Type} {E : Elt α} {g : Nat} {w w' : World} {base : Nat} {e t : TypeId} {v : Value} {l : List α} {cs : Array Value} (h : Owns E w base e v l) (hg : Blk w g t cs) (hne : t ≠ e) (hk : KpX w.heap.size g w w') : Owns E w' base e v l :=
 h.kpx hk (fun b hb => ⟨(h.block hb).2, fun e2 => by
  subst e2
  obtain ⟨c2, f2, h2⟩ := h.cellsZ hb
  have h1 : w.heap[b]? = some (.cells cs t (0, 0)) := hg
  rw [h1] at h2
  injection h2 with h2
  injection h2 with _ h2 _
  exact hne h2⟩)
theorem SpsAt.kpxZ {g : Nat} {w w' : World} {base : Nat} {t : TypeId} {cs : Array Value} {L : List Sl} {f : Nat -> Spn} (h : SpsAt w base L f) (hg : Blk w g t cs) (hne : t ≠ 190) (hk : KpX w.heap.size g w w') : SpsAt w' base L f := fun k hk2 => ⟨(h k hk2).1, (h k hk2).2.kpxZ hg hne hk⟩
theorem bld_fin {Aq : Option Addr} {nq cq : Nat} {Ac : Option Addr} {nc cc : Nat} {q : Req} {B b0 b1 : Nat} {LG' : List Sl} {DL' : List Int} {u : Value} {f : Nat -> Spn} {L : List Sl} {y : Spn} {a w : World} {A6 A9 : Option Addr} {c6 c9 n6 n9 : Nat} {g0 r0 d0 : Value}
 (kB : Blk w B 302 (gcells Aq nq cq Ac nc cc q g0 r0 d0)) (hG : Owns ESl w b1 188 (.slice A6 n6 c6) LG') (hD : Owns EInt w b1 3 (.slice A9 n9 c9) DL') (hS : SpsAt w b0 L f) (hU : Owns ESpn w b0 190 u [y]) (hx : Ext a w) (hB : a.heap.size <= B) :
 Blk ((w.setCell ⟨B, 11, none⟩ (.slice A6 n6 c6)).setCell ⟨B, 13, none⟩ (.slice A9 n9 c9)) B 302 (gcells Aq nq cq Ac nc cc q (.slice A6 n6 c6) r0 (.slice A9 n9 c9)) /\
 Owns ESl ((w.setCell ⟨B, 11, none⟩ (.slice A6 n6 c6)).setCell ⟨B, 13, none⟩ (.slice A9 n9 c9)) b1 188 (.slice A6 n6 c6) LG' /\
 Owns EInt ((w.setCell ⟨B, 11, none⟩ (.slice A6 n6 c6)).setCell ⟨B, 13, none⟩ (.slice A9 n9 c9)) b1 3 (.slice A9 n9 c9) DL' /\
 SpsAt ((w.setCell ⟨B, 11, none⟩ (.slice A6 n6 c6)).setCell ⟨B, 13, none⟩ (.slice A9 n9 c9)) b0 L f /\
 Owns ESpn ((w.setCell ⟨B, 11, none⟩ (.slice A6 n6 c6)).setCell ⟨B, 13, none⟩ (.slice A9 n9 c9)) b0 190 u [y] /\
 Ext a ((w.setCell ⟨B, 11, none⟩ (.slice A6 n6 c6)).setCell ⟨B, 13, none⟩ (.slice A9 n9 c9)) := by
 have k1 := kB.set_ 11 (.slice A6 n6 c6)
 exact ⟨k1.set_ 13 (.slice A9 n9 c9), (hG.setZ kB (by decide) 11 _).setZ k1 (by decide) 13 _, (hD.setZ kB (by decide) 11 _).setZ k1 (by decide) 13 _, (hS.setCell kB (by decide) 11 _).setCell k1 (by decide) 13 _, (hU.setZ kB (by decide) 11 _).setZ k1 (by decide) 13 _, (hx.setCell hB _).setCell hB _⟩
set_option maxRecDepth 100000 in
set_option maxHeartbeats 32000000 in
theorem build_any (Aq : Option Addr) (cq : Nat) (Ac : Option Addr) (cc : Nat) (p : Pln) (q : Req) (w : World) (h : PlnRd w Aq cq Ac cc p) (h0 : p.chk = 0) (hf : fineR p q = true) (hse : ∀ c ∈ p.cons, c.st < c.en /\ c.arg q.size = 0) (hqu : ∀ n : Int, 0 <= n -> n < p.quo.length -> q.size <= gi p.quo n /\ gi p.quo n <= 1099511627776) (hs : 1 <= q.size /\ q.size <= 65536) (hn16 : p.quo.length <= 16 /\ p.cons.length <= 64) :
 Calls Tryz.prog 121 #[.agg #[.slice Aq p.quo.length cq, .slice Ac p.cons.length cc, .slice none 0 0, .slice none 0 0], q.val] w fun e w' => ∃ B, e = .returned (.tuple #[.pointer (some ⟨B, 0, none⟩), .bool true]) /\ w.heap.size <= B /\ GAt Aq cq Ac cc p q w.heap.size w' B /\ Ext w w' := by
 obtain ⟨i0, hi0, hz0, hz1, hz2⟩ := info_parts info_sl
 obtain ⟨i1, hi1, hy0, hy1, hy2⟩ := info_parts info_int
 obtain ⟨W1, hW1, hB1, hk1, hkq, hl1, hlq⟩ := box2 w #[.slice Aq p.quo.length cq, .slice Ac p.cons.length cc, .slice none 0 0, .slice none 0 0] q.cells 83 85
 simp only [Req.cells] at hW1 hkq
 have htb := tables_nilM Aq cq Ac cc p W1 (h.ext hB1) h0
 have hcr := fun w' (hw' : Ext W1 w') => tCheckRequest_any Aq cq Ac cc p q w' ((h.ext hB1).ext hw')
 have hbf := fun i w h hi hse => bFree_nil Aq cq Ac cc p i w h h0 hi hse
 have hsf := fun n w h hn hq => sFree_nil Aq cq Ac cc p n q.size w h h0 hn hs hq
 have hdu := fun c w => Duration_any c q.size w
 have hrd := h.ext hB1
 have hqm := h.qm
 have hcm := h.cm
 have r0 := hk1.cell
 unfold Pln.val at hcr hbf hsf
 unfold Req.val at hcr ⊢
 have Hf := Lib.hid hf
 have Hse := Lib.hid hse
 have Hqu := Lib.hid hqu
 clear h0 hf hse hqu
 go_enter Tryz.func121, Tryz.ntmps121
 go_wp2_with fail
 clear hW1
 refine htb.mono ?_
 clear htb
 rintro e w1 ⟨rfl, hb1⟩
 have r1 := (hk1.ext hb1).cell
 have r2 := (hkq.ext hb1).cell
 have r3 := (hk1.ext hb1).lt
 have r4 := (hkq.ext hb1).lt
 go_wp2_with fail
 refine (hcr _ hb1).mono ?_
 clear hcr
 rintro e w2 ⟨k, rfl, hk0, hb2⟩
 obtain rfl := hk0.2 Hf.out
 clear hk0 r1 r2 r3 r4
 have hb12 := hb1.trans hb2
 have r1 := (hk1.ext hb12).cell
 have r2 := (hkq.ext hb12).cell
 have r3 := (hk1.ext hb12).lt
 have r4 := (hkq.ext hb12).lt
 obtain ⟨W5, hW5, hB5, hk5, hl5⟩ := box1 w2 #[.slice Aq p.quo.length cq, .slice Ac p.cons.length cc, .slice none 0 0, .slice none 0 0, .int .i64 q.src, .int .i64 q.dst, .int .i64 q.size, .int .i64 q.ready, .int .i64 q.dead, .int .i64 q.prio, .bool q.cust, .slice none 0 0, .slice none 0 0, .slice none 0 0] 302
 have r5 := (hk1.ext (hb12.trans hB5)).cell
 have r6 := (hk1.ext (hb12.trans hB5)).lt
 go_wp2_with fail
 clear r0 r1 r2 r3 r4 r5 r6 hW5
 go_loopg [34] p.cons.length (fun n v wr => ∃ (j : Nat) (Ag Ad : Option Addr) (cg cd : Nat) (LG : List Sl), j + n = p.cons.length /\ v = .int .i64 j /\ LG.length = j /\ Blk wr w2.heap.size 302 (gcells Aq p.quo.length cq Ac p.cons.length cc q (.slice Ag LG.length cg) (.slice none 0 0) (.slice Ad j cd)) /\ Owns ESl wr W1.heap.size 188 (.slice Ag LG.length cg) LG /\ Owns EInt wr W1.heap.size 3 (.slice Ad j cd) ((p.cons.take j).map (fun c => c.dur q.size)) /\ SpsAt wr w.heap.size LG (fun k => ⟨(gc p.cons k).st, (gc p.cons k).en⟩) /\ Ext W1 wr)
 case atStart => exact ⟨0, none, none, 0, 0, [], by omega, rfl, rfl, hk5, Owns.none_ _ _, Owns.none_ _ _, SpsAt.nil _ _ _, hb12.trans hB5⟩
 case round =>
  obtain ⟨j, Ag, Ad, cg, cd, LG, hjq, rfl, hLG, kB, hG, hD, hS, hx⟩ := hrel
  have Hjq := Lib.hid hjq
  have hjN : j <= p.cons.length := by omega
  clear hjq
  have t0 := (hk1.ext hx).cell
  have t1 := (hk1.ext hx).lt
  have hsx := hx.size
  by_cases hlt : j < p.cons.length
  ·obtain ⟨bc, oc, rfl, hbc, z0, z1, z2, z3, z4, z5, z6⟩ := (hrd.c.ext hx).con hlt
   have Hgc := Lib.hid (show gc p.cons (j : Int) = p.cons[j] from gc_get (i := (j : Int)) (by omega))
   have hsc := Hse.out _ (List.getElem_mem hlt)
   have Htk := Lib.hid (take_snoc hlt rfl)
   have hbf2 := fun w h => hbf (j : Int) w h ⟨by omega, by omega⟩ (by rw [Hgc.out]; exact hsc.1)
   rw [Hgc.out] at hbf2
   generalize p.cons[j] = c at *
   have hdu2 := fun w => hdu c w
   have hdr : c.durR q.size = c.dur q.size := if_pos hsc.2
   rw [hdr, hsc.2] at hdu2
   unfold Con.val at hdu2
   clear hdr hsc hdu hbf
   obtain ⟨W6, hW6, hB6, hk6, hl6⟩ := box1 wr c.cells 61
   simp only [Con.cells] at hW6 hk6
   have hx6 := hx.trans hB6
   have u0 := (hk1.ext hx6).cell
   have u1 := (hk1.ext hx6).lt
   go_wp2_with fail
   clear hW6 z0 z1 z2 z3 z4 z5 z6 u0 u1 t0 t1
   refine (hbf2 _ (hrd.ext hx6)).mono ?_
   rintro e w7 ⟨u, rfl, hu7, hb7⟩
   obtain ⟨A7, c7, rfl, hR7⟩ := hu7.form
   simp only [List.length_cons, List.length_nil, Nat.zero_add] at hu7 ⊢
   have hx7' := hx6.trans hb7
   have u0 := (hk6.ext hb7).cell
   have u1 := (hk6.ext hb7).lt
   have u2 := (hkq.ext hx7').cell
   have u3 := (hkq.ext hx7').lt
   go_wp2_with fail
   clear u0 u1 u2 u3
   refine (hdu2 _).mono ?_
   rintro e w8 ⟨rfl, hb8⟩
   have hx8 := hx7'.trans hb8
   have hsz8 := hx8.size
   have hw8 : w.heap.size <= w8.heap.size := by omega
   have hB8 := (hB6.trans hb7).trans hb8
   have kB8 := kB.ext hB8
   have hGo := hG.ext hB8
   have hDo := hD.ext hB8
   have hSo := hS.ext hB8
   have hUo := (hu7.ext hb8).mono (show w.heap.size <= W6.heap.size by have := hx6.size; omega)
   unfold gcells at kB8
   have b0 := kB8.cell
   have b1 := kB8.lt
   have b2 := kB8.frozen
   have Hmn := Lib.hid (show min j p.cons.length = j by omega)
   have hLc : LG.length <= 64 := by omega
   have HLG := Lib.hid hLG
   have Hsp := Lib.hid (show (⟨c.st, c.en⟩ : Spn) = ⟨(gc p.cons (LG.length : Int)).st, (gc p.cons (LG.length : Int)).en⟩ by rw [HLG.out, Hgc.out])
   have Hlen := Lib.hid (show (LG ++ [(⟨A7, 1, c7⟩ : Sl)]).length = LG.length + 1 by simp)
   clear hLG
   go_wp2_with fail
   -- GEN BEGIN
   have hS0 : w8.drew.cell? ⟨w2.heap.size, 11, none⟩ = some (.slice Ag LG.length cg) /\ w8.drew.cell? ⟨w2.heap.size, 13, none⟩ = some (.slice Ad j cd) := ⟨kB8.cell 11, kB8.cell 13⟩
   refine wp_region_P (fun k => decide (16 <= k)) (fun w' => w'.cell? ⟨w2.heap.size, 11, none⟩ = some (.slice Ag LG.length cg) /\ w'.cell? ⟨w2.heap.size, 13, none⟩ = some (.slice Ad j cd)) (by kernel_rfl) hS0 (fun _ => ?_)
   refine pT 0 (v := ?_) rfl (fun _ _ _ h => h) (by rfl) ?_ ?_
   rotate_left
   ·intro w'; go_simp; first | done | with_reducible rfl
   try simp only [Act.put, sp1]
   refine pT 1 (v := ?_) rfl (fun _ _ _ h => h) (by rfl) ?_ ?_
   rotate_left
   ·intro w'; go_simp; first | done | with_reducible rfl
   try simp only [Act.put, sp1]
   refine pT 2 (v := ?_) rfl (fun _ _ _ h => h) (by rfl) ?_ ?_
   rotate_left
   ·intro w'; go_simp; first | done | with_reducible rfl
   try simp only [Act.put, sp1]
   refine pT 3 (v := ?_) rfl (fun _ _ _ h => h) (by rfl) ?_ ?_
   rotate_left
   ·intro w'; go_simp; first | done | with_reducible rfl
   try simp only [Act.put, sp1]
   refine pT 4 (v := ?_) rfl (fun _ _ _ h => h) (by rfl) ?_ ?_
   rotate_left
   ·intro w'; go_simp; first | done | with_reducible rfl
   try simp only [Act.put, sp1]
   refine pK 5 (v := ?_) rfl (fun _ _ _ h => h) (by rfl) ?_ (by assumption) ?_
   rotate_left
   ·intro w' hw'
    (try have hC := hw'.2)
    (try have hC9 := hw'.1)
    go_simp
    first | done | with_reducible rfl
   try simp only [Act.put, sp1]
   refine pT 6 (v := ?_) rfl (fun _ _ _ h => h) (by rfl) ?_ ?_
   rotate_left
   ·intro w'; go_simp; first | done | with_reducible rfl
   try simp only [Act.put, sp1]
   refine pT 9 (v := ?_) rfl (fun _ _ _ h => h) (by rfl) ?_ ?_
   rotate_left
   ·intro w'; go_simp; first | done | with_reducible rfl
   try simp only [Act.put, sp1]
   refine pT 10 (v := ?_) rfl (fun _ _ _ h => h) (by rfl) ?_ ?_
   rotate_left
   ·intro w'; go_simp; first | done | with_reducible rfl
   try simp only [Act.put, sp1]
   refine pT 11 (v := ?_) rfl (fun _ _ _ h => h) (by rfl) ?_ ?_
   rotate_left
   ·intro w'; go_simp; first | done | with_reducible rfl
   try simp only [Act.put, sp1]
   refine pK 12 (v := ?_) rfl (fun _ _ _ h => h) (by rfl) ?_ (by assumption) ?_
   rotate_left
   ·intro w' hw'
    (try have hC := hw'.2)
    (try have hC9 := hw'.1)
    go_simp
    first | done | with_reducible rfl
   try simp only [Act.put, sp1]
   refine pT 13 (v := ?_) rfl (fun _ _ _ h => h) (by rfl) ?_ ?_
   rotate_left
   ·intro w'; go_simp; first | done | with_reducible rfl
   try simp only [Act.put, sp1]
   refine wpAnyP_ready (rs := [7, 14]) (by kernel_rfl) (by simp) ?_
   refine AllReadyP.cons rfl (fun K hK => ?_) (AllReadyP.cons rfl (fun K hK => ?_) AllReadyP.nil)
   ·go_simp
    refine hK.out _ _ (fun _ _ => ⟨(Blk.ext kB8 (by repeat (first | exact Ext.refl _ | apply Ext.alloc | apply Ext.drew))).cell 11, (Blk.ext kB8 (by repeat (first | exact Ext.refl _ | apply Ext.alloc | apply Ext.drew))).cell 13⟩) ?_
    clear hK K
    refine wpAnyP_ready (rs := [8, 14]) (by kernel_rfl) (by simp) ?_
    refine AllReadyP.cons rfl (fun K hK => ?_) (AllReadyP.cons rfl (fun K hK => ?_) AllReadyP.nil)
    ·refine step_push (by rfl) (.tmp 60) (.tmp 62) _ (by rfl) W1.heap.size 188 i0 _ 24 Tryz.underlying300 hi0 hz0 hz1 hz2 (by rfl) (.slice Ag LG.length cg) (by rfl) (hGo.ext (by repeat (first | exact Ext.refl _ | apply Ext.alloc | apply Ext.drew))) (w8.heap.size) (⟨A7, 1, c7⟩ : Sl) (by rfl) (by first | exact Blk.new _ _ _ | (simp [blk_alloc_iff, blk_drew]; done) | (simp [blk_alloc_iff, blk_drew]; rfl)) (by simp only [maxLen]; omega) (by omega) (by have := hx8.size; simp; omega) ?_
     intro v6 w6 hv6 hg6 hat
     have hD6 := Owns.kepttZ (hDo.ext (by repeat (first | exact Ext.refl _ | apply Ext.alloc | apply Ext.drew))) (hGo.ext (by repeat (first | exact Ext.refl _ | apply Ext.alloc | apply Ext.drew))) (by decide) hg6
     have kB6 := Blk.kepttZ (kB8.ext (by repeat (first | exact Ext.refl _ | apply Ext.alloc | apply Ext.drew))) (hGo.ext (by repeat (first | exact Ext.refl _ | apply Ext.alloc | apply Ext.drew))) (by decide) hg6
     have hS6 := SpsAt.kepttZ (hSo.ext (by repeat (first | exact Ext.refl _ | apply Ext.alloc | apply Ext.drew))) (hGo.ext (by repeat (first | exact Ext.refl _ | apply Ext.alloc | apply Ext.drew))) (by decide) hg6
     have hU6 := Owns.kepttZ (hUo.ext (by repeat (first | exact Ext.refl _ | apply Ext.alloc | apply Ext.drew))) (hGo.ext (by repeat (first | exact Ext.refl _ | apply Ext.alloc | apply Ext.drew))) (by decide) hg6
     have hx6 := ext_grown (hx8.trans (by repeat (first | exact Ext.refl _ | apply Ext.alloc | apply Ext.drew))) (hGo.ext (by repeat (first | exact Ext.refl _ | apply Ext.alloc | apply Ext.drew))) (Nat.le_refl _) hg6
     obtain ⟨A6, c6, rfl, _⟩ := hv6.form
     simp only [List.length_append, List.length_cons, List.length_nil, Nat.zero_add, List.length_map, List.length_take, Hmn.out] at hv6 ⊢
     refine hK.out _ _ (fun _ _ => ⟨kB6.cell 11, kB6.cell 13⟩) ?_
     clear hK K
     refine pO 14 rfl (fun K hK => ?_)
     ·go_simp
      refine hK.out _ _ (fun _ _ => ⟨(Blk.ext kB6 (by repeat (first | exact Ext.refl _ | apply Ext.alloc | apply Ext.drew))).cell 11, (Blk.ext kB6 (by repeat (first | exact Ext.refl _ | apply Ext.alloc | apply Ext.drew))).cell 13⟩) ?_
      clear hK K
      refine pO 15 rfl (fun K hK => ?_)
      ·refine step_push (by rfl) (.tmp 67) (.tmp 69) _ (by rfl) W1.heap.size 3 i1 _ 8 Tryz.underlying30 hi1 hy0 hy1 hy2 (by rfl) (.slice Ad j cd) (by rfl) (hD6.ext (by repeat (first | exact Ext.refl _ | apply Ext.alloc | apply Ext.drew))) (w6.heap.size) (c.dur q.size) (by rfl) (by first | exact Blk.new _ _ _ | (simp [blk_alloc_iff, blk_drew]; done) | (simp [blk_alloc_iff, blk_drew]; rfl)) (by simp [maxLen]; omega) (by simp; omega) (by have := hx6.size; simp; omega) ?_
       intro v17 w17 hv17 hg17 hat
       have hGz := Owns.kepttZ (hv6.ext (by repeat (first | exact Ext.refl _ | apply Ext.alloc | apply Ext.drew))) (hD6.ext (by repeat (first | exact Ext.refl _ | apply Ext.alloc | apply Ext.drew))) (by decide) hg17
       have kBz := Blk.kepttZ (kB6.ext (by repeat (first | exact Ext.refl _ | apply Ext.alloc | apply Ext.drew))) (hD6.ext (by repeat (first | exact Ext.refl _ | apply Ext.alloc | apply Ext.drew))) (by decide) hg17
       have hSz := SpsAt.kepttZ (hS6.ext (by repeat (first | exact Ext.refl _ | apply Ext.alloc | apply Ext.drew))) (hD6.ext (by repeat (first | exact Ext.refl _ | apply Ext.alloc | apply Ext.drew))) (by decide) hg17
       have hUz := Owns.kepttZ (hU6.ext (by repeat (first | exact Ext.refl _ | apply Ext.alloc | apply Ext.drew))) (hD6.ext (by repeat (first | exact Ext.refl _ | apply Ext.alloc | apply Ext.drew))) (by decide) hg17
       have hxz := ext_grown (hx6.trans (by repeat (first | exact Ext.refl _ | apply Ext.alloc | apply Ext.drew))) (hD6.ext (by repeat (first | exact Ext.refl _ | apply Ext.alloc | apply Ext.drew))) (Nat.le_refl _) hg17
       obtain ⟨A9, c9, rfl, _⟩ := hv17.form
       simp only [List.length_append, List.length_cons, List.length_nil, Nat.zero_add, List.length_map, List.length_take, Hmn.out] at hv17 ⊢
       refine hK.out _ _ (fun _ _ => ⟨kBz.cell 11, kBz.cell 13⟩) ?_
       clear hK K
       refine pT 16 (v := ?_) rfl (fun _ _ _ h => h) (by rfl) ?_ ?_
       rotate_left
       ·intro w'; go_simp; first | done | with_reducible rfl
       try simp only [Act.put, sp1]
       refine pT 17 (v := ?_) rfl (fun _ _ _ h => h) (by rfl) ?_ ?_
       rotate_left
       ·intro w'; go_simp; first | done | with_reducible rfl
       try simp only [Act.put, sp1]
       have q1 := kBz.lt
       have q2 := kBz.frozen
       have q3 := kBz.cell
       refine pO 18 rfl (fun K hK => ?_)
       go_simp
       refine hK.out _ _ (fun h => absurd h (by decide)) ?_
       clear hK K
       refine pT 19 (v := ?_) rfl (fun _ _ _ h => h) (by rfl) ?_ ?_
       rotate_left
       ·intro w'; go_simp; first | done | with_reducible rfl
       try simp only [Act.put, sp1]
       refine pT 20 (v := ?_) rfl (fun _ _ _ h => h) (by rfl) ?_ ?_
       rotate_left
       ·intro w'; go_simp; first | done | with_reducible rfl
       try simp only [Act.put, sp1]
       refine pO 21 rfl (fun K hK => ?_)
       go_simp
       refine hK.out _ _ (fun h => absurd h (by decide)) ?_
       clear hK K
       refine wpAnyP_done (by kernel_rfl) ?_ _
       have hFin := bld_fin kBz hGz hv17 hSz hUz hxz (by have := hb12.size; omega)
       clear q1 q2 q3
       go_wp2
       go_roundg (gk - 1)
       case measure => have := Hjq.out; omega
       case rel => exact ⟨j + 1, A6, A9, c6, c9, LG ++ [⟨A7, 1, c7⟩], by have := Hjq.out; omega, by go_num, by rw [List.length_append, HLG.out]; rfl, by rw [Hlen.out]; exact hFin.1, by rw [Hlen.out]; exact hFin.2.1, by rw [Htk.out, List.map_append]; exact hFin.2.2.1, SpsAt.push hFin.2.2.2.1 (by (try dsimp only); rw [<- Hsp.out]; exact hFin.2.2.2.2.1), hFin.2.2.2.2.2⟩
    ·go_simp
     refine hK.out _ _ (fun _ _ => ⟨(Blk.ext kB8 (by repeat (first | exact Ext.refl _ | apply Ext.alloc | apply Ext.drew))).cell 11, (Blk.ext kB8 (by repeat (first | exact Ext.refl _ | apply Ext.alloc | apply Ext.drew))).cell 13⟩) ?_
     clear hK K
     refine pO 8 rfl (fun K hK => ?_)
     ·refine step_push (by rfl) (.tmp 60) (.tmp 62) _ (by rfl) W1.heap.size 188 i0 _ 24 Tryz.underlying300 hi0 hz0 hz1 hz2 (by rfl) (.slice Ag LG.length cg) (by rfl) (hGo.ext (by repeat (first | exact Ext.refl _ | apply Ext.alloc | apply Ext.drew))) (w8.heap.size) (⟨A7, 1, c7⟩ : Sl) (by rfl) (by first | exact Blk.new _ _ _ | (simp [blk_alloc_iff, blk_drew]; done) | (simp [blk_alloc_iff, blk_drew]; rfl)) (by simp only [maxLen]; omega) (by omega) (by have := hx8.size; simp; omega) ?_
      intro v6 w6 hv6 hg6 hat
      have hD6 := Owns.kepttZ (hDo.ext (by repeat (first | exact Ext.refl _ | apply Ext.alloc | apply Ext.drew))) (hGo.ext (by repeat (first | exact Ext.refl _ | apply Ext.alloc | apply Ext.drew))) (by decide) hg6
      have bD6 := Blk.kepttZ (g := w8.heap.size + 1) (t := 3) (cs := #[.int .i64 (c.dur q.size)]) (by first | exact Blk.new _ _ _ | (simp [blk_alloc_iff, blk_drew]; done) | (simp [blk_alloc_iff, blk_drew]; rfl)) (hGo.ext (by repeat (first | exact Ext.refl _ | apply Ext.alloc | apply Ext.drew))) (by decide) hg6
      have kB6 := Blk.kepttZ (kB8.ext (by repeat (first | exact Ext.refl _ | apply Ext.alloc | apply Ext.drew))) (hGo.ext (by repeat (first | exact Ext.refl _ | apply Ext.alloc | apply Ext.drew))) (by decide) hg6
      have hS6 := SpsAt.kepttZ (hSo.ext (by repeat (first | exact Ext.refl _ | apply Ext.alloc | apply Ext.drew))) (hGo.ext (by repeat (first | exact Ext.refl _ | apply Ext.alloc | apply Ext.drew))) (by decide) hg6
      have hU6 := Owns.kepttZ (hUo.ext (by repeat (first | exact Ext.refl _ | apply Ext.alloc | apply Ext.drew))) (hGo.ext (by repeat (first | exact Ext.refl _ | apply Ext.alloc | apply Ext.drew))) (by decide) hg6
      have hx6 := ext_grown (hx8.trans (by repeat (first | exact Ext.refl _ | apply Ext.alloc | apply Ext.drew))) (hGo.ext (by repeat (first | exact Ext.refl _ | apply Ext.alloc | apply Ext.drew))) (Nat.le_refl _) hg6
      obtain ⟨A6, c6, rfl, _⟩ := hv6.form
      simp only [List.length_append, List.length_cons, List.length_nil, Nat.zero_add, List.length_map, List.length_take, Hmn.out] at hv6 ⊢
      refine hK.out _ _ (fun _ _ => ⟨kB6.cell 11, kB6.cell 13⟩) ?_
      clear hK K
      refine pO 15 rfl (fun K hK => ?_)
      ·refine step_push (by rfl) (.tmp 67) (.tmp 69) _ (by rfl) W1.heap.size 3 i1 _ 8 Tryz.underlying30 hi1 hy0 hy1 hy2 (by rfl) (.slice Ad j cd) (by rfl) (hD6.ext (by repeat (first | exact Ext.refl _ | apply Ext.alloc | apply Ext.drew))) (w8.heap.size + 1) (c.dur q.size) (by rfl) bD6 (by simp [maxLen]; omega) (by simp; omega) (by have := hx6.size; simp; omega) ?_
       intro v17 w17 hv17 hg17 hat
       have hGz := Owns.kepttZ (hv6.ext (by repeat (first | exact Ext.refl _ | apply Ext.alloc | apply Ext.drew))) (hD6.ext (by repeat (first | exact Ext.refl _ | apply Ext.alloc | apply Ext.drew))) (by decide) hg17
       have kBz := Blk.kepttZ (kB6.ext (by repeat (first | exact Ext.refl _ | apply Ext.alloc | apply Ext.drew))) (hD6.ext (by repeat (first | exact Ext.refl _ | apply Ext.alloc | apply Ext.drew))) (by decide) hg17
       have hSz := SpsAt.kepttZ (hS6.ext (by repeat (first | exact Ext.refl _ | apply Ext.alloc | apply Ext.drew))) (hD6.ext (by repeat (first | exact Ext.refl _ | apply Ext.alloc | apply Ext.drew))) (by decide) hg17
       have hUz := Owns.kepttZ (hU6.ext (by repeat (first | exact Ext.refl _ | apply Ext.alloc | apply Ext.drew))) (hD6.ext (by repeat (first | exact Ext.refl _ | apply Ext.alloc | apply Ext.drew))) (by decide) hg17
       have hxz := ext_grown (hx6.trans (by repeat (first | exact Ext.refl _ | apply Ext.alloc | apply Ext.drew))) (hD6.ext (by repeat (first | exact Ext.refl _ | apply Ext.alloc | apply Ext.drew))) (Nat.le_refl _) hg17
       obtain ⟨A9, c9, rfl, _⟩ := hv17.form
       simp only [List.length_append, List.length_cons, List.length_nil, Nat.zero_add, List.length_map, List.length_take, Hmn.out] at hv17 ⊢
       refine hK.out _ _ (fun _ _ => ⟨kBz.cell 11, kBz.cell 13⟩) ?_
       clear hK K
       refine pT 16 (v := ?_) rfl (fun _ _ _ h => h) (by rfl) ?_ ?_
       rotate_left
       ·intro w'; go_simp; first | done | with_reducible rfl
       try simp only [Act.put, sp1]
       refine pT 17 (v := ?_) rfl (fun _ _ _ h => h) (by rfl) ?_ ?_
       rotate_left
       ·intro w'; go_simp; first | done | with_reducible rfl
       try simp only [Act.put, sp1]
       have q1 := kBz.lt
       have q2 := kBz.frozen
       have q3 := kBz.cell
       refine pO 18 rfl (fun K hK => ?_)
       go_simp
       refine hK.out _ _ (fun h => absurd h (by decide)) ?_
       clear hK K
       refine pT 19 (v := ?_) rfl (fun _ _ _ h => h) (by rfl) ?_ ?_
       rotate_left
       ·intro w'; go_simp; first | done | with_reducible rfl
       try simp only [Act.put, sp1]
       refine pT 20 (v := ?_) rfl (fun _ _ _ h => h) (by rfl) ?_ ?_
       rotate_left
       ·intro w'; go_simp; first | done | with_reducible rfl
       try simp only [Act.put, sp1]
       refine pO 21 rfl (fun K hK => ?_)
       go_simp
       refine hK.out _ _ (fun h => absurd h (by decide)) ?_
       clear hK K
       refine wpAnyP_done (by kernel_rfl) ?_ _
       have hFin := bld_fin kBz hGz hv17 hSz hUz hxz (by have := hb12.size; omega)
       clear q1 q2 q3
       go_wp2
       go_roundg (gk - 1)
       case measure => have := Hjq.out; omega
       case rel => exact ⟨j + 1, A6, A9, c6, c9, LG ++ [⟨A7, 1, c7⟩], by have := Hjq.out; omega, by go_num, by rw [List.length_append, HLG.out]; rfl, by rw [Hlen.out]; exact hFin.1, by rw [Hlen.out]; exact hFin.2.1, by rw [Htk.out, List.map_append]; exact hFin.2.2.1, SpsAt.push hFin.2.2.2.1 (by (try dsimp only); rw [<- Hsp.out]; exact hFin.2.2.2.2.1), hFin.2.2.2.2.2⟩
   ·go_simp
    refine hK.out _ _ (fun _ _ => ⟨(Blk.ext kB8 (by repeat (first | exact Ext.refl _ | apply Ext.alloc | apply Ext.drew))).cell 11, (Blk.ext kB8 (by repeat (first | exact Ext.refl _ | apply Ext.alloc | apply Ext.drew))).cell 13⟩) ?_
    clear hK K
    refine pO 7 rfl (fun K hK => ?_)
    ·go_simp
     refine hK.out _ _ (fun _ _ => ⟨(Blk.ext kB8 (by repeat (first | exact Ext.refl _ | apply Ext.alloc | apply Ext.drew))).cell 11, (Blk.ext kB8 (by repeat (first | exact Ext.refl _ | apply Ext.alloc | apply Ext.drew))).cell 13⟩) ?_
     clear hK K
     refine pO 8 rfl (fun K hK => ?_)
     ·refine step_push (by rfl) (.tmp 60) (.tmp 62) _ (by rfl) W1.heap.size 188 i0 _ 24 Tryz.underlying300 hi0 hz0 hz1 hz2 (by rfl) (.slice Ag LG.length cg) (by rfl) (hGo.ext (by repeat (first | exact Ext.refl _ | apply Ext.alloc | apply Ext.drew))) (w8.heap.size + 1) (⟨A7, 1, c7⟩ : Sl) (by rfl) (by first | exact Blk.new _ _ _ | (simp [blk_alloc_iff, blk_drew]; done) | (simp [blk_alloc_iff, blk_drew]; rfl)) (by simp only [maxLen]; omega) (by omega) (by have := hx8.size; simp; omega) ?_
      intro v6 w6 hv6 hg6 hat
      have hD6 := Owns.kepttZ (hDo.ext (by repeat (first | exact Ext.refl _ | apply Ext.alloc | apply Ext.drew))) (hGo.ext (by repeat (first | exact Ext.refl _ | apply Ext.alloc | apply Ext.drew))) (by decide) hg6
      have bD6 := Blk.kepttZ (g := w8.heap.size) (t := 3) (cs := #[.int .i64 (c.dur q.size)]) (by first | exact Blk.new _ _ _ | (simp [blk_alloc_iff, blk_drew]; done) | (simp [blk_alloc_iff, blk_drew]; rfl)) (hGo.ext (by repeat (first | exact Ext.refl _ | apply Ext.alloc | apply Ext.drew))) (by decide) hg6
      have kB6 := Blk.kepttZ (kB8.ext (by repeat (first | exact Ext.refl _ | apply Ext.alloc | apply Ext.drew))) (hGo.ext (by repeat (first | exact Ext.refl _ | apply Ext.alloc | apply Ext.drew))) (by decide) hg6
      have hS6 := SpsAt.kepttZ (hSo.ext (by repeat (first | exact Ext.refl _ | apply Ext.alloc | apply Ext.drew))) (hGo.ext (by repeat (first | exact Ext.refl _ | apply Ext.alloc | apply Ext.drew))) (by decide) hg6
      have hU6 := Owns.kepttZ (hUo.ext (by repeat (first | exact Ext.refl _ | apply Ext.alloc | apply Ext.drew))) (hGo.ext (by repeat (first | exact Ext.refl _ | apply Ext.alloc | apply Ext.drew))) (by decide) hg6
      have hx6 := ext_grown (hx8.trans (by repeat (first | exact Ext.refl _ | apply Ext.alloc | apply Ext.drew))) (hGo.ext (by repeat (first | exact Ext.refl _ | apply Ext.alloc | apply Ext.drew))) (Nat.le_refl _) hg6
      obtain ⟨A6, c6, rfl, _⟩ := hv6.form
      simp only [List.length_append, List.length_cons, List.length_nil, Nat.zero_add, List.length_map, List.length_take, Hmn.out] at hv6 ⊢
      refine hK.out _ _ (fun _ _ => ⟨kB6.cell 11, kB6.cell 13⟩) ?_
      clear hK K
      refine pO 15 rfl (fun K hK => ?_)
      ·refine step_push (by rfl) (.tmp 67) (.tmp 69) _ (by rfl) W1.heap.size 3 i1 _ 8 Tryz.underlying30 hi1 hy0 hy1 hy2 (by rfl) (.slice Ad j cd) (by rfl) (hD6.ext (by repeat (first | exact Ext.refl _ | apply Ext.alloc | apply Ext.drew))) (w8.heap.size) (c.dur q.size) (by rfl) bD6 (by simp [maxLen]; omega) (by simp; omega) (by have := hx6.size; simp; omega) ?_
       intro v17 w17 hv17 hg17 hat
       have hGz := Owns.kepttZ (hv6.ext (by repeat (first | exact Ext.refl _ | apply Ext.alloc | apply Ext.drew))) (hD6.ext (by repeat (first | exact Ext.refl _ | apply Ext.alloc | apply Ext.drew))) (by decide) hg17
       have kBz := Blk.kepttZ (kB6.ext (by repeat (first | exact Ext.refl _ | apply Ext.alloc | apply Ext.drew))) (hD6.ext (by repeat (first | exact Ext.refl _ | apply Ext.alloc | apply Ext.drew))) (by decide) hg17
       have hSz := SpsAt.kepttZ (hS6.ext (by repeat (first | exact Ext.refl _ | apply Ext.alloc | apply Ext.drew))) (hD6.ext (by repeat (first | exact Ext.refl _ | apply Ext.alloc | apply Ext.drew))) (by decide) hg17
       have hUz := Owns.kepttZ (hU6.ext (by repeat (first | exact Ext.refl _ | apply Ext.alloc | apply Ext.drew))) (hD6.ext (by repeat (first | exact Ext.refl _ | apply Ext.alloc | apply Ext.drew))) (by decide) hg17
       have hxz := ext_grown (hx6.trans (by repeat (first | exact Ext.refl _ | apply Ext.alloc | apply Ext.drew))) (hD6.ext (by repeat (first | exact Ext.refl _ | apply Ext.alloc | apply Ext.drew))) (Nat.le_refl _) hg17
       obtain ⟨A9, c9, rfl, _⟩ := hv17.form
       simp only [List.length_append, List.length_cons, List.length_nil, Nat.zero_add, List.length_map, List.length_take, Hmn.out] at hv17 ⊢
       refine hK.out _ _ (fun _ _ => ⟨kBz.cell 11, kBz.cell 13⟩) ?_
       clear hK K
       refine pT 16 (v := ?_) rfl (fun _ _ _ h => h) (by rfl) ?_ ?_
       rotate_left
       ·intro w'; go_simp; first | done | with_reducible rfl
       try simp only [Act.put, sp1]
       refine pT 17 (v := ?_) rfl (fun _ _ _ h => h) (by rfl) ?_ ?_
       rotate_left
       ·intro w'; go_simp; first | done | with_reducible rfl
       try simp only [Act.put, sp1]
       have q1 := kBz.lt
       have q2 := kBz.frozen
       have q3 := kBz.cell
       refine pO 18 rfl (fun K hK => ?_)
       go_simp
       refine hK.out _ _ (fun h => absurd h (by decide)) ?_
       clear hK K
       refine pT 19 (v := ?_) rfl (fun _ _ _ h => h) (by rfl) ?_ ?_
       rotate_left
       ·intro w'; go_simp; first | done | with_reducible rfl
       try simp only [Act.put, sp1]
       refine pT 20 (v := ?_) rfl (fun _ _ _ h => h) (by rfl) ?_ ?_
       rotate_left
       ·intro w'; go_simp; first | done | with_reducible rfl
       try simp only [Act.put, sp1]
       refine pO 21 rfl (fun K hK => ?_)
       go_simp
       refine hK.out _ _ (fun h => absurd h (by decide)) ?_
       clear hK K
       refine wpAnyP_done (by kernel_rfl) ?_ _
       have hFin := bld_fin kBz hGz hv17 hSz hUz hxz (by have := hb12.size; omega)
       clear q1 q2 q3
       go_wp2
       go_roundg (gk - 1)
       case measure => have := Hjq.out; omega
       case rel => exact ⟨j + 1, A6, A9, c6, c9, LG ++ [⟨A7, 1, c7⟩], by have := Hjq.out; omega, by go_num, by rw [List.length_append, HLG.out]; rfl, by rw [Hlen.out]; exact hFin.1, by rw [Hlen.out]; exact hFin.2.1, by rw [Htk.out, List.map_append]; exact hFin.2.2.1, SpsAt.push hFin.2.2.2.1 (by (try dsimp only); rw [<- Hsp.out]; exact hFin.2.2.2.2.1), hFin.2.2.2.2.2⟩
   -- GEN END
  ·obtain rfl : j = p.cons.length := by omega
   obtain ⟨wo, rfl⟩ : ∃ wo, wo = wr := ⟨_, rfl⟩
   rw [List.take_length] at hD
   have HLG := Lib.hid hLG
   have hLc : LG.length <= 64 := by omega
   clear hLG
   go_wp2_with fail
   clear t0 t1
   go_loopg [80] p.quo.length (fun n v wr => ∃ (i : Nat) (Ar : Option Addr) (cr : Nat) (LR : List Sl), i + n = p.quo.length /\ v = .int .i64 i /\ LR.length = i /\ Blk wr w2.heap.size 302 (gcells Aq p.quo.length cq Ac p.cons.length cc q (.slice Ag LG.length cg) (.slice Ar LR.length cr) (.slice Ad p.cons.length cd)) /\ Owns ESl wr wo.heap.size 188 (.slice Ar LR.length cr) LR /\ SpsAt wr w.heap.size LR (fun _ => ⟨0, 1099511627776⟩) /\ KpX wo.heap.size w2.heap.size wo wr)
   case atStart => exact ⟨0, none, 0, [], by omega, rfl, rfl, kB, Owns.none_ _ _, SpsAt.nil _ _ _, KpX.refl _ _ _⟩
   case round =>
    obtain ⟨i, Ar, cr, LR, hiq, rfl, hLR, kB1, hR, hS1, hK⟩ := hrel
    have Hiq := Lib.hid hiq
    have hiN : i <= p.quo.length := by omega
    clear hiq
    have hb12s := hb12.size
    have hEx := hK.ext hx hsx hb12s
    have hKs := hK.size
    by_cases hlt : i < p.quo.length
    ·have hqi := Hqu.out (i : Int) (by omega) (by omega)
     have hsf2 := fun w h => hsf (i : Int) w h ⟨by omega, by omega⟩ hqi
     have t0 := (hk1.ext hEx).cell
     have t1 := (hk1.ext hEx).lt
     have t2 := (hkq.ext hEx).cell
     have t3 := (hkq.ext hEx).lt
     have HLR := Lib.hid hLR
     have hLRc : LR.length <= 16 := by omega
     clear hLR hqi
     go_wp2_with fail
     clear t0 t1 t2 t3
     refine (hsf2 _ (hrd.ext hEx)).mono ?_
     clear hsf2
     rintro e w7 ⟨u, rfl, hu7, hb7⟩
     obtain ⟨A7, c7, rfl, hR7⟩ := hu7.form
     simp only [List.length_cons, List.length_nil, Nat.zero_add] at hu7 ⊢
     have hEx7 := hEx.trans hb7
     have hu8 := hu7.mono (show w.heap.size <= wr.heap.size by have := hB1.size; omega)
     have kB7 := kB1.ext hb7
     unfold gcells at kB7
     have hb7s := hb7.size
     have t0 := kB7.cell
     have t1 := kB7.lt
     have Hlen := Lib.hid (show (LR ++ [(⟨A7, 1, c7⟩ : Sl)]).length = LR.length + 1 by simp)
     go_wp2_with (at_builtin; refine wpList_push rfl (.tmp 98) (.tmp 100) _ (by rfl) wo.heap.size 188 i0 _ 24 Tryz.underlying300 hi0 hz0 hz1 hz2 (by rfl) (.slice Ar LR.length cr) (by rfl) (hR.ext (hb7.alloc _)) w7.heap.size (⟨A7, 1, c7⟩ : Sl) (by rfl) (Blk.new w7 _ _) (by simp only [maxLen]; omega) (by omega) (by simp; omega) ?_; intro v6 w6 hv6 hg6 hat6; have kB6 := Blk.kepttZ (kB7.ext ((Ext.refl _).alloc _)) (hR.ext (hb7.alloc _)) (by decide) hg6; have hS6 := SpsAt.kepttZ (hS1.ext (hb7.alloc _)) (hR.ext (hb7.alloc _)) (by decide) hg6; have hU6 := Owns.kepttZ (hu8.ext ((Ext.refl _).alloc _)) (hR.ext (hb7.alloc _)) (by decide) hg6; have hK6 : KpX wo.heap.size w2.heap.size wo w6 := KpX.trans hK (KpX.trans (KpX.of_ext hKs (hb7.alloc _)) (KpX.grown (by simp; omega) hg6 (fun r e => (hR.block e).1))); have x1 := kB6.lt; have x2 := kB6.frozen; have x3 := kB6.cell; obtain ⟨A6, c6, rfl, hR6⟩ := hv6.form; simp only [List.length_append, List.length_cons, List.length_nil, Nat.zero_add] at hv6 ⊢)
     go_roundg (gk - 1)
     case measure => have := Hiq.out; omega
     case rel => exact ⟨i + 1, A6, c6, LR ++ [⟨A7, 1, c7⟩], by have := Hiq.out; omega, by go_num, by rw [Hlen.out, HLR.out], by rw [Hlen.out]; exact kB6.set_ 12 _, by rw [Hlen.out]; exact hv6.setZ kB6 (by decide) 12 _, SpsAt.push (hS6.setCell kB6 (by decide) 12 _) (hU6.setZ kB6 (by decide) 12 _), hK6.trans (KpX.setCell _ _ _)⟩
    ·obtain rfl : i = p.quo.length := by omega
     have hEw := hB1.trans hEx
     go_wp2
     go_ret2
     refine ⟨w2.heap.size, rfl, by have := hB1.size; omega, ⟨Ag, Ar, Ad, cg, cr, cd, LG, LR, kB1, (hG.kpxZ kB (by decide) hK).rd, hR.rd, (hD.kpxZ kB (by decide) hK).rd, HLG.out, hLR, hS.kpxZ kB (by decide) hK, hS1⟩, hEw⟩
end
section
open Go.RowKit Go.Shelf
attribute [local go_sem] Oper.semAt_some
def preK (i0 k : Nat) : List Unit := if i0 < k then [()] else []
theorem preK_zero (i0 : Nat) : preK i0 0 = [] := if_neg (by omega)
theorem preK_skip {i0 k : Nat} (h : k ≠ i0) : preK i0 (k + 1) = preK i0 k := by
 unfold preK
 by_cases h1 : i0 < k
 ·rw [if_pos h1, if_pos (by omega)]
 ·rw [if_neg h1, if_neg (by omega)]
theorem preK_self (k : Nat) : preK k k = [] := if_neg (by omega)
theorem preK_done {i0 k : Nat} (h : i0 < k) : preK i0 k = [()] := if_pos h
structure MvD (p : Pln) (q : Req) (x : Lb) (i0 : Nat) (c0 : Con) : Prop where
 at_ : p.cons[i0]? = some c0
 one : ∀ k c, p.cons[k]? = some c -> (c.src = x.node ↔ k = i0)
 n16 : p.quo.length <= 16 /\ p.cons.length <= 64
 dst : 0 <= c0.dst /\ c0.dst < p.quo.length
 fit : max c0.st x.tm + c0.dur q.size <= c0.en
 bd : 0 <= c0.st /\ 0 <= x.tm /\ 0 <= c0.dur q.size /\ c0.en <= 1099511627776 /\ 0 <= c0.rng /\ c0.rng <= 1099511627776
 til : max c0.st x.tm + c0.dur q.size <= x.til
 dead : max c0.st x.tm + c0.dur q.size + c0.rng <= q.dead
 room : max c0.st x.tm + c0.dur q.size + c0.rng < 1099511627776
 cust : q.cust = false
def mvX (q : Req) (x : Lb) (i0 : Nat) (c0 : Con) (_ : Unit) : Array Value :=
 #[.agg #[.int .i64 c0.dst, .int .i64 0, .int .i64 1099511627776, .int .i64 (max c0.st x.tm + c0.dur q.size + c0.rng), .int .i64 i0, .int .i64 (max c0.st x.tm), .int .i64 (max c0.st x.tm + c0.dur q.size), .int .i64 (max c0.st x.tm + c0.dur q.size + c0.rng)]]
set_option maxRecDepth 100000 in
set_option maxHeartbeats 8000000 in
theorem moves_iter (l Bg Bx n₁ : Nat) (S : Nat -> Prop) (Aq : Option Addr) (cq : Nat) (Ac : Option Addr) (cc : Nat) (p : Pln) (q : Req) (base B : Nat) (x : Lb) (i0 : Nat) (c0 : Con) (w0 W : World) (h : PlnRd w0 Aq cq Ac cc p) (hg : GAt Aq cq Ac cc p q base w0 B) (D : MvD p q x i0 c0)
 (h0 : Ext w0 W) (hS : ∀ k, S k -> w0.heap.size <= k) (kg : Blk W Bg 224 #[.pointer (some ⟨B, 0, none⟩)]) (kx : Blk W Bx 308 #[.int .i64 x.node, .int .i64 x.fr, .int .i64 x.til, .int .i64 x.tm]) (hn0 : w0.heap.size <= n₁) (hn1 : n₁ <= W.heap.size) (hbg : Bg < n₁ /\ ¬ S Bg) (hbx : Bx < n₁ /\ ¬ S Bx)
 (J Jx : List Unit -> World -> Prop) (hJ : AbidesFrom W.heap.size J)
 (hY : ∀ pre y W, J pre W -> pre.length < 65 -> YieldAt Fence.wide 3 Tryz.prog l (mvX q x i0 c0 y) W fun e W' =>
  (e = .returned (.bool true) /\ J (pre ++ [y]) W' /\ KpP n₁ S W W') ∨ (e = .returned (.bool false) /\ Jx (pre ++ [y]) W'))
 (hj : J [] W) :
 CallsIn Fence.wide 4 Tryz.prog 263 #[.func (.yield l) #[] #[], .pointer (some ⟨Bg, 0, none⟩), .pointer (some ⟨Bx, 0, none⟩)] W fun e W' => (∃ v, e = .returned v) /\
  ((∃ ys, ys = [()] /\ J ys W') ∨ (∃ pre : List Unit, True /\ Jx pre W')) := by
 obtain ⟨Ag, Ar, Ad, cg, cr, cd, LG, LR, k0, _⟩ := hg.out
 unfold gcells at k0
 have k1 := k0.ext h0
 have hcm := h.cm
 have a0 := kg.cell
 have a1 := k1.cell
 have a2 := k1.lt
 have Hx := Lib.hid (show max x.tm 0 = x.tm by have := D.bd; omega)
 refine callsIn_of_wp Tryz.func263 rfl trivial ?_ rfl
 simp only [Tryz.ntmps263, List.size_toArray, List.length_cons, List.length_nil, Nat.reduceAdd, Nat.reduceSub, Array.replicate_succ, Array.replicate_zero, List.push_toArray, List.append_toArray, List.nil_append, List.cons_append]
 gi_wp2
 gi_loopw [17] (fun i wr => ∃ k : Nat, k <= p.cons.length /\ i = .int .i64 k /\ J (preK i0 k) wr /\ KpP n₁ S W wr) (fun i _ => p.cons.length - (intOf i).toNat)
 case atStart => exact ⟨0, Nat.zero_le _, rfl, by rw [preK_zero]; exact hj, KpP.refl _ _ _⟩
 case round =>
  obtain ⟨k, hk, rfl, hjr, hK⟩ := hrel
  clear a0 a1 a2
  obtain ⟨wo, rfl⟩ : ∃ wo, wo = wr := ⟨_, rfl⟩
  have hE := hK.ext h0 hn0 hS
  have kg1 := hK.blk kg hbg.1 hbg.2
  have kx1 := hK.blk kx hbx.1 hbx.2
  have hsz := hK.size
  by_cases hlt : k < p.cons.length
  ·obtain ⟨b, o, rfl, hb, z0, z1, z2, z3, z4, z5, z6⟩ := (h.c.ext hE).con hlt
   have Hyg := Lib.hid (show p.cons[k]? = some p.cons[k] from List.getElem?_eq_getElem hlt)
   generalize p.cons[k] = y at *
   obtain ⟨W3, hW3, hB3, hk3, hl3⟩ := box1 wo y.cells 61
   simp only [Con.cells] at hW3 hk3
   have c3 := hk3.cell
   have l3 := hk3.lt
   have x3 := (kx1.ext hB3).cell
   have xl3 := (kx1.ext hB3).lt
   have g3 := (kg1.ext hB3).cell
   have gl3 := (kg1.ext hB3).lt
   have hjr3 := abides_ext hJ hjr hB3
   have hK3 := hK.trans (KpP.of_ext (by omega) hB3)
   have hE3 := hE.trans hB3
   by_cases hs : y.src = x.node
   case' neg =>
    have hd : (y.src != x.node) = true := by simpa using hs
    have Hne := Lib.hid (show k ≠ i0 from fun e => hs ((D.one k y Hyg.out).2 e))
    clear hs
    gi_wp2
    go_roundw
    case rel => exact ⟨k + 1, by omega, by go_num, by rw [preK_skip Hne.out]; exact hjr3, hK3⟩
    case measure => simp [intOf]; omega
   ·have hd : (y.src != x.node) = false := by simpa using hs
    obtain rfl := (D.one k y Hyg.out).1 hs
    obtain rfl : y = c0 := by have := D.at_; rw [Hyg.out] at this; injection this
    clear hs
    rw [preK_self] at hjr3
    have hro3 : Calls Tryz.prog 264 #[.pointer (some ⟨B, 0, none⟩), .int .i64 y.dst] W3 (RoomP W3) := by
     by_cases e : y.dst = q.dst
     ·rw [e]; exact grooms_dest Aq cq _ cc p q base B W3 (hg.ext hE3)
     ·exact grooms_node Aq cq _ cc p q base B y.dst W3 (hg.ext hE3) D.dst e D.n16.1
    have hho := fun w h hg => ghop_any Aq cq (some ⟨b, o, none⟩) cc p q base B k x.tm y w hg h hlt (by have := Hyg.out; rw [List.getElem?_eq_getElem hlt] at this; injection this) D.fit D.bd
    have hle := fun hp w hg => gleave_any Aq cq (some ⟨b, o, none⟩) cc p q base B hp w hg D.cust
    have d1 : decide (x.til < max y.st x.tm + y.dur q.size) = false := decide_eq_false (by have := D.til; omega)
    have d2 : decide (q.dead < max y.st x.tm + y.dur q.size + y.rng) = false := decide_eq_false (by have := D.dead; omega)
    have d3 : decide (1099511627776 <= max y.st x.tm + y.dur q.size + y.rng) = false := decide_eq_false (by have := D.room; omega)
    have hX := Hx.out
    have hYm : mvX q x k y () = #[.agg #[.int .i64 y.dst, .int .i64 0, .int .i64 1099511627776, .int .i64 (max y.st x.tm + y.dur q.size + y.rng), .int .i64 k, .int .i64 (max y.st x.tm), .int .i64 (max y.st x.tm + y.dur q.size), .int .i64 (max y.st x.tm + y.dur q.size + y.rng)]] := rfl
    generalize max y.st x.tm = m at *
    generalize y.dur q.size = d at *
    gi_wp2_with (refine ⟨trivial, ?_⟩; gi_at_call 264; refine (callsIn_wide.2 hro3).mono ?_; rintro e w4 ⟨A4, c4, rfl, hR4, hb4⟩)
    clear hro3 c3 x3 xl3 g3 gl3 l3 z0 z1 z2 z3 z4 z5 z6
    have hjr4 := abides_ext hJ hjr3 hb4
    have hK4 := hK3.trans (KpP.of_ext (by have := hB3.size; omega) hb4)
    have hE4 := hE3.trans hb4
    gi_loopw [32] (fun i wr => (i = .int .i64 0 /\ wr = w4) ∨ (i = .int .i64 1 /\ J [()] wr /\ KpP n₁ S W wr)) (fun i _ => 1 - (intOf i).toNat)
    case atStart => exact .inl ⟨rfl, rfl⟩
    case round =>
     rcases hrel with ⟨rfl, rfl⟩ | ⟨rfl, hj2, hK2⟩
     ·obtain ⟨bs, os, rfl, hbs, s0, s1⟩ := hR4.spn (k := 0) (by simp)
      simp only [List.getElem_cons_zero, Nat.zero_mul, Nat.add_zero] at s0 s1
      obtain ⟨W5, hW5, hB5, hk5, hl5⟩ := box1 wr #[.int .i64 0, .int .i64 1099511627776] 190
      have hB35 := hb4.trans hB5
      have kg5 := (kg1.ext hB3).ext hB35
      have kx5 := (kx1.ext hB3).ext hB35
      have hk35 := hk3.ext hB35
      have hE5 := hE4.trans hB5
      have q0 := hk5.cell
      have q1 := hk5.lt
      have q2 := kg5.cell
      have q3 := kg5.lt
      have q4 := kx5.cell
      have q5 := kx5.lt
      have hho5 := hho W5 (h.ext hE5) (hg.ext hE5)
      by_cases hdd : y.dst = q.dst
      all_goals
       first
        | (rw [<- hdd] at k0; have d4 : (y.dst != y.dst) = false := by simp)
        | (have d4 : (y.dst != q.dst) = true := by simpa using hdd)
       clear hdd
       gi_wp2_with (refine ⟨trivial, ?_⟩; gi_at_call 265; refine (callsIn_wide.2 hho5).mono ?_; rintro e w6 ⟨rfl, hb6⟩; obtain ⟨W7, hW7, hB7, hk7, hl7⟩ := box1 w6 #[.int .i64 k, .int .i64 m, .int .i64 (m + d), .int .i64 (m + d + y.rng)] 94; have hx57 := hb6.trans hB7; have kg7 := kg5.ext hx57; have kx7 := kx5.ext hx57; have hk37 := hk35.ext hx57; have hk57 := hk5.ext hx57; have hE7 := hE5.trans hx57; have kB7 := k0.ext hE7; have r0 := kg7.cell; have r1 := kg7.lt; have r2 := kx7.cell; have r3 := kx7.lt; have r4 := hk37.cell; have r5 := hk37.lt; have r6 := hk57.cell; have r7 := hk57.lt; have r8 := kB7.cell; have r9 := kB7.lt; have r10 := hk7.cell)
       have hK7 := (hK4.trans (KpP.of_ext (by have := hB3.size; have := hb4.size; omega) hB5)).trans (KpP.of_ext (by have := hB3.size; have := hb4.size; have := hB5.size; omega) hx57)
       have hjr7 := abides_ext hJ hjr4 (hB5.trans hx57)
       have hN := Near.refl W7
       refine wpIn_wide.2 ?_
       have hleQ := fun dd os => hle ⟨k, m, m + d, m + d + y.rng⟩ (Sort.grow (redrawn W7 dd) os) ((hg.ext hE7).ext (below_regrown W7 dd os))
       dsimp only at hleQ
       have hC := hN.2
       have hq := quiet_near hN
       refine wp_region_quiet_below (by kernel_rfl) (by kernel_rfl) ?_
       repeat (first | go_big_quiet_skip | (go_big_quiet_want; go_big_quiet_op; first | go_big_quiet_on | (apply Exists.intro; refine ⟨fun _ => ?_, ?_⟩; (focus (first | (go_at_call 266; with_reducible exact Calls.regrown_of (hleQ _ _)))); go_big_quiet_on)))
       refine wpQuiet_nil ?_
       intro w1 hw1
       clear hq
       replace hw1 := quiet_ext hw1
       replace hN := hN.step hw1
       have hC := hN.2
       have hx9 := hN.1
       ·clear hN hC hleQ
        have hE9 := hE7.trans hx9
        have hK9 := hK7.trans (KpP.of_ext (by have := hB3.size; have := hb4.size; have := hB5.size; have := hx57.size; omega) hx9)
        have t1 := (hk37.ext hx9).cell
        have t2 := (hk37.ext hx9).lt
        have t3 := (hk57.ext hx9).cell
        have t4 := (hk57.ext hx9).lt
        have t5 := (hk7.ext hx9).cell
        have t6 := (hk7.ext hx9).lt
        obtain ⟨fn, tmps, assign, body, hy, hR⟩ := hY [] () w1 (abides_ext hJ hjr7 hx9) (by simp)
        rw [hYm] at hy
        gi_wp2
        refine hR.mono ?_
        rintro e W10 (⟨rfl, hJ10, hk10⟩ | ⟨rfl, hJx10⟩)
        ·gi_wp2
         go_roundw
         case rel => exact .inr ⟨by go_num, hJ10, hK9.trans hk10⟩
         case measure => simp [intOf]
        ·gi_wp2
         refine bodyPost_ret (results_none rfl _ _ _) rfl ?_
         exact ⟨⟨_, rfl⟩, .inr ⟨_, trivial, hJx10⟩⟩
     ·gi_wp2
      go_roundw
      case rel => exact ⟨k + 1, by omega, by go_num, by rw [preK_done (by omega)]; exact hj2, hK2⟩
      case measure => simp [intOf]; omega
  ·obtain rfl : k = p.cons.length := by omega
   gi_wp2
   go_end0
   exact ⟨⟨_, rfl⟩, .inl ⟨_, rfl, by rw [<- preK_done (i0 := i0) (k := p.cons.length) (by have := D.at_; exact (List.getElem?_eq_some_iff.1 this).1)]; exact hjr⟩⟩
theorem moves_stops (Bg Bx n₁ : Nat) (S : Nat -> Prop) (Aq : Option Addr) (cq : Nat) (Ac : Option Addr) (cc : Nat) (p : Pln) (q : Req) (base B : Nat) (x : Lb) (i0 : Nat) (c0 : Con) (w0 w : World) (h : PlnRd w0 Aq cq Ac cc p) (hg : GAt Aq cq Ac cc p q base w0 B) (D : MvD p q x i0 c0)
 (h0 : Ext w0 w) (hS : ∀ k, S k -> w0.heap.size <= k) (kg : Blk w Bg 224 #[.pointer (some ⟨B, 0, none⟩)]) (kx : Blk w Bx 308 #[.int .i64 x.node, .int .i64 x.fr, .int .i64 x.til, .int .i64 x.tm]) (hn0 : w0.heap.size <= n₁) (hn1 : n₁ <= w.heap.size) (hbg : Bg < n₁ /\ ¬ S Bg) (hbx : Bx < n₁ /\ ¬ S Bx) :
 SeqStopsK Fence.wide 4 Tryz.prog 263 #[.pointer (some ⟨Bg, 0, none⟩), .pointer (some ⟨Bx, 0, none⟩)] (mvX q x i0 c0) (KpP n₁ S) (fun ys => ys = [()]) (fun _ => True) 65 w :=
 fun l J Jx W hW hJ _ hY hj => moves_iter l Bg Bx n₁ S Aq cq Ac cc p q base B x i0 c0 w0 W h hg D (h0.trans hW) hS (kg.ext hW) (kx.ext hW) hn0 (Nat.le_trans hn1 (Ext.size hW)) hbg hbx J Jx hJ hY hj
set_option maxHeartbeats 400000 in
theorem moves_any (B : Nat) (x : Lb) (w : World) :
 Calls Tryz.prog 198 #[.pointer (some ⟨B, 0, none⟩), .agg #[.int .i64 x.node, .int .i64 x.fr, .int .i64 x.til, .int .i64 x.tm]] w fun e w' =>
  e = .returned (.func (.func 263) #[] #[.pointer (some ⟨w.heap.size, 0, none⟩), .pointer (some ⟨w.heap.size + 1, 0, none⟩)]) /\ Ext w w' /\ w'.heap.size = w.heap.size + 2 /\
  Blk w' w.heap.size 224 #[.pointer (some ⟨B, 0, none⟩)] /\ Blk w' (w.heap.size + 1) 308 #[.int .i64 x.node, .int .i64 x.fr, .int .i64 x.til, .int .i64 x.tm] := by
 obtain ⟨W1, hW1, hB1, hk1, hl1⟩ := box1 w #[.pointer (some ⟨B, 0, none⟩)] 224
 have s1 : W1.heap.size = w.heap.size + 1 := by rw [<- hW1]; simp
 obtain ⟨W2, hW2, hB2, hk2, hl2⟩ := box1 W1 #[.int .i64 x.node, .int .i64 x.fr, .int .i64 x.til, .int .i64 x.tm] 308
 have s2 : W2.heap.size = w.heap.size + 2 := by rw [<- hW2]; simp [s1]
 rw [s1] at hk2
 have S1 := Lib.hid s1
 have S2 := Lib.hid s2
 clear s1 s2
 go_enter Tryz.func198, Tryz.ntmps198
 go_wp2
 go_ret
 exact ⟨by rw [S1.out]; rfl, hB1.trans hB2, S2.out, hk1.ext hB2, hk2⟩
end
section
open Go.RowKit Go.Shelf
attribute [local go_sem] Oper.semAt_some
def Lb.arr (x : Lb) (q : Req) (c : Con) : Int := max c.st x.tm + c.dur q.size + c.rng
def aStep (q : Req) (s : Int × Bool) (x : Lb) (c : Con) : Int × Bool := if c.dst = q.dst /\ (s.2 = false ∨ x.arr q c < s.1) then (x.arr q c, true) else s
theorem aStep_idem (q : Req) (s : Int × Bool) (x : Lb) (c : Con) : aStep q (aStep q s x c) x c = aStep q s x c := by
 unfold aStep
 by_cases h : c.dst = q.dst /\ (s.2 = false ∨ x.arr q c < s.1)
 ·rw [if_pos h, if_neg (by rintro ⟨_, h1 | h1⟩ <;> simp at h1)]
 ·rw [if_neg h, if_neg h]
def aAt (q : Req) (s : Int × Bool) (x : Lb) (c : Con) (pre : List Unit) : Int × Bool := if pre = [] then s else aStep q s x c
theorem aAt_snoc (q : Req) (s : Int × Bool) (x : Lb) (c : Con) (pre : List Unit) (u : Unit) : aAt q s x c (pre ++ [u]) = aStep q (aAt q s x c pre) x c := by
 unfold aAt
 rw [if_neg (by simp)]
 split
 ·rfl
 ·exact (aStep_idem q s x c).symm
def ARl (q : Req) (s : Int × Bool) (x : Lb) (c : Con) (b6 b7 : Nat) (W0 : World) (lo B : Nat) (ds : List Deferred) (pre : List Unit) (W : World) : Prop :=
 Blk W b6 3 #[.int .i64 (aAt q s x c pre).1] /\ Blk W b7 4 #[.bool (aAt q s x c pre).2] /\ Ext W0 W /\ DSx B lo ds W /\ B <= W.heap.size
theorem ARl.ext {q : Req} {s : Int × Bool} {x : Lb} {c : Con} {b6 b7 : Nat} {W0 : World} {lo B : Nat} {ds : List Deferred} {pre : List Unit} {W W' : World} (h : ARl q s x c b6 b7 W0 lo B ds pre W) (hb : Ext W W') : ARl q s x c b6 b7 W0 lo B ds pre W' :=
 ⟨h.1.ext hb, h.2.1.ext hb, h.2.2.1.trans hb, h.2.2.2.1.ext hb, Nat.le_trans h.2.2.2.2 hb.size⟩
theorem arl_own {q : Req} {s : Int × Bool} {x : Lb} {c : Con} {b6 b7 : Nat} {W0 : World} {lo B : Nat} {ds : List Deferred} (hB : W0.heap.size <= B) : OwnFrom B (ARl q s x c b6 b7 W0 lo B ds) := by
 intro pre X Y row hs hg hr
 obtain ⟨h1, h2, h3, h4, h5⟩ := hs
 exact ⟨h1.keptc hg (fun r e => (hr r e).2), h2.keptc hg (fun r e => (hr r e).2), h3.keptb hg (fun r e => Nat.le_trans hB (hr r e).1), h4.kept hg (fun r e => (hr r e).1), Nat.le_trans h5 hg.size⟩
theorem arl_put {q : Req} {s : Int × Bool} {x : Lb} {c : Con} {b6 b7 : Nat} {W0 : World} {lo B n₁ : Nat} {ds : List Deferred} {pre : List Unit} {W wq : World} (u : Unit) (hr : ARl q s x c b6 b7 W0 lo B ds pre W) (hwq : Ext W wq)
 (hup : c.dst = q.dst /\ ((aAt q s x c pre).2 = false ∨ x.arr q c < (aAt q s x c pre).1)) (h1 : W0.heap.size <= b6) (h2 : W0.heap.size <= b7) (h3 : b6 ≠ b7) (hn : n₁ <= W.heap.size) :
 KeepsFrom B W ((wq.setCell ⟨b6, 0, none⟩ (.int .i64 (x.arr q c))).setCell ⟨b7, 0, none⟩ (.bool true)) /\ KpP n₁ (fun b => b = b6 ∨ b = b7) W ((wq.setCell ⟨b6, 0, none⟩ (.int .i64 (x.arr q c))).setCell ⟨b7, 0, none⟩ (.bool true)) /\ ARl q s x c b6 b7 W0 lo B ds (pre ++ [u]) ((wq.setCell ⟨b6, 0, none⟩ (.int .i64 (x.arr q c))).setCell ⟨b7, 0, none⟩ (.bool true)) := by
 obtain ⟨q1, q2, q3, q4, q5⟩ := hr
 have e : aAt q s x c (pre ++ [u]) = (x.arr q c, true) := by rw [aAt_snoc]; unfold aStep; rw [if_pos hup]
 have hk := ((hwq.keeps.trans (KeepsOthers.setCell _ _ _)).trans (KeepsOthers.setCell _ _ _) : KeepsOthers W ((wq.setCell ⟨b6, 0, none⟩ (.int .i64 (x.arr q c))).setCell ⟨b7, 0, none⟩ (.bool true)))
 refine ⟨hk.from _, ((KpP.of_ext hn hwq).setCell (.inl (.inl rfl)) _ _).setCell (.inl (.inr rfl)) _ _, ?_, ?_, ?_, ?_, ?_⟩
 ·rw [e]
  exact ((q1.ext hwq).set0 _).far (by simpa using h3) _
 ·rw [e]
  exact ((q2.ext hwq).far (by simpa using h3.symm) _).set0 _
 ·exact ((q3.trans hwq).setCell h1 _).setCell (by show W0.heap.size <= b7; omega) _
 ·exact ((q4.ext hwq).setCell _ _).setCell _ _
 ·exact Nat.le_trans q5 hk.size
theorem arl_same {q : Req} {s : Int × Bool} {x : Lb} {c : Con} {b6 b7 : Nat} {W0 : World} {lo B n₁ : Nat} {ds : List Deferred} {pre : List Unit} {W wq : World} (u : Unit) (hr : ARl q s x c b6 b7 W0 lo B ds pre W) (hwq : Ext W wq)
 (hup : ¬ (c.dst = q.dst /\ ((aAt q s x c pre).2 = false ∨ x.arr q c < (aAt q s x c pre).1))) (hn : n₁ <= W.heap.size) :
 KeepsFrom B W wq /\ KpP n₁ (fun b => b = b6 ∨ b = b7) W wq /\ ARl q s x c b6 b7 W0 lo B ds (pre ++ [u]) wq := by
 have e : aAt q s x c (pre ++ [u]) = aAt q s x c pre := by rw [aAt_snoc]; unfold aStep; rw [if_neg hup]
 obtain ⟨q1, q2, q3, q4, q5⟩ := hr.ext hwq
 exact ⟨hwq.keeps.from _, KpP.of_ext hn hwq, by rw [e]; exact q1, by rw [e]; exact q2, q3, q4, q5⟩
theorem results_tmp2z {fn : Func} {a b : Tmp} (h : fn.results = #[.tmp a, .tmp b]) (tmps : Array Value) (P : Program) (w : World) : (results fn tmps).run P w = .ok (.tuple #[tmps.getD a undef, tmps.getD b undef]) w := by
 simp only [results, h]
 simp [Sem.run_bind, Result.andThen]
set_option maxRecDepth 100000 in
set_option maxHeartbeats 4000000 in
theorem arrival_any (Aq : Option Addr) (cq : Nat) (Ac : Option Addr) (cc : Nat) (p : Pln) (q : Req) (base B : Nat) (Al : Option Addr) (cl : Nat) (L : List Lb) (f : Nat -> Nat × Con) (st : Nat -> Int × Bool) (w : World) (h : PlnRd w Aq cq Ac cc p) (hg : GAt Aq cq Ac cc p q base w B) (hl : Rd ELb w Al L) (hlm : L.length <= 64)
 (hD : ∀ k (h : k < L.length), MvD p q L[k] (f k).1 (f k).2) (hs0 : st 0 = (0, false)) (hs : ∀ k (h : k < L.length), st (k + 1) = aStep q (st k) L[k] (f k).2) :
 Calls Tryz.prog 122 #[.pointer (some ⟨B, 0, none⟩), .slice Al L.length cl] w fun e w' => e = .returned (.tuple #[.int .i64 (st L.length).1, .bool (st L.length).2]) /\ Ext w w' := by
 obtain ⟨W0, hW0, hB0, hk0, hl0⟩ := box1 w #[.pointer (some ⟨B, 0, none⟩)] 224
 obtain ⟨W1, hW1, hB1, hkb, hki, hl1, hl1'⟩ := box2 W0 #[.int .i64 0] #[.bool false] 3 4
 obtain ⟨W2, hW2⟩ : ∃ W2, (W1.setCell ⟨W0.heap.size, 0, none⟩ (.int .i64 0)).setCell ⟨W0.heap.size + 1, 0, none⟩ (.bool false) = W2 := ⟨_, rfl⟩
 have kb2 : Blk W2 W0.heap.size 3 #[.int .i64 0] := by rw [<- hW2]; exact (hkb.set0 _).far (by simp) _
 have ki2 : Blk W2 (W0.heap.size + 1) 4 #[.bool false] := by rw [<- hW2]; exact (hki.far (by simp) _).set0 _
 have hB2 : Ext W0 W2 := by rw [<- hW2]; exact (hB1.setCell (Nat.le_refl _) _).setCell (by show W0.heap.size <= W0.heap.size + 1; omega) _
 have a1 := hkb.lt
 have a2 := hkb.frozen
 have a3 := hkb.cell
 have a4 := hki.lt
 have a5 := hki.frozen
 have a6 := hki.cell
 refine (callsIn_wide (n := 5)).1 ?_
 refine callsIn_of_wp_marks Tryz.func122 rfl trivial ?_ rfl
 refine wpIn_wide.2 ?_
 refine Code.wp_mono NoPanic.imp ?_
 simp only [Tryz.ntmps122, List.size_toArray, List.length_cons, List.length_nil, Nat.reduceAdd, Nat.reduceSub, Array.replicate_succ, Array.replicate_zero, List.push_toArray, List.append_toArray, List.nil_append, List.cons_append]
 go_wp2_with fail
 clear hW0 hW1 hW2 a1 a2 a3 a4 a5 a6 hkb hki hB1 hl1 hl1'
 have hcm := h.cm
 have hE2 := hB0.trans hB2
 have hs2 := hE2.size
 have hs02 := hB2.size
 have hW02 : W0.heap.size + 1 < W2.heap.size := ki2.lt
 refine wp_loop_ghost_k (fun k a wr => ∃ (u9 u14 u15 u16 u17 u18 u19 u44 : Value) (ds : List Deferred) (j : Nat), (j + k = L.length /\ Blk wr W0.heap.size 3 #[.int .i64 (st j).1] /\ Blk wr (W0.heap.size + 1) 4 #[.bool (st j).2] /\ Ext W0 wr /\ W2.heap.size <= wr.heap.size /\ DSx wr.heap.size W2.heap.size ds wr) /\
  a = { tmps := #[.pointer (some ⟨B, 0, none⟩), .slice Al L.length cl, .pointer (some ⟨w.heap.size, 0, none⟩), undef, .int .i64 0, .bool false, .pointer (some ⟨W0.heap.size, 0, none⟩), .pointer (some ⟨W0.heap.size + 1, 0, none⟩), undef, u9, undef, .slice Al L.length cl, .int .i64 L.length, .int .i64 j, u14, u15, u16, u17, u18, u19, undef, undef, undef, undef, undef, undef, undef, undef, undef, undef, undef, undef, undef, undef, undef, undef, undef, undef, undef, undef, undef, undef, undef, undef, u44, undef, undef], defers := ds }) L.length ?_ ?_
 ·exact ⟨_, _, _, _, _, _, _, _, [], 0, ⟨by omega, by rw [hs0]; exact kb2, by rw [hs0]; exact ki2, hB2, Nat.le_refl _, DSx.nil _ _ _⟩, rfl⟩
 ·intro gk _ wr hinv
  obtain ⟨u9, u14, u15, u16, u17, u18, u19, u44, ds, j, ⟨hjk, k6, k7, hE, hws, hds⟩, ha⟩ := hinv
  subst ha
  intro _ _ _ _
  have Hjk := Lib.hid hjk
  have hjL : j <= L.length := by omega
  clear hjk
  have hEw := hB0.trans hE
  by_cases hlt : j < L.length
  ·obtain ⟨b, o, rfl, hb, c0, c1, c2, c3⟩ := (hl.ext hEw).lb hlt
   have hDj := hD j hlt
   have Hst := Lib.hid (hs j hlt)
   generalize L[j] = x at *
   have D0 := Lib.hid hDj
   clear hDj
   obtain ⟨W3, hW3, hB3, hk3, hl3⟩ := box1 wr #[.int .i64 x.node, .int .i64 x.fr, .int .i64 x.til, .int .i64 x.tm] 308
   have t1 := hk3.cell
   have t2 := hk3.lt
   have t3 := (hk0.ext (hE.trans hB3)).cell
   have t4 := (hk0.ext (hE.trans hB3)).lt
   have hho := fun w => moves_any B x w
   go_wp2_with fail
   clear hW3 t1 t2 t3 t4 c0 c1 c2 c3
   refine (hho _).mono ?_
   clear hho
   rintro e w4 ⟨rfl, hb4, hs4, z1, z2⟩
   have hE4 := (hE.trans hB3).trans hb4
   go_wp2_with fail
   have hn4 : w.heap.size <= w4.heap.size := (hB0.trans hE4).size
   have hw3 := hB3.size
   refine (wpIn_wide (n := 5)).1 ?_
   refine wpIn_rangeFunc_ownH rfl (by omega) (gf := 263) (lb := #[.pointer (some ⟨W3.heap.size, 0, none⟩), .pointer (some ⟨W3.heap.size + 1, 0, none⟩)]) rfl trivial (enters_of Tryz.func263 (by kernel_rfl) rfl)
    (moves_stops W3.heap.size (W3.heap.size + 1) w4.heap.size (fun b => b = W0.heap.size ∨ b = W0.heap.size + 1) Aq cq Ac cc p q base B x (f j).1 (f j).2 w w4 h hg D0.out (hB0.trans hE4) (fun k hk => by have := hB0.size; omega) z1 z2 hn4 (Nat.le_refl _) ⟨by omega, by omega⟩ ⟨by omega, by omega⟩)
    KpP.trans (fun W l o o' hl _ _ _ => KpP.put W l o' hl) (Below.refl _ _) (fun _ => rfl)
    (ARl q (st j) x (f j).2 W0.heap.size (W0.heap.size + 1) W0 W2.heap.size w4.heap.size ds) (fun _ _ _ => False) (arl_own (by omega)) (fun _ _ _ _ _ hs _ _ => hs)
    ⟨by unfold aAt; rw [if_pos rfl]; exact (k6.ext hB3).ext hb4, by unfold aAt; rw [if_pos rfl]; exact (k7.ext hB3).ext hb4, hE4, ((hds.ext hB3).ext hb4).more (by omega), Nat.le_refl _⟩
    (fun _ a' W => ∃ Bx, w4.heap.size <= Bx /\ Blk W Bx 313 #[.int .i64 (f j).2.dst, .int .i64 0, .int .i64 1099511627776, .int .i64 (max (f j).2.st x.tm + (f j).2.dur q.size + (f j).2.rng), .int .i64 (f j).1, .int .i64 (max (f j).2.st x.tm), .int .i64 (max (f j).2.st x.tm + (f j).2.dur q.size), .int .i64 (max (f j).2.st x.tm + (f j).2.dur q.size + (f j).2.rng)] /\ a' = { tmps := #[.pointer (some ⟨B, 0, none⟩), .slice (some ⟨b, o, none⟩) L.length cl, .pointer (some ⟨w.heap.size, 0, none⟩), undef, .int .i64 0, .bool false, .pointer (some ⟨W0.heap.size, 0, none⟩), .pointer (some ⟨W0.heap.size + 1, 0, none⟩), undef, .pointer (some ⟨wr.heap.size, 0, none⟩), .pointer (some ⟨Bx, 0, none⟩), .slice (some ⟨b, o, none⟩) L.length cl, .int .i64 L.length, .int .i64 j, .bool true, .pointer (some ⟨b, o + j * 4, none⟩), .agg #[.int .i64 x.node, .int .i64 x.fr, .int .i64 x.til, .int .i64 x.tm], .pointer (some ⟨B, 0, none⟩), .agg #[.int .i64 x.node, .int .i64 x.fr, .int .i64 x.til, .int .i64 x.tm], .func (.func 263) #[] #[.pointer (some ⟨W3.heap.size, 0, none⟩), .pointer (some ⟨W3.heap.size + 1, 0, none⟩)], .agg #[.int .i64 (f j).2.dst, .int .i64 0, .int .i64 1099511627776, .int .i64 (max (f j).2.st x.tm + (f j).2.dur q.size + (f j).2.rng), .int .i64 (f j).1, .int .i64 (max (f j).2.st x.tm), .int .i64 (max (f j).2.st x.tm + (f j).2.dur q.size), .int .i64 (max (f j).2.st x.tm + (f j).2.dur q.size + (f j).2.rng)], undef, undef, undef, undef, undef, undef, undef, undef, undef, undef, undef, undef, undef, undef, undef, undef, undef, undef, undef, undef, undef, undef, undef, u44, undef, undef], defers := [] })
    (fun _ a' s X Y row hs hg hr => by obtain ⟨Bx, z1, z2, z3⟩ := hs; exact ⟨Bx, z1, z2.keptc hg (fun r e => (hr r e).2), z3⟩) ?assign ?body ?done ?stop
   case assign =>
    rintro li pre y W K hi hK
    have hBW : w4.heap.size <= W.heap.size := hi.2.2.2.2
    simp only [mvX]
    gi_wp2
    exact hK _ _ ((KeepsOthers.alloc _ _).from _) (KpP.of_ext hBW ((Ext.refl W).alloc _)) (hi.ext ((Ext.refl W).alloc _)) ⟨W.heap.size, hBW, Blk.new _ _ _, rfl⟩
   case body =>
    rintro li pre y a' W hl ⟨rr, hrr⟩ hARL ⟨Bx, b1, kx, rfl⟩ hlen
    have HARL := Lib.hid hARL
    obtain ⟨q1, q2, q3, q4, q5⟩ := hARL
    obtain ⟨Ag, Ar, Ad, cg, cr, cd, LG, LR, k0, _⟩ := (hg.ext (hB0.trans q3)).out
    unfold gcells at k0
    have hkp := hk0.ext q3
    have hpu := fun wq (hwq : Ext W wq) hup => arl_put (B := w4.heap.size) (n₁ := w4.heap.size) y HARL.out hwq hup (Nat.le_refl _) (by omega) (by omega) q5
    have hps := fun wq (hwq : Ext W wq) hup => arl_same (B := w4.heap.size) (n₁ := w4.heap.size) y HARL.out hwq hup q5
    have Hpu := Lib.hid hpu
    have Hps := Lib.hid hps
    have hfn : ∀ k, Fence.wide.fn k := fun _ => trivial
    have hmix : Tryz.prog.follows .mixedOrders = true := by kernel_rfl
    have HA := Lib.hid (show x.arr q (f j).2 = max (f j).2.st x.tm + (f j).2.dur q.size + (f j).2.rng from rfl)
    obtain ⟨sv, sb, hsv⟩ : ∃ sv sb, aAt q (st j) x (f j).2 pre = (sv, sb) := ⟨_, _, rfl⟩
    have Hsv := Lib.hid hsv
    rw [hsv] at q1 q2
    clear hpu hps hsv
    have l1 := hkp.cell
    have l2 := hkp.lt
    have l3 := kx.cell
    have l4 := kx.lt
    have l5 := k0.cell
    have l6 := k0.lt
    have l7 := q1.cell
    have l8 := q1.lt
    have l9 := q2.cell
    have l10 := q2.lt
    have hne1 : ¬ W0.heap.size = W0.heap.size + 1 := by omega
    have hne2 : ¬ W0.heap.size + 1 = W0.heap.size := by omega
    by_cases e1 : (f j).2.dst = q.dst
    case' neg =>
     have d1 : ((f j).2.dst == q.dst) = false := by simpa using e1
     have HE1 := Lib.hid e1
     clear e1
     gi_wp2
     refine wpIn_region_quiet_round rfl (by kernel_rfl) (by kernel_rfl) (by kernel_rfl) ?_
     repeat (gi_big_quiet_step (fail))
     refine wpQuietIn_nil ?_
     intro wq hwq
     replace hwq := quiet_drew hwq
     have FIN := Lib.hid (Hps.out wq hwq (fun hh => HE1.out hh.1))
     have r2 := kx.ext hwq
     have r3 := q1.ext hwq
     have r4 := q2.ext hwq
     have r5 := r2.cell
     have r6 := r2.lt
     have r8 := r3.lt
     have r9 := r3.frozen
     have r10 := r4.lt
     have r11 := r4.frozen
     have r12 := r3.cell
     have r13 := r4.cell
     clear l1 l2 l3 l4 l5 l6 l7 l8 l9 l10
     gi_wp2
     exact FIN.out
    have d1 : ((f j).2.dst == q.dst) = true := by simpa using e1
    have HE1 := Lib.hid e1
    clear e1
    cases sb with
    | false =>
      gi_wp2
      refine wpIn_region_quiet_round rfl (by kernel_rfl) (by kernel_rfl) (by kernel_rfl) ?_
      repeat (gi_big_quiet_step (fail))
      refine wpQuietIn_nil ?_
      intro wq hwq
      replace hwq := quiet_drew hwq
      have FIN := Lib.hid (Hpu.out wq hwq ⟨HE1.out, .inl (by rw [Hsv.out])⟩)
      have r2 := kx.ext hwq
      have r3 := q1.ext hwq
      have r4 := q2.ext hwq
      have r5 := r2.cell
      have r6 := r2.lt
      have r8 := r3.lt
      have r9 := r3.frozen
      have r10 := r4.lt
      have r11 := r4.frozen
      have r12 := r3.cell
      have r13 := r4.cell
      clear l1 l2 l3 l4 l5 l6 l7 l8 l9 l10
      gi_wp2
      exact FIN.out
    | true =>
      by_cases e2 : x.arr q (f j).2 < sv
      ·have d2 : decide (max (f j).2.st x.tm + (f j).2.dur q.size + (f j).2.rng < sv) = true := decide_eq_true e2
       have HE2 := Lib.hid e2
       clear e2
       gi_wp2
       refine wpIn_region_quiet_round rfl (by kernel_rfl) (by kernel_rfl) (by kernel_rfl) ?_
       repeat (gi_big_quiet_step (fail))
       refine wpQuietIn_nil ?_
       intro wq hwq
       replace hwq := quiet_drew hwq
       have FIN := Lib.hid (Hpu.out wq hwq ⟨HE1.out, .inr (by rw [Hsv.out]; exact HE2.out)⟩)
       have r2 := kx.ext hwq
       have r3 := q1.ext hwq
       have r4 := q2.ext hwq
       have r5 := r2.cell
       have r6 := r2.lt
       have r8 := r3.lt
       have r9 := r3.frozen
       have r10 := r4.lt
       have r11 := r4.frozen
       have r12 := r3.cell
       have r13 := r4.cell
       clear l1 l2 l3 l4 l5 l6 l7 l8 l9 l10
       gi_wp2
       exact FIN.out
      ·have d2 : decide (max (f j).2.st x.tm + (f j).2.dur q.size + (f j).2.rng < sv) = false := decide_eq_false e2
       have HE2 := Lib.hid e2
       clear e2
       gi_wp2
       refine wpIn_region_quiet_round rfl (by kernel_rfl) (by kernel_rfl) (by kernel_rfl) ?_
       repeat (gi_big_quiet_step (fail))
       refine wpQuietIn_nil ?_
       intro wq hwq
       replace hwq := quiet_drew hwq
       have FIN := Lib.hid (Hps.out wq hwq (by rw [Hsv.out]; rintro ⟨_, h1 | h1⟩ <;> first | (cases h1; done) | (have := HE2.out; dsimp only at h1; omega)))
       have r2 := kx.ext hwq
       have r3 := q1.ext hwq
       have r4 := q2.ext hwq
       have r5 := r2.cell
       have r6 := r2.lt
       have r8 := r3.lt
       have r9 := r3.frozen
       have r10 := r4.lt
       have r11 := r4.frozen
       have r12 := r3.cell
       have r13 := r4.cell
       clear l1 l2 l3 l4 l5 l6 l7 l8 l9 l10
       gi_wp2
       exact FIN.out
   case done =>
    rintro D ys W hDD hS ⟨q1, q2, q3, q4, q5⟩ hK
    subst hS
    have e : aAt q (st j) x (f j).2 [()] = st (j + 1) := by unfold aAt; rw [if_neg (by simp)]; exact Hst.out.symm
    rw [e] at q1 q2
    have hd2 := q4.cons hDD (by omega) hK
    clear hK
    go_wp2_with fail
    go_roundg (gk - 1)
    case measure => have := Hjk.out; omega
    case rel => exact ⟨by have := Hjk.out; show j + 1 + (gk - 1) = L.length; omega, q1, q2, q3, by omega, hd2⟩
   case stop =>
    rintro D c pre W _ _ h _
    exact h.elim
  ·obtain rfl : j = L.length := by omega
   have l1 := k6.cell
   have l2 := k6.lt
   have l3 := k7.cell
   have l4 := k7.lt
   have hN := Near.refl wr
   go_wp2_with fail
   have hq := quiet_near hN
   refine wp_region_quiet_below (by kernel_rfl) (by kernel_rfl) ?_
   repeat (first | go_big_quiet_skip | (go_big_quiet_want; go_big_quiet_op; first | go_big_quiet_on | (apply Exists.intro; refine ⟨fun _ => ?_, ?_⟩; (focus (first | fail)); go_big_quiet_on)))
   refine wpQuiet_nil ?_
   intro w1 hw1
   clear hq
   replace hw1 := quiet_ext hw1
   replace hN := hN.step hw1
   have hC := hN.2
   go_wp2
   show LeavesInM _ _ _ _ _ _ ds .returning _
   refine (hds.ext hN.1).leaves ?_
   intro w' hw'
   have hfin := hw' (fun W => Ext w W) (fun s X Y row hs hg hr => hs.keptb hg (fun r e => Nat.le_trans hE2.size (hr r e).1)) (hEw.trans hN.1)
   exact ⟨_, results_tmp2z rfl _ _ _, rfl, hfin⟩
end
section
open Go.RowKit Go.Shelf
attribute [local go_sem] Oper.semAt_some
def mvL (q : Req) (x : Lb) (c : Con) : Lb := ⟨c.dst, 0, 1099511627776, x.arr q c⟩
theorem keeps_setCells : ∀ (vs : List Value) (w : World) (g o : Nat), KeepsOthers w (w.setCells g o vs)
 | [], w, _, _ => (Ext.refl w).keeps
 | v :: vs, w, g, o => (KeepsOthers.setCell w ⟨g, o, none⟩ v).trans (keeps_setCells vs _ g (o + 1))
end
section
open Go.RowKit Go.Shelf
attribute [local go_sem] Oper.semAt_some
theorem rd_new3M (W : World) (t : TypeId) (a b c : Int) : Rd EInt (W.alloc (.cells #[.int .i64 a, .int .i64 b, .int .i64 c] t)).drew (some ⟨W.heap.size, 0, none⟩) [a, b, c] := rd_blk3 (t := t) (show Blk (W.alloc (.cells #[.int .i64 a, .int .i64 b, .int .i64 c] t)).drew W.heap.size t #[.int .i64 a, .int .i64 b, .int .i64 c] from Blk.new W t _)
def lbC (x y : Lb) : Int := orL [cmpI x.tm y.tm, cmpI x.node y.node, cmpI x.fr y.fr]
set_option maxRecDepth 100000 in
set_option maxHeartbeats 4000000 in
theorem lcompare_any (x y : Lb) (w : World) :
 Calls Tryz.prog 200 #[.agg #[.int .i64 x.node, .int .i64 x.fr, .int .i64 x.til, .int .i64 x.tm], .agg #[.int .i64 y.node, .int .i64 y.fr, .int .i64 y.til, .int .i64 y.tm]] w fun e w' => e = .returned (.int .i64 (lbC x y)) /\ Ext w w' := by
 obtain ⟨W, hW, hB, hk, hk2, hlt, hlt2⟩ := box2 w #[.int .i64 x.node, .int .i64 x.fr, .int .i64 x.til, .int .i64 x.tm] #[.int .i64 y.node, .int .i64 y.fr, .int .i64 y.til, .int .i64 y.tm] 308 308
 have hc := hk.cell
 have hc2 := hk2.cell
 go_enter Tryz.func200, Tryz.ntmps200
 go_wp2_with fail
 clear hW
 have hN := Near.refl W
 go_region_held3 (fun w' => Ext W w' /\ ∀ b o, b < W.heap.size -> w'.cell? ⟨b, o, none⟩ = W.cell? ⟨b, o, none⟩) (first | exact hN.drew | exact near_alloc (by assumption) _ | assumption)
  (first | (go_at_call 68; refine (cmp_any _ _ _).mono ?_; rintro e w1 ⟨rfl, rfl⟩) | (go_at_call 67; refine (or_any _ 3 [cmpI x.tm y.tm, cmpI x.node y.node, cmpI x.fr y.fr] _ (by first | exact rd_blk3 (Blk.new _ _ _) | exact rd_new3M _ _ _ _ _) (by simp)).mono ?_; rintro e w1 ⟨rfl, rfl⟩))
 all_goals
  clear hN
  go_wp2
  go_ret
  exact ⟨rfl, hB.trans (And.left ‹Ext W _ /\ _›)⟩
set_option maxRecDepth 100000 in
set_option maxHeartbeats 4000000 in
theorem lab1_any (bx : Nat) (x y : Lb) (w : World) (kx : Blk w bx 308 #[.int .i64 x.node, .int .i64 x.fr, .int .i64 x.til, .int .i64 x.tm]) :
 Calls Tryz.prog 202 #[.agg #[.int .i64 y.node, .int .i64 y.fr, .int .i64 y.til, .int .i64 y.tm], .pointer (some ⟨bx, 0, none⟩)] w fun e w' => e = .returned (.bool (lbSame x y)) /\ Ext w w' := by
 obtain ⟨W, hW, hB, hk, hlt⟩ := box1 w #[.int .i64 y.node, .int .i64 y.fr, .int .i64 y.til, .int .i64 y.tm] 308
 have hc := hk.cell
 have kx2 := kx.ext hB
 have hc2 := kx2.cell
 have hl2 := kx2.lt
 have hs := fun w => same_any x y w
 unfold Lb.val at hs
 go_enter Tryz.func202, Tryz.ntmps202
 go_wp2_with fail
 refine (hs _).mono ?_
 rintro e w1 ⟨rfl, hb1⟩
 go_wp2
 go_ret
 exact ⟨rfl, hB.trans hb1⟩
set_option maxRecDepth 100000 in
set_option maxHeartbeats 4000000 in
theorem lab2_any (bx : Nat) (x y : Lb) (h0 h1 h2 h3 : Int) (w : World) (kx : Blk w bx 313 #[.int .i64 x.node, .int .i64 x.fr, .int .i64 x.til, .int .i64 x.tm, .int .i64 h0, .int .i64 h1, .int .i64 h2, .int .i64 h3]) :
 Calls Tryz.prog 205 #[.agg #[.int .i64 y.node, .int .i64 y.fr, .int .i64 y.til, .int .i64 y.tm], .pointer (some ⟨bx, 0, none⟩)] w fun e w' => e = .returned (.bool (lbSame x y)) /\ Ext w w' := by
 obtain ⟨W, hW, hB, hk, hlt⟩ := box1 w #[.int .i64 y.node, .int .i64 y.fr, .int .i64 y.til, .int .i64 y.tm] 308
 have hc := hk.cell
 have kx2 := kx.ext hB
 have hc2 := kx2.cell
 have hl2 := kx2.lt
 have hs := fun w => same_any x y w
 unfold Lb.val at hs
 go_enter Tryz.func205, Tryz.ntmps205
 go_wp2_with fail
 refine (hs _).mono ?_
 rintro e w1 ⟨rfl, hb1⟩
 go_wp2
 go_ret
 exact ⟨rfl, hB.trans hb1⟩
set_option maxRecDepth 100000 in
set_option maxHeartbeats 4000000 in
theorem idx1_hit (A : Option Addr) (c bx : Nat) (x : Lb) (w : World) (hR : Rd ELb w A [x]) (kx : Blk w bx 308 #[.int .i64 x.node, .int .i64 x.fr, .int .i64 x.til, .int .i64 x.tm]) :
 Calls Tryz.prog 267 #[.slice A 1 c, .func (.func 202) #[] #[.pointer (some ⟨bx, 0, none⟩)]] w fun e w' => e = .returned (.int .i64 0) /\ Ext w w' := by
 obtain ⟨b, o, rfl, hb, c0, c1, c2, c3⟩ := hR.lb (k := 0) (by simp)
 simp only [List.getElem_cons_zero, Nat.zero_mul, Nat.add_zero] at c0 c1 c2 c3
 have hla := fun w h => lab1_any bx x x w h
 have hss : lbSame x x = true := by simp [lbSame]
 rw [hss] at hla
 clear hss
 go_enter Tryz.func267, Tryz.ntmps267
 go_wp2_with fail
 go_loopg [8] 1 (fun n k wr => k = .int .i64 0 /\ wr = w)
 case atStart => exact ⟨rfl, rfl⟩
 case round =>
  obtain ⟨rfl, rfl⟩ := hrel
  go_wp2_with fail
  refine (hla _ kx).mono ?_
  rintro e w1 ⟨rfl, hb1⟩
  go_wp2
  go_ret
  exact ⟨rfl, hb1⟩
set_option maxRecDepth 100000 in
set_option maxHeartbeats 4000000 in
theorem cnt2_none (A : Option Addr) (c bx : Nat) (x : Lb) (h0 h1 h2 h3 : Int) (l : List Lb) (w : World) (hR : Rd ELb w A l) (hm : l.length <= 64) (kx : Blk w bx 313 #[.int .i64 x.node, .int .i64 x.fr, .int .i64 x.til, .int .i64 x.tm, .int .i64 h0, .int .i64 h1, .int .i64 h2, .int .i64 h3]) (hn : ∀ k (h : k < l.length), lbSame x l[k] = false) :
 Calls Tryz.prog 204 #[.slice A l.length c, .func (.func 205) #[] #[.pointer (some ⟨bx, 0, none⟩)]] w fun e w' => e = .returned (.bool false) /\ Ext w w' := by
 have hix : Calls Tryz.prog 267 #[.slice A l.length c, .func (.func 205) #[] #[.pointer (some ⟨bx, 0, none⟩)]] w fun e w' => e = .returned (.int .i64 (-1)) /\ Ext w w' := by
  have Hn := Lib.hid hn
  clear hn
  go_enter Tryz.func267, Tryz.ntmps267
  go_wp2_with fail
  go_loopg [8] l.length (fun n k wr => ∃ j : Nat, j + n = l.length /\ k = .int .i64 j /\ Ext w wr)
  case atStart => exact ⟨0, by omega, rfl, Ext.refl _⟩
  case round =>
   obtain ⟨j, hjk, rfl, hx⟩ := hrel
   have Hjk := Lib.hid hjk
   have hjl : j <= l.length := by omega
   clear hjk
   by_cases hlt : j < l.length
   ·obtain ⟨b, o, rfl, hb, c0, c1, c2, c3⟩ := (hR.ext hx).lb hlt
    have hla := fun w h => lab2_any bx x l[j] h0 h1 h2 h3 w h
    rw [Hn.out j hlt] at hla
    generalize l[j] = y at *
    go_wp2_with fail
    refine (hla _ (kx.ext hx)).mono ?_
    rintro e w1 ⟨rfl, hb1⟩
    go_wp2
    go_roundg (gk - 1)
    case measure => have := Hjk.out; omega
    case rel => exact ⟨j + 1, by have := Hjk.out; omega, by go_num, hx.trans hb1⟩
   ·go_wp2
    go_ret
    exact ⟨rfl, hx⟩
 clear hn
 go_enter Tryz.func204, Tryz.ntmps204
 go_wp2_with fail
 refine hix.mono ?_
 rintro e w1 ⟨rfl, hb1⟩
 go_wp2
 go_ret
 exact ⟨rfl, hb1⟩
set_option maxRecDepth 100000 in
set_option maxHeartbeats 4000000 in
theorem min1_any (A : Option Addr) (c : Nat) (x : Lb) (f : Value) (w : World) (hR : Rd ELb w A [x]) :
 Calls Tryz.prog 199 #[.slice A 1 c, f] w fun e w' => e = .returned (.agg #[.int .i64 x.node, .int .i64 x.fr, .int .i64 x.til, .int .i64 x.tm]) /\ Ext w w' := by
 obtain ⟨W1, hW1, hB1, hk1, hl1⟩ := box1 w #[.int .i64 0, .int .i64 0, .int .i64 0, .int .i64 0] 308
 obtain ⟨W2, hW2, hB2, hk2, hl2⟩ := box1 W1 #[.int .i64 x.node, .int .i64 x.fr, .int .i64 x.til, .int .i64 x.tm] 308
 obtain ⟨b, o, rfl, hb, c0, c1, c2, c3⟩ := (hR.ext hB1).lb (k := 0) (by simp)
 simp only [List.getElem_cons_zero, Nat.zero_mul, Nat.add_zero] at c0 c1 c2 c3
 have k3 := hk1.ext hB2
 have a0 := hk2.cell
 have a1 := hk2.lt
 have a2 := k3.cell
 have a3 := k3.lt
 have a4 := k3.frozen
 go_enter Tryz.func199, Tryz.ntmps199
 go_wp2_with fail
 go_loopg [6] 1 (fun n k wr => k = .int .i64 1 /\ wr = W2)
 case atStart => exact ⟨rfl, rfl⟩
 case round =>
  obtain ⟨rfl, rfl⟩ := hrel
  go_wp2_with fail
  obtain ⟨w7, hw7, hz7, hE7⟩ : ∃ w7, wr.setCells w.heap.size 0 [.int .i64 x.node, .int .i64 x.fr, .int .i64 x.til, .int .i64 x.tm] = w7 /\ Blk w7 w.heap.size 308 #[.int .i64 x.node, .int .i64 x.fr, .int .i64 x.til, .int .i64 x.tm] /\ Ext w w7 :=
   ⟨_, rfl, k3.setCells_ [.int .i64 x.node, .int .i64 x.fr, .int .i64 x.til, .int .i64 x.tm] 0, ext_setCells (hB1.trans hB2) (Nat.le_refl _) 0 _⟩
  simp only [World.setCells, Nat.zero_add, Nat.reduceAdd] at hw7
  try rw [hw7]
  have hc7 := hz7.cell
  refine bodyPost_ret (v := .agg #[.int .i64 x.node, .int .i64 x.fr, .int .i64 x.til, .int .i64 x.tm]) (by rw [results_cell1 rfl]; simp [asAddr, Result.andThen, hc7, go_sem]) rfl ?_
  exact ⟨rfl, hE7⟩
end
section
open Go.RowKit Go.Shelf
attribute [local go_sem] Oper.semAt_some
theorem zero_lb : ∀ w, (zeroValue 308).run Tryz.prog w = .ok (.agg #[.int .i64 0, .int .i64 0, .int .i64 0, .int .i64 0]) w := fun w => by kernel_rfl
theorem run_clear_lb {w : World} {g : Nat} {e : TypeId} {cur : Array Value} {c : Nat} (hk : Blk w g e cur) (hn : 4 <= cur.size) (ty : TypeId) :
 (Builtin.clear_ #[229] ty #[.slice (some ⟨g, 0, none⟩) 1 c]).run Tryz.prog w = .ok (.tuple #[]) (w.setCells g 0 [.int .i64 0, .int .i64 0, .int .i64 0, .int .i64 0]) := by
 have hst := run_storeCells_cells (P := Tryz.prog) g 0 [.int .i64 0, .int .i64 0, .int .i64 0, .int .i64 0] 0 w
  (fun j hj => by
   rw [hk.cell]
   simp only [List.length_cons, List.length_nil] at hj
   rw [Array.getElem?_eq_getElem (by omega)]
   rfl)
  (fun j hj => hk.frozen _) (fun v hv => by simp only [List.mem_cons, List.mem_nil_iff, or_false, or_self] at hv; subst hv; rfl)
 rw [Nat.add_zero] at hst
 have hz : (Builtin.zeroCells #[.int .i64 0, .int .i64 0, .int .i64 0, .int .i64 0] 1).toList = [.int .i64 0, .int .i64 0, .int .i64 0, .int .i64 0] := by kernel_rfl
 simp only [Builtin.clear_]
 simp [run_underlying Tryz.underlying229, zero_lb, Value.cells, hz, hst]
set_option maxRecDepth 100000 in
set_option maxHeartbeats 4000000 in
theorem del1_any (g c bx : Nat) (x : Lb) (base : Nat) (w : World) (hv : Owns ELb w base 308 (.slice (some ⟨g, 0, none⟩) 1 c) [x]) (kx : Blk w bx 308 #[.int .i64 x.node, .int .i64 x.fr, .int .i64 x.til, .int .i64 x.tm]) :
 Calls Tryz.prog 201 #[.slice (some ⟨g, 0, none⟩) 1 c, .func (.func 202) #[] #[.pointer (some ⟨bx, 0, none⟩)]] w fun e w' => e = .returned (.slice (some ⟨g, 0, none⟩) 0 c) /\ Owns ELb w' base 308 (.slice (some ⟨g, 0, none⟩) 0 c) [] /\ ∃ w1 vs, Ext w w1 /\ w' = w1.setCells g 0 vs := by
 obtain ⟨i0, hi0, hz0, hz1, hz2⟩ := info_parts info_lb
 have hix := idx1_hit (some ⟨g, 0, none⟩) c bx x w hv.rd kx
 have hc1 := hv.cap
 simp only [List.length_cons, List.length_nil] at hc1
 go_enter Tryz.func201, Tryz.ntmps201
 go_wp2_with fail
 refine hix.mono ?_
 rintro e w1 ⟨rfl, hb1⟩
 have hv1 := hv.ext hb1
 obtain ⟨cur, hkc, hcs, hlc, _⟩ := hv1.there_
 have hct1 : ∀ w, (Instr.slice 229 (.slice (some ⟨g, 0, none⟩) 1 c) (some (.int .i64 0)) none none).run Tryz.prog w = .ok (.slice (some ⟨g, 0, none⟩) 1 c) w := fun w => by
  have h := run_cut (P := Tryz.prog) (A := some ⟨g, 0, none⟩) Tryz.underlying229 hi0 hz1 (n := 1) (c := c) (k := 0) (by omega) w
  rw [cutA, if_neg (by omega)] at h
  simpa [Addr.add_lit, ELb] using h
 have hct2 : ∀ w, (Instr.sliceAt 229 (.slice (some ⟨g, 0, none⟩) 1 c) (some (.int .i64 0)) none none).run Tryz.prog w = .ok (.slice (some ⟨g, 0, none⟩) 1 c) w := fun w => by
  have h := run_cutAt (P := Tryz.prog) (A := some ⟨g, 0, none⟩) Tryz.underlying229 hi0 hz1 (n := 1) (c := c) (k := 0) (by omega) w
  rw [cutA, if_neg (by omega)] at h
  simpa [Addr.add_lit, ELb] using h
 have hct3 : ∀ w, (Instr.slice 229 (.slice (some ⟨g, 0, none⟩) 1 c) none (some (.int .i64 0)) none).run Tryz.prog w = .ok (.slice (some ⟨g, 0, none⟩) 0 c) w := fun w => by
  have h := run_take (P := Tryz.prog) (A := some ⟨g, 0, none⟩) Tryz.underlying229 hi0 (n := 1) (c := c) (k := 0) (by omega) w
  simpa using h
 have hct4 : ∀ w, (Instr.sliceAt 229 (.slice (some ⟨g, 0, none⟩) 1 c) none (some (.int .i64 0)) none).run Tryz.prog w = .ok (.slice (some ⟨g, 0, none⟩) 0 c) w := fun w => by
  have h := run_takeAt (P := Tryz.prog) (A := some ⟨g, 0, none⟩) Tryz.underlying229 hi0 (n := 1) (c := c) (k := 0) (by omega) w
  simpa using h
 have hcl := run_clear_lb (c := c) hkc (by rw [hcs]; show 4 <= c * 4; omega)
 have hfin := hv1.cutoff (a := 0) (Nat.zero_le _) [.int .i64 0, .int .i64 0, .int .i64 0, .int .i64 0] (by show 0 * 4 + 4 <= c * 4; omega)
 simp only [Nat.zero_mul, List.take_zero] at hfin
 clear hcs hkc hlc
 go_wp2
 go_loopg [5, 6] 1 (fun n i j wr => i = .int .i64 0 /\ j = .int .i64 1 /\ wr = w1)
 case atStart => exact ⟨rfl, rfl, rfl⟩
 case round =>
  obtain ⟨rfl, rfl, rfl⟩ := hrel
  go_wp2
  go_ret
  exact ⟨rfl, hfin, wr, _, hb1, rfl⟩
set_option maxRecDepth 100000 in
set_option maxHeartbeats 4000000 in
theorem lins_any (A : Option Addr) (c : Nat) (l : List Lb) (w : World) (hR : Rd ELb w A l) (hm : 1 <= l.length /\ l.length <= 12) (hs : ∀ k (h : k + 1 < l.length), ¬ lbC l[k + 1] l[k] < 0) :
 Calls Tryz.prog 308 #[.slice A l.length c, .int .i64 0, .int .i64 l.length, .func (.func 200) #[] #[]] w fun e w' => e = .returned (.tuple #[]) /\ Ext w w' := by
 have Hs := Lib.hid hs
 clear hs
 go_enter Tryz.func308, Tryz.ntmps308
 go_wp2_with fail
 go_loopg [8] l.length (fun n v wr => ∃ i : Nat, i + 1 + n = l.length + 1 /\ v = .int .i64 ((i : Int) + 1) /\ Ext w wr)
 case atStart => exact ⟨0, by omega, by go_num, Ext.refl _⟩
 case round =>
  obtain ⟨i, hik, rfl, hx⟩ := hrel
  have Hik := Lib.hid hik
  have hil : i + 1 <= l.length + 1 := by omega
  clear hik
  obtain ⟨wo, rfl⟩ : ∃ wo, wo = wr := ⟨_, rfl⟩
  by_cases hlt : i + 1 < l.length
  ·obtain ⟨b, o, e1, hb, c0, c1, c2, c3⟩ := (hR.ext hx).lb (k := i) (by omega)
   obtain ⟨b', o', e2, hb', d0, d1, d2, d3⟩ := (hR.ext hx).lb hlt
   obtain ⟨rfl, rfl⟩ : b = b' /\ o = o' := by rw [e1] at e2; injection e2 with e2; injection e2 with e3 e4; exact ⟨e3, e4⟩
   subst e1
   have Hc := Lib.hid (Hs.out i hlt)
   have ei : ((i : Int) + 1 - 1) = (i : Int) := by omega
   have en : ((i : Int) + 1).toNat = i + 1 := by omega
   generalize l[i + 1] = y at *
   generalize l[i] = x at *
   obtain ⟨v, hv⟩ : ∃ v, lbC y x = v := ⟨_, rfl⟩
   have hcQ := fun d os => lcompare_any y x (Sort.grow (redrawn wo d) os)
   simp only [hv] at hcQ
   rw [hv] at Hc
   have dv : decide (v < 0) = false := decide_eq_false (by have := Hc.out; omega)
   have di : decide (0 < (i : Int) + 1) = true := decide_eq_true (by omega)
   clear hv
   obtain ⟨gko, rfl⟩ : ∃ g, g = gk := ⟨_, rfl⟩
   go_wp2_with fail
   go_loopg [9] 1 (fun n v wr => v = .int .i64 ((i : Int) + 1) /\ wr = wo)
   case atStart => exact ⟨rfl, rfl⟩
   case round =>
    obtain ⟨rfl, rfl⟩ := hrel
    have hN := Near.refl wr
    have hC := hN.2
    go_wp2_with fail
    have hq := quiet_near hN
    refine wp_region_quiet_below (by kernel_rfl) (by kernel_rfl) ?_
    repeat (first | go_big_quiet_skip | (go_big_quiet_want; go_big_quiet_op; first | go_big_quiet_on | (apply Exists.intro; refine ⟨fun _ => ?_, ?_⟩; (focus (first | (go_at_call 200; with_reducible exact Calls.regrown_of (hcQ _ _)))); go_big_quiet_on)))
    refine wpQuiet_nil ?_
    intro w1 hw1
    clear hq
    replace hw1 := quiet_ext hw1
    replace hN := hN.step hw1
    have hC := hN.2
    go_wp2
    go_roundg (gko - 1)
    case measure => have := Hik.out; omega
    case rel => exact ⟨i + 1, by have := Hik.out; omega, by go_num, hx.trans hN.1⟩
  ·go_wp2
   go_end0
   exact ⟨rfl, hx⟩
set_option maxRecDepth 100000 in
set_option maxHeartbeats 4000000 in
theorem lsort_any (A : Option Addr) (c : Nat) (l : List Lb) (w : World) (hR : Rd ELb w A l) (hm : 1 <= l.length /\ l.length <= 12) (hs : ∀ k (h : k + 1 < l.length), ¬ lbC l[k + 1] l[k] < 0) :
 Calls Tryz.prog 206 #[.slice A l.length c, .func (.func 200) #[] #[]] w fun e w' => e = .returned (.tuple #[]) /\ Ext w w' := by
 have hlen := fun w => len_any (l.length : Int) w (by omega) (by omega)
 have hmx : (l.length : Int) <= 12 := by omega
 have hpdq : ∀ (k : Int) w, Rd ELb w A l -> Calls Tryz.prog 268 #[.slice A l.length c, .int .i64 0, .int .i64 l.length, .int .i64 k, .func (.func 200) #[] #[]] w fun e w' => e = .returned (.tuple #[]) /\ Ext w w' := fun k w hR => by
  have hins := lins_any A c l w hR hm hs
  have hd : decide ((l.length : Int) <= 12) = true := decide_eq_true hmx
  clear hlen hs
  go_enter Tryz.func268, Tryz.ntmps268
  go_wp2_with fail
  go_loopg [1, 2] 0 (fun q a b wr => a = .int .i64 0 /\ b = .int .i64 l.length /\ wr = w)
  case atStart => exact ⟨rfl, rfl, rfl⟩
  case round =>
   obtain ⟨rfl, rfl, rfl⟩ := hrel
   go_wp2_with fail
   refine hins.mono ?_
   rintro e w1 ⟨rfl, h1⟩
   go_wp2_with fail
   refine bodyPost_ret (results_none rfl _ _ _) rfl ?_
   exact ⟨rfl, h1⟩
 clear hs
 go_enter Tryz.func206, Tryz.ntmps206
 go_wp2_with fail
 refine (hlen _).mono ?_
 rintro e w1 ⟨⟨k, rfl⟩, rfl⟩
 go_wp2_with fail
 refine (hpdq k _ hR).mono ?_
 rintro e w2 ⟨rfl, h1⟩
 go_wp2_with fail
 go_end0
 exact ⟨rfl, h1⟩
end
section
open Go.RowKit Go.Shelf
attribute [local go_sem] Oper.semAt_some
structure LbCh (p : Pln) (q : Req) (L : List Lb) (f : Nat -> Nat × Con) : Prop where
 len : 1 <= L.length /\ L.length <= 12
 fst : ∀ (h : 0 < L.length), L[0] = ⟨q.src, 0, 1099511627776, q.ready⟩
 src : 0 <= q.src /\ q.src < p.quo.length /\ p.quo.length <= 16
 rdy : 0 <= q.ready /\ q.ready < 1099511627776
 mv : ∀ k (h : k < L.length), MvD p q L[k] (f k).1 (f k).2
 next : ∀ k (h : k + 1 < L.length), (f k).2.dst ≠ q.dst /\ L[k + 1] = mvL q L[k] (f k).2 /\ ∀ j (hj : j < L.length), j <= k -> lbSame L[k + 1] L[j] = false
 last : ∀ k, k + 1 = L.length -> (f k).2.dst = q.dst
 ord : ∀ k (h : k + 1 < L.length), ¬ lbC L[k + 1] L[k] < 0
section
variable {p : Pln} {q : Req} {L : List Lb} {f : Nat -> Nat × Con} {AT : Int}
end
end
section
open Go.RowKit Go.Shelf
attribute [local go_sem] Oper.semAt_some
theorem kpx_setCells {n g : Nat} : ∀ (vs : List Value) (W : World) (o : Nat), KpX n g W (W.setCells g o vs)
 | [], W, _ => KpX.refl _ _ W
 | v :: vs, W, o => (KpX.setCell (n := n) (g := g) W o v).trans (kpx_setCells vs _ (o + 1))
theorem opL_lt {L : List Lb} {j : Nat} (h : j < L.length) : (L.drop j).take 1 = [L[j]] := by rw [List.drop_eq_getElem_cons h]; rfl
theorem opL_ge {L : List Lb} {j : Nat} (h : ¬ j < L.length) : (L.drop j).take 1 = [] := by rw [List.drop_eq_nil_of_le (by omega)]; rfl
def LRlM (nxt : List Lb) (D : List Lb) (bo bd g b1 n : Nat) (W0 : World) (lo B : Nat) (ds : List Deferred) (pre : List Unit) (W : World) : Prop :=
 ∃ uo ud, Owns ELb W b1 308 uo (pre.flatMap (fun _ => nxt)) /\ Blk W bo 229 #[uo] /\ Blk W bd 229 #[ud] /\ Owns ELb W b1 308 ud D /\ (∀ b, uo.ownBlock = some b -> ud.ownBlock ≠ some b) /\ (∀ b, uo.ownBlock = some b -> b = g ∨ n <= b) /\ (∀ b, ud.ownBlock = some b -> b < n) /\ Ext W0 W /\ DSx B lo ds W /\ B <= W.heap.size
theorem LRlM.ext {nxt D : List Lb} {bo bd g b1 n : Nat} {W0 : World} {lo B : Nat} {ds : List Deferred} {pre : List Unit} {W W' : World} (h : LRlM nxt D bo bd g b1 n W0 lo B ds pre W) (hb : Ext W W') : LRlM nxt D bo bd g b1 n W0 lo B ds pre W' := by
 obtain ⟨uo, ud, h1, h2, h3, h4, h5, h6, h7, h8, h9, h10⟩ := h
 exact ⟨uo, ud, h1.ext hb, h2.ext hb, h3.ext hb, h4.ext hb, h5, h6, h7, h8.trans hb, h9.ext hb, Nat.le_trans h10 hb.size⟩
theorem lrl_ownM {nxt D : List Lb} {bo bd g b1 n : Nat} {W0 : World} {lo B : Nat} {ds : List Deferred} (hB : W0.heap.size <= B) : OwnFrom B (LRlM nxt D bo bd g b1 n W0 lo B ds) := by
 intro pre X Y row hs hg hr
 obtain ⟨uo, ud, h1, h2, h3, h4, h5, h6, h7, h8, h9, h10⟩ := hs
 exact ⟨uo, ud, h1.keptc hg (fun r e => (hr r e).2), h2.keptc hg (fun r e => (hr r e).2), h3.keptc hg (fun r e => (hr r e).2), h4.keptc hg (fun r e => (hr r e).2), h5, h6, h7, h8.keptb hg (fun r e => Nat.le_trans hB (hr r e).1), h9.kept hg (fun r e => (hr r e).1), Nat.le_trans h10 hg.size⟩
theorem results_tmp1z {fn : Func} {a : Tmp} (h : fn.results = #[.tmp a]) (tmps : Array Value) (P : Program) (w : World) : (results fn tmps).run P w = .ok (tmps.getD a undef) w := by
 simp only [results, h]
 simp [Sem.run_bind, Result.andThen]
theorem flat_one {α β : Type} (z : β) : ∀ (l : List α), (l.flatMap (fun _ => [z])).length = l.length
 | [] => rfl
 | _ :: l => by rw [List.flatMap_cons, List.length_append, flat_one z l]; simp; omega
theorem lab_put {W5 W w6 W0 : World} {Ad : Option Addr} {cd co g bx j n0 b1 : Nat} {x : Lb} {l : List Lb} {v6 : Value} (hWW : Ext W5 W) (hWs : W5.heap.size < W.heap.size) (kd5 : Blk W5 n0 229 #[.slice Ad j cd]) (ko5 : Blk W5 (n0 + 1) 229 #[.slice (some ⟨g, 0, none⟩) 0 co])
 (kx5 : Blk W5 bx 308 #[.int .i64 x.node, .int .i64 x.fr, .int .i64 x.til, .int .i64 x.tm]) (ho5 : Owns ELb W5 b1 308 (.slice (some ⟨g, 0, none⟩) 0 co) []) (hd5 : Owns ELb W5 b1 308 (.slice Ad j cd) l) (hl : l.length = j) (hdis : ∀ b, (Value.slice Ad j cd).ownBlock = some b -> b ≠ g)
 (hbx : ∀ b, (Value.slice Ad j cd).ownBlock = some b -> b ≠ bx) (hE5 : Ext W0 W5) (hn0 : W0.heap.size = n0) (hb1 : n0 + 2 <= b1)
 (hv6 : Owns ELb w6 b1 308 v6 (l ++ [x])) (hg6 : W.grownBy w6 (Value.slice Ad j cd).ownBlock) (hat : v6.ownBlock = (Value.slice Ad j cd).ownBlock ∨ v6.ownBlock = some W.heap.size) :
 ∃ A6 d6 W7, v6 = .slice A6 (j + 1) d6 /\ w6.setCell ⟨n0, 0, none⟩ (.slice A6 (j + 1) d6) = W7 /\ Blk w6 n0 229 #[.slice Ad j cd] /\ Blk W7 n0 229 #[.slice A6 (j + 1) d6] /\ Blk W7 (n0 + 1) 229 #[.slice (some ⟨g, 0, none⟩) 0 co] /\ Blk W7 bx 308 #[.int .i64 x.node, .int .i64 x.fr, .int .i64 x.til, .int .i64 x.tm] /\
   Owns ELb W7 b1 308 (.slice (some ⟨g, 0, none⟩) 0 co) [] /\ Owns ELb W7 b1 308 (.slice A6 (j + 1) d6) (l ++ [x]) /\ Ext W0 W7 /\ W5.heap.size <= W7.heap.size /\ KeepsOthers W5 W7 /\ (∀ b, (Value.slice A6 (j + 1) d6).ownBlock = some b -> b ≠ g /\ b < W7.heap.size) := by
 obtain ⟨A6, d6, rfl, hR6⟩ := hv6.form
 have hd := hd5.ext hWW
 have kd6 := Blk.kepttZ (kd5.ext hWW) hd (by decide) hg6
 have ko6 := Blk.kepttZ (ko5.ext hWW) hd (by decide) hg6
 have kx6 := Blk.kept (kx5.ext hWW) hg6 (fun e' => hbx bx e'.symm rfl)
 have ho6 := (ho5.ext hWW).kept hg6 (fun b hb e => hdis b e.symm (by injection hb with hb; exact hb.symm))
 have hE6 := ext_grown (hE5.trans hWW) hd (by omega) hg6
 have hk6 := hWW.keeps.trans (keeps_ownL hd hg6)
 simp only [List.length_append, List.length_cons, List.length_nil, Nat.zero_add, hl] at hv6 hat ⊢
 have hgs := hg6.size
 refine ⟨A6, d6, _, rfl, rfl, kd6, kd6.set0 _, ko6.far (by simp) _, ?_, ho6.setZ kd6 (by decide) 0 _, hv6.setZ kd6 (by decide) 0 _, hE6.setCell (by show W0.heap.size <= n0; omega) _, by simp [World.setCell]; omega, hk6.trans (KeepsOthers.setCell _ _ _), ?_⟩
 ·refine kx6.far ?_ _
  intro e
  dsimp only at e
  subst e
  have h1 : W5.heap[bx]? = some (.cells _ 229 (0, 0)) := kd5
  have h2 : W5.heap[bx]? = some (.cells _ 308 (0, 0)) := kx5
  rw [h1] at h2
  injection h2 with h2
  injection h2 with _ h2
  exact absurd h2 (by decide)
 ·intro b hb
  have hs := (hv6.block hb).2
  refine ⟨?_, by simp [World.setCell]; exact hs⟩
  rcases hat with h | h
  ·exact hdis b (by rw [<- h]; exact hb)
  ·rw [h] at hb
   injection hb with hb
   have := (ho5.block (g := g) rfl).2
   omega
theorem lrl_putM {nxt D : List Lb} {bo bd g b1 n lo B : Nat} {W0 W wq w6 : World} {ds : List Deferred} {pre : List Unit} {y : Lb} {uo ud v6 : Value} (u : Unit) (hn : nxt = [y])
 (h1 : Owns ELb W b1 308 uo (pre.flatMap (fun _ => nxt))) (h2 : Blk W bo 229 #[uo]) (h3 : Blk W bd 229 #[ud]) (h4 : Owns ELb W b1 308 ud D) (h5 : ∀ b, uo.ownBlock = some b -> ud.ownBlock ≠ some b) (h6 : ∀ b, uo.ownBlock = some b -> b = g ∨ n <= b) (h7 : ∀ b, ud.ownBlock = some b -> b < n) (h8 : Ext W0 W) (h9 : DSx B lo ds W) (h10 : B <= W.heap.size)
 (hx : Ext W wq) (hbo : bo ≠ bd) (hW0 : W0.heap.size <= bo) (hb1 : W0.heap.size <= b1) (hnB : n <= B)
 (hv6 : Owns ELb w6 b1 308 v6 (pre.flatMap (fun _ => nxt) ++ [y])) (hg6 : wq.grownBy w6 uo.ownBlock) (hat : v6.ownBlock = uo.ownBlock ∨ v6.ownBlock = some wq.heap.size) :
 Blk w6 bo 229 #[uo] /\ KeepsFrom B W (w6.setCell ⟨bo, 0, none⟩ v6) /\ KpP n (fun b => b = bo ∨ b = g) W (w6.setCell ⟨bo, 0, none⟩ v6) /\ LRlM nxt D bo bd g b1 n W0 lo B ds (pre ++ [u]) (w6.setCell ⟨bo, 0, none⟩ v6) := by
 have ho := h1.ext hx
 have ko6 := Blk.kepttZ (h2.ext hx) ho (by decide) hg6
 have kd6 := Blk.kepttZ (h3.ext hx) ho (by decide) hg6
 have hd6 := (h4.ext hx).kept hg6 (fun b hb e => h5 b e.symm hb)
 have hE6 := ext_grown (h8.trans hx) ho hb1 hg6
 have hk6 := hx.keeps.trans (keeps_ownL ho hg6)
 have hkk := hk6.trans (KeepsOthers.setCell w6 ⟨bo, 0, none⟩ v6)
 have hgs := hg6.size
 have hxs := hx.size
 refine ⟨ko6, hkk.from _, ?_, v6, ud, ?_, ko6.set0 _, kd6.far (by simpa using hbo.symm) _, hd6.setZ ko6 (by decide) 0 _, ?_, ?_, h7, hE6.setCell hW0 _, h9.keeps hkk, Nat.le_trans h10 hkk.size⟩
 ·refine KpP.setCell (KpP.trans (KpP.of_ext (by omega) hx) ⟨hg6.os, hg6.tape, hg6.output, hgs, fun k hk hs => hg6.block k (by omega) (fun e => ?_)⟩) (.inl (.inl rfl)) _ _
  rcases h6 k e.symm with e2 | e2
  ·exact hs (.inr e2)
  ·omega
 ·have e : (pre ++ [u]).flatMap (fun _ => nxt) = pre.flatMap (fun _ => nxt) ++ [y] := by rw [List.flatMap_append, hn]; simp
  rw [e]
  exact hv6.setZ ko6 (by decide) 0 _
 ·intro b hb
  rcases hat with h | h
  ·exact h5 b (by rw [<- h]; exact hb)
  ·rw [h] at hb
   injection hb with hb
   intro e
   have := h7 b e
   omega
 ·intro b hb
  rcases hat with h | h
  ·exact h6 b (by rw [<- h]; exact hb)
  ·rw [h] at hb
   injection hb with hb
   exact .inr (by omega)
theorem lrl_sameM {nxt D : List Lb} {bo bd g b1 n lo B : Nat} {W0 W wq : World} {ds : List Deferred} {pre : List Unit} (u : Unit) (hn : nxt = []) (h : LRlM nxt D bo bd g b1 n W0 lo B ds pre W) (hx : Ext W wq) (hnB : n <= W.heap.size) :
 KeepsFrom B W wq /\ KpP n (fun b => b = bo ∨ b = g) W wq /\ LRlM nxt D bo bd g b1 n W0 lo B ds (pre ++ [u]) wq := by
 refine ⟨hx.keeps.from _, KpP.of_ext hnB hx, ?_⟩
 have e : (pre ++ [u]).flatMap (fun _ => nxt) = pre.flatMap (fun _ => nxt) := by rw [List.flatMap_append, hn]; simp
 unfold LRlM
 rw [e]
 exact h.ext hx
end
end Go.Proofs.YtemkpimngbbpkaaGreat
