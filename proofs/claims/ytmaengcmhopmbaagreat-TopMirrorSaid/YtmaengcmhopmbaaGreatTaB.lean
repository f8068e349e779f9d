/- TopMirror, the example: free intervals, of storage where there are no holds. -/
import Derived.Test.YtmaengcmhopmbaaGreatTaSA
import Derived.Deep.AppendLies
import Derived.Deep.RegionHeld3
import Derived.Laws.EntriesVeiled
import Derived.BigQuiet
namespace Go.Proofs.YtmaengcmhopmbaaGreat
set_option linter.unusedVariables false
set_option linter.unusedSimpArgs false
open Go.RowKit Go.Shelf
attribute [local go_sem] Oper.semAt_some

set_option maxRecDepth 100000 in
set_option maxHeartbeats 4000000 in
theorem sEnd_any (T : Int) (ga go base : Nat) (w : World) (hb : base ≤ w.heap.size) (ka : Blk w ga 3 #[.int .i64 0]) (ko : Blk w go 175 #[.slice none 0 0]) (hga : ga < base) (hgo : go < base) (hne : ga ≠ go) (hT : 0 < T) :
    Calls Tryz.prog 133 #[.int .i64 T, .pointer (some ⟨ga, 0, none⟩), .pointer (some ⟨go, 0, none⟩)] w fun e w' => (∃ r, e = .returned r) ∧ ∃ u, Owns ESpn w' base 180 u [⟨0, T⟩] ∧ Blk w' go 175 #[u] ∧ KpY base ga go w w' := by
  obtain ⟨i0, hi0, hz0, hz1, hz2⟩ := info_parts info_spn
  have c1 := ka.cell
  have c2 := ka.lt
  have c3 := ko.cell
  have c4 := ko.lt
  have dT : decide (0 < T) = true := decide_eq_true hT
  clear hT
  go_enter Tryz.func133, Tryz.ntmps133
  go_wp2_with (at_builtin; refine wpList_push rfl (.tmp 11) (.tmp 15) _ (by rfl) base 180 i0 _ 16 Tryz.underlying175 hi0 hz0 hz1 hz2 (by rfl) (.slice none 0 0) (by rfl) (Owns.none_ (E := ESpn) base 180) w.heap.size (⟨0, T⟩ : Spn) (by rfl) (Blk.new w _ _) (by simp [maxLen]) (by simp) (by simp; omega) ?_; intro v6 w6 hv6 hg6 hat6; have hK6 : KpX base go w w6 := KpX.trans (KpX.of_ext hb ((Ext.refl w).alloc _)) (KpX.grown (by simp; omega) hg6 (fun r e => by cases e)); have ko6 := Blk.kept (ko.ext ((Ext.refl _).alloc _)) hg6 (fun e' => by cases e'); have ka6 := Blk.kept (ka.ext ((Ext.refl _).alloc _)) hg6 (fun e' => by cases e'); have x1 := ko6.lt; have x2 := ko6.frozen; have x3 := ka6.lt; have x4 := ka6.frozen; have x5 := ko6.cell; have x6 := ka6.cell; obtain ⟨A6, d6, rfl, hR6⟩ := hv6.form; simp only [List.length_append, List.length_cons, List.length_nil, Nat.zero_add] at hv6 ⊢)
  go_end0
  refine ⟨⟨_, rfl⟩, .slice A6 1 d6, ?_, ?_, ?_⟩
  · exact (hv6.kept (grown_setCell (World.grownBy.refl w6 (some go)) 0 _) (fun g hg e => by injection e with e; have := (hv6.block hg).1; omega)).kept (grown_setCell (World.grownBy.refl _ (some ga)) 0 _) (fun g hg e => by injection e with e; have := (hv6.block hg).1; omega)
  · exact (ko6.set0 _).far (p := ⟨ga, 0, none⟩) (fun e => hne e.symm) _
  · exact (((KpY.refl base ga go w).kpx hK6).setB 0 _).setA 0 _

set_option maxRecDepth 100000 in
set_option maxHeartbeats 4000000 in
theorem sAt_any (gp gn gs ge ga : Nat) (Aq : Option Addr) (cq : Nat) (Ac : Option Addr) (cc : Nat) (p : Pln) (n size : Int) (w : World) (h : PlnRd w Aq cq Ac cc p) (kp : Blk w gp 25 #[.slice Aq p.quo.length cq, .slice Ac p.cons.length cc]) (kn : Blk w gn 3 #[.int .i64 n]) (ks : Blk w gs 3 #[.int .i64 size]) (ka : Blk w ga 3 #[.int .i64 (-1)])
    (hn : 0 ≤ n ∧ n < p.quo.length) (hq : 0 ≤ size ∧ size ≤ gi p.quo n ∧ gi p.quo n ≤ 1099511627776) :
    Calls Tryz.prog 134 #[.int .i64 0, .int .i64 0, .pointer (some ⟨gp, 0, none⟩), .pointer (some ⟨gn, 0, none⟩), .pointer (some ⟨gs, 0, none⟩), .pointer (some ⟨ge, 0, none⟩), .pointer (some ⟨ga, 0, none⟩)] w fun e w' => (∃ r, e = .returned r) ∧ Blk w' ga 3 #[.int .i64 0] ∧ KpX w.heap.size ga w w' := by
  obtain ⟨b, o, rfl, hb0, _⟩ := h.q.int (k := 0) (by omega)
  obtain ⟨hc, hb⟩ := h.q.gi (i := n) (by omega)
  have c1 := kp.cell
  have c2 := kn.cell
  have c3 := ks.cell
  have c4 := ka.cell
  have l1 := kp.lt
  have l2 := kn.lt
  have l3 := ks.lt
  have l4 := ka.lt
  have hqm := h.qm
  have dq : decide (gi p.quo n < size) = false := decide_eq_false (by omega)
  have hN := Near.refl w
  generalize gi p.quo n = x at *
  go_enter Tryz.func134, Tryz.ntmps134
  go_wp2_with fail
  have hq := quiet_near hN
  refine wp_region_quiet_below (by kernel_rfl) (by kernel_rfl) ?_
  repeat (first | go_big_quiet_skip | (go_big_quiet_want; go_big_quiet_op; first | go_big_quiet_on | (apply Exists.intro; refine ⟨fun _ => ?_, ?_⟩; (focus (first | fail)); go_big_quiet_on)))
  refine wpQuiet_nil ?_
  intro w1 hw1
  clear hq
  replace hw1 := quiet_ext hw1
  replace hN := hN.step hw1
  have hC := hN.2
  have ka2 := ka.ext hN.1
  have y1 := ka2.lt
  have y2 := ka2.frozen
  have y3 := ka2.cell
  go_wp2
  go_end0
  exact ⟨⟨_, rfl⟩, ka2.set0 _, (KpX.of_ext (Nat.le_refl _) hN.1).trans (KpX.setCell _ _ _)⟩

set_option maxRecDepth 100000 in
set_option maxHeartbeats 8000000 in
theorem sFree_nil (Aq : Option Addr) (cq : Nat) (Ac : Option Addr) (cc : Nat) (p : Pln) (n size : Int) (w : World) (h : PlnRd w Aq cq Ac cc p) (h0 : p.chk = 0) (hn : 0 ≤ n ∧ n < p.quo.length) (hs : 1 ≤ size ∧ size ≤ 65536) (hq : size ≤ gi p.quo n ∧ gi p.quo n ≤ 1099511627776) :
    Calls Tryz.prog 102 #[p.val Aq cq Ac cc, .slice none 0 0, .int .i64 n, .int .i64 size] w fun e w' => ∃ u, e = .returned (.tuple #[u, .int .i64 0]) ∧ Owns ESpn w' w.heap.size 180 u [⟨0, 1099511627776⟩] ∧ Ext w w' := by
  obtain ⟨W1, hW1, hB1, hk1, hlt1⟩ := box1 w #[.slice Aq p.quo.length cq, .slice Ac p.cons.length cc] 25
  obtain ⟨W2, hW2, hB2, hk2, hlt2⟩ := box1 W1 #[.int .i64 n] 3
  obtain ⟨W3, hW3, hB3, hk3, hlt3⟩ := box1 W2 #[.int .i64 size] 3
  have hE3 := (hB1.trans hB2).trans hB3
  have k1 := (hk1.ext hB2).ext hB3
  have k2 := hk2.ext hB3
  have hsc := sCheck_nil Aq cq Ac cc p W3 (h.ext hE3) h0
  have hlv := levels_nil n
  have c1 := k1.cell
  have hqm := h.qm
  have d1 : decide (n < 0) = false := decide_eq_false (by omega)
  have d2 : decide ((p.quo.length : Int) ≤ n) = false := decide_eq_false (by omega)
  have d3 : decide (size < 1) = false := decide_eq_false (by omega)
  have d4 : decide (65536 < size) = false := decide_eq_false (by omega)
  unfold Pln.val at hsc ⊢
  go_enter Tryz.func102, Tryz.ntmps102
  go_wp2_with fail
  clear hW1 hW2 hW3
  refine hsc.mono ?_
  clear hsc
  rintro e w4 ⟨rfl, hb4⟩
  have k14 := k1.ext hb4
  have k24 := k2.ext hb4
  have k34 := hk3.ext hb4
  have y1 := k14.cell
  have y2 := k24.cell
  have y3 := k34.cell
  have y4 := k14.lt
  have y5 := k24.lt
  have y6 := k34.lt
  obtain ⟨W5, hW5, hB5, hk5, hlt5⟩ := box1 w4 #[.slice none 0 0] 175
  obtain ⟨W6, hW6, hB6, hk6, hlt6⟩ := box1 W5 #[.int .i64 (-1)] 3
  obtain ⟨W7, hW7, hB7, hk7, hlt7⟩ := box1 W6 #[.func (.func 133) #[] #[.pointer (some ⟨W5.heap.size, 0, none⟩), .pointer (some ⟨w4.heap.size, 0, none⟩)]] 168
  have hE7 := (hB5.trans hB6).trans hB7
  have hE47 := (hE3.trans hb4).trans hE7
  have hat := sAt_any w.heap.size W1.heap.size W2.heap.size W6.heap.size W5.heap.size Aq cq Ac cc p n size W7 (h.ext hE47) (k14.ext hE7) (k24.ext hE7) (k34.ext hE7) (hk6.ext hB7) hn ⟨by omega, hq⟩
  go_wp2_with fail
  clear hW5 hW6 hW7 c1 y1 y2 y3 y4 y5 y6
  refine hat.mono ?_
  clear hat
  rintro e w8 ⟨⟨r, rfl⟩, ka8, hK8⟩
  have k28 := hK8.blk (k24.ext hE7) (by have := (k24.ext hE7).lt; omega) (by have := k24.lt; have := hB5.size; omega)
  have ko8 := hK8.blk ((hk5.ext hB6).ext hB7) (by have := ((hk5.ext hB6).ext hB7).lt; omega) (by omega)
  have ke8 := hK8.blk hk7 (by omega) (by omega)
  have hs8 := hK8.size
  have z1 := k28.cell
  have z2 := k28.lt
  go_wp2_with fail
  clear z1 z2
  refine (hlv _).mono ?_
  rintro e w9 ⟨rfl, hb9⟩
  have hs9 := hb9.size
  have ke9 := ke8.ext hb9
  have ko9 := ko8.ext hb9
  have z1 := ke9.cell
  have z2 := ke9.lt
  have hen := sEnd_any 1099511627776 W5.heap.size w4.heap.size w9.heap.size w9 (Nat.le_refl _) (ka8.ext hb9) ko9 (by have := (ka8.ext hb9).lt; omega) ko9.lt (by omega) (by omega)
  go_wp2_with fail
  go_loopg [45] 0 (fun q k wr => k = .int .i64 0 ∧ wr = w9)
  case atStart => exact ⟨rfl, rfl⟩
  case round =>
    obtain ⟨rfl, rfl⟩ := hrel
    go_wp2_with fail
    refine hen.mono ?_
    clear hen
    rintro e w10 ⟨⟨r, rfl⟩, u, hu, ko10, hK10⟩
    have x1 := ko10.cell
    have x2 := ko10.lt
    go_wp2_with fail
    go_ret2
    have hsz4 : w.heap.size ≤ w4.heap.size := by have := hE3.size; have := hb4.size; omega
    have hsz7 := hE7.size
    have hExt : Ext w wr := (hK8.ext hE47 (by omega) (by omega)).trans hb9
    exact ⟨_, rfl, hu.mono hExt.size, hK10.out hExt hExt.size (by omega) (by omega)⟩

set_option maxRecDepth 100000 in
set_option maxHeartbeats 8000000 in
theorem bFree_nil (Aq : Option Addr) (cq : Nat) (Ac : Option Addr) (cc : Nat) (p : Pln) (i : Int) (w : World) (h : PlnRd w Aq cq Ac cc p) (h0 : p.chk = 0) (hi : 0 ≤ i ∧ i < p.cons.length) (hse : (gc p.cons i).st < (gc p.cons i).en) :
    Calls Tryz.prog 101 #[p.val Aq cq Ac cc, .slice none 0 0, .int .i64 i] w fun e w' => ∃ u, e = .returned (.tuple #[u, .int .i64 0]) ∧ Owns ESpn w' w.heap.size 180 u [⟨(gc p.cons i).st, (gc p.cons i).en⟩] ∧ Ext w w' := by
  obtain ⟨W1, hW1, hB1, hk1, hlt1⟩ := box1 w #[.slice Aq p.quo.length cq, .slice Ac p.cons.length cc] 25
  have hbc := bcheck_any Aq cq Ac cc p none 0 [] i W1 (h.ext hB1) Rd.nil (by simp)
  have hb0 : p.bkE [] i = 0 := by
    unfold Pln.bkE
    rw [if_pos (by unfold Pln.bkChk; rw [if_pos h0]; rfl), if_neg (by omega)]
  rw [hb0] at hbc
  have hfr := fun w h => free_any Aq cq Ac cc p none 0 [] i (gc p.cons i).st w h Rd.nil (by simp) hi
  have hfl : freeL (gc p.cons i) [] i (gc p.cons i).st = [⟨(gc p.cons i).st, (gc p.cons i).en⟩] := by
    show addS (max (gc p.cons i).st (gc p.cons i).st) (gc p.cons i).en [] = _
    rw [Int.max_self]
    unfold addS
    rw [if_pos hse]
    rfl
  rw [hfl] at hfr
  obtain ⟨b, o, rfl, hb, j0, j1, j2, j3, j4, j5, j6⟩ := ((h.c).ext hB1).con (show i.toNat < p.cons.length by omega)
  have Hgc := Lib.hid (gc_get (show i.toNat < p.cons.length by omega))
  rw [Hgc.out] at hfr ⊢
  generalize p.cons[i.toNat] = c at *
  have c1 := hk1.cell
  have hcm := h.cm
  have hrd := h.ext hB1
  clear h0 hb0 hfl hse
  simp only [List.length_nil] at hbc hfr
  unfold Pln.val at hbc hfr ⊢
  go_enter Tryz.func101, Tryz.ntmps101
  go_wp2_with fail
  clear hW1
  refine hbc.mono ?_
  clear hbc
  rintro e w4 ⟨rfl, hb4⟩
  have k4 := hk1.ext hb4
  have y1 := k4.cell
  have y2 := k4.lt
  have y3 := hb4.cell_some j2
  have y4 := Nat.lt_of_lt_of_le hb hb4.size
  have hN := Near.refl w4
  have hrd4 := hrd.ext hb4
  have hE4 := hB1.trans hb4
  have hs4 := hE4.size
  go_wp2_with fail
  go_cut [6, 7] from 9 to 25 (fun u z wx => z = .int .i64 0 ∧ Owns ESpn wx w.heap.size 180 u [⟨c.st, c.en⟩] ∧ Ext w4 wx)
  case first =>
    go_region_held3 (fun w' => Ext w4 w' ∧ ∀ b o, b < w4.heap.size → w'.cell? ⟨b, o, none⟩ = w4.cell? ⟨b, o, none⟩) (first | exact hN.drew | exact Near.step (by assumption) hb9 | assumption)
      (first | (go_at_call 132; refine (hfr _ (hrd4.ext (And.left (by assumption)))).mono ?_; rintro e w9 ⟨u, rfl, hu9, hb9⟩; have hx9 : Ext w4 w9 := Ext.trans (And.left (by assumption)) hb9; replace hu9 := hu9.mono (Nat.le_trans hs4 (Ext.size (And.left (by assumption))))))
    all_goals
      try go_wp2_with fail
      go_meet
      exact ⟨rfl, hu9, hx9⟩
  case rest =>
    obtain ⟨rfl, hu, hx⟩ := hcut
    go_wp2
    go_ret2
    exact ⟨_, rfl, hu, hE4.trans hx⟩

end Go.Proofs.YtmaengcmhopmbaaGreat
