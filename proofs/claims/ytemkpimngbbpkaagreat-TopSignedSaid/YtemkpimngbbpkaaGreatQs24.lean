/- TopMirror, the example: the labels. -/
import Derived.Test.YtemkpimngbbpkaaGreatQs23
namespace Go.Proofs.YtemkpimngbbpkaaGreat
set_option linter.unusedVariables false
set_option linter.unusedSimpArgs false
open Go.RowKit Go.Shelf
attribute [local go_sem] Oper.semAt_some
open Go.Sort in
theorem wpIn_region_quiet_below_round {F : Fence} {n : Nat} {P : Program} {Q : Exit -> Act -> World -> Prop} {l0 id : Nat} {a : Act} {w : World} {l : List Oper} (hro : F.round = none) (hm : P.follows .mixedOrders = true) (hB : Region.lexB .any l.toArray = true) (hd : noDefer l = true)
 (h : wpQuietIn F n P l.toArray (fun w' => ∃ p : Regrown, w' = grow (redrawn w p.d) p.os) (fun a' => ∀ w', (∃ p : Regrown, w' = grow (redrawn w p.d) p.os) -> Q .normal a' w') l a) : (Code.region id l.toArray true).wpIn (F.inRound l0) n P Q a w := by
 simp only [Region.lexB, Bool.and_eq_true] at hB
 refine wpIn_region_any hm (wpAnyIn_round l0 hro hd _ _ _ _ (wpAnyIn_of_quiet (C := fun w' => ∃ p : Regrown, w' = grow (redrawn w p.d) p.os) (Q := fun a' => ∀ w', (∃ p : Regrown, w' = grow (redrawn w p.d) p.os) -> Q .normal a' w') hro (fun _ w' hw' h => h w' hw') _ _ _ _ ⟨⟨w.drawn + 1, #[]⟩, by rw [grow_empty]; rfl⟩ ?_))
 have := wpAnyQIn_lex (F := F) (n := n) (C := fun w' => ∃ p : Regrown, w' = grow (redrawn w p.d) p.os) (md := .any) hB.1 l.toArray.toList 0 (Array.replicate l.toArray.size false) a (by simp) (by simpa using hB.2) (by simpa using h)
 simpa using this
set_option maxRecDepth 100000 in
set_option maxHeartbeats 16000000 in
theorem labels_any (Aq : Option Addr) (cq : Nat) (Ac : Option Addr) (cc : Nat) (p : Pln) (q : Req) (base B : Nat) (L : List Lb) (f : Nat -> Nat × Con) (w : World) (h : PlnRd w Aq cq Ac cc p) (hg : GAt Aq cq Ac cc p q base w B) (C : LbCh p q L f) :
 Calls Tryz.prog 123 #[.pointer (some ⟨B, 0, none⟩)] w fun e w' => ∃ u, e = .returned u /\ Owns ELb w' w.heap.size 308 u L /\ Ext w w' := by
 obtain ⟨i0, hi0, hz0, hz1, hz2⟩ := info_parts info_lb
 obtain ⟨W0, hW0, hB0, hk0, hl0⟩ := box1 w #[.pointer (some ⟨B, 0, none⟩)] 224
 obtain ⟨W1, hW1, hB1, hkd, hko, hl1, hl1'⟩ := box2 W0 #[.slice none 0 0] #[.slice none 0 0] 229 229
 have hE1 := hB0.trans hB1
 obtain ⟨Ag, Ar, Ad, cg, cr, cd, LG, LR, kB, hLG, hLR, hDU, e5, e6, e7, e8⟩ := hg.out
 unfold gcells at kB
 have hcm := h.cm
 have hsr := C.src
 obtain ⟨br, or_, rfl, hbr, hcr⟩ := (hLR.ext hE1).sl (k := q.src.toNat) (by omega)
 obtain ⟨e1, hu⟩ := e8 q.src.toNat (by omega)
 rw [e1] at hcr
 generalize LR[q.src.toNat] = y at *
 obtain ⟨bs, os, hya, hbs, hs0, hs1⟩ := (hu.rd.ext hE1).spn (k := 0) (by simp)
 rw [hya] at hcr
 simp only [List.getElem_cons_zero, Nat.zero_mul, Nat.add_zero] at hs0 hs1
 have hLr : q.src < (LR.length : Int) := by omega
 have hLm : LR.length <= 16 := by omega
 have hs00 := hsr.1
 have hr0 := C.rdy.1
 have hr1 := C.rdy.2
 clear e1 e5 e6 e7 e8 hya hu hLG hLR hDU
 have kB1 := kB.ext hE1
 have kg1 := hk0.ext hB1
 have a1 := kB1.cell
 have a2 := kB1.lt
 have a3 := kg1.cell
 have a4 := kg1.lt
 have hN := Near.refl W1
 refine (callsIn_wide (n := 5)).1 ?_
 refine callsIn_of_wp_marks Tryz.func123 rfl trivial ?_ rfl
 refine wpIn_wide.2 ?_
 refine Code.wp_mono NoPanic.imp ?_
 simp only [Tryz.ntmps123, List.size_toArray, List.length_cons, List.length_nil, Nat.reduceAdd, Nat.reduceSub, Array.replicate_succ, Array.replicate_zero, List.push_toArray, List.append_toArray, List.nil_append, List.cons_append]
 go_wp2_with fail
 clear hW0 hW1
 have hq := quiet_near hN
 refine wp_region_quiet_below (by kernel_rfl) (by kernel_rfl) ?_
 repeat (first | go_big_quiet_skip | (go_big_quiet_want; go_big_quiet_op; first | go_big_quiet_on | (apply Exists.intro; refine ⟨fun _ => ?_, ?_⟩; (focus (first | fail)); go_big_quiet_on)))
 refine wpQuiet_nil ?_
 intro w1 hw1
 clear hq
 replace hw1 := quiet_ext hw1
 replace hN := hN.step hw1
 have hC := hN.2
 have hx1 := hN.1
 have hcr1 := hx1.cell_some hcr
 have hs01 := hx1.cell_some hs0
 have hs11 := hx1.cell_some hs1
 have hbs1 := Nat.lt_of_lt_of_le hbs hx1.size
 clear a1 a2 a3 a4 hcr hs0 hs1
 go_wp2_with fail
 go_loopg [21] 2 (fun n v wr => (n = 2 /\ v = .int .i64 0 /\ wr = w1) ∨ (n = 1 /\ v = .int .i64 1 /\ ∃ u, Owns ELb wr W1.heap.size 308 u [⟨q.src, 0, 1099511627776, q.ready⟩] /\ Blk wr (W0.heap.size + 1) 229 #[u] /\ Blk wr W0.heap.size 229 #[.slice none 0 0] /\ Ext W0 wr /\ W1.heap.size <= wr.heap.size))
 case atStart => exact .inl ⟨rfl, rfl, rfl⟩
 case round =>
  rcases hrel with ⟨rfl, rfl, rfl⟩ | ⟨rfl, rfl, u, hu, ko, kd, hx, hws⟩
  ·obtain ⟨W2, hW2, hB2, hk2, hl2⟩ := box1 wr #[.int .i64 0, .int .i64 1099511627776] 190
   have hx2 := hx1.trans hB2
   have kB2 := kB1.ext hx2
   have kg2 := kg1.ext hx2
   have ko2 := hko.ext hx2
   have kd2 := hkd.ext hx2
   have a1 := kB2.cell
   have a2 := kB2.lt
   have a3 := kg2.cell
   have a4 := kg2.lt
   have a5 := hk2.cell
   have a6 := hk2.lt
   clear hN hC
   have hN := Near.refl W2
   have dr0 : decide (0 <= q.ready) = true := decide_eq_true hr0
   have dr1 : decide (q.ready < 1099511627776) = true := decide_eq_true hr1
   go_wp2_with fail
   have hq := quiet_near hN
   refine wp_region_quiet_below (by kernel_rfl) (by kernel_rfl) ?_
   repeat (first | go_big_quiet_skip | (go_big_quiet_want; go_big_quiet_op; first | go_big_quiet_on | (apply Exists.intro; refine ⟨fun _ => ?_, ?_⟩; (focus (first | fail)); go_big_quiet_on)))
   refine wpQuiet_nil ?_
   intro w1 hw1
   clear hq
   replace hw1 := quiet_ext hw1
   replace hN := hN.step hw1
   have hC := hN.2
   have hx3 := hN.1
   have hx13 := hx2.trans hx3
   have kB3 := kB2.ext hx3
   have kg3 := kg2.ext hx3
   have ko3 := ko2.ext hx3
   have kd3 := kd2.ext hx3
   have k23 := hk2.ext hx3
   have a1 := kB3.cell
   have a2 := kB3.lt
   have a3 := kg3.cell
   have a4 := kg3.lt
   have a5 := k23.cell
   have a6 := k23.lt
   have a7 := ko3.cell
   have a8 := ko3.lt
   have a9 := ko3.frozen
   have hszw := hx13.size
   have hszv := hE1.size
   have hszu := hx2.size
   have hsz0 := hB0.size
   have hkbl := kB.lt
   have n1 : B ≠ W0.heap.size + 1 := by omega
   have n2 : w.heap.size ≠ W0.heap.size + 1 := by omega
   have n3 : wr.heap.size ≠ W0.heap.size + 1 := by have := hx1.size; omega
   clear hN hC
   go_wp2_with fail
   have hS0 : Ext w1 w1.drew /\ ∀ b o, b < w1.heap.size -> w1.drew.cell? ⟨b, o, none⟩ = w1.cell? ⟨b, o, none⟩ := ⟨(Ext.refl w1).drew, fun _ _ _ => rfl⟩
   refine wp_region_P (fun k => decide (18 <= k)) (fun w' => Ext w1 w' /\ ∀ b o, b < w1.heap.size -> w'.cell? ⟨b, o, none⟩ = w1.cell? ⟨b, o, none⟩) (by kernel_rfl) hS0 (fun _ => ?_)
   refine pK 0 (v := ?_) rfl (fun _ _ _ h => h) (by rfl) ?_ (by assumption) ?_
   rotate_left
   ·intro w' hw'
    (try have hC := hw'.2)
    (try have hC9 := hw'.1)
    go_simp
    first | done | with_reducible rfl
   try simp only [Act.put, sp1]
   refine pK 1 (v := ?_) rfl (fun _ _ _ h => h) (by rfl) ?_ (by assumption) ?_
   rotate_left
   ·intro w' hw'
    (try have hC := hw'.2)
    (try have hC9 := hw'.1)
    go_simp
    first | done | with_reducible rfl
   try simp only [Act.put, sp1]
   refine pK 2 (v := ?_) rfl (fun _ _ _ h => h) (by rfl) ?_ (by assumption) ?_
   rotate_left
   ·intro w' hw'
    (try have hC := hw'.2)
    (try have hC9 := hw'.1)
    go_simp
    first | done | with_reducible rfl
   try simp only [Act.put, sp1]
   refine pK 3 (v := ?_) rfl (fun _ _ _ h => h) (by rfl) ?_ (by assumption) ?_
   rotate_left
   ·intro w' hw'
    (try have hC := hw'.2)
    (try have hC9 := hw'.1)
    go_simp
    first | done | with_reducible rfl
   try simp only [Act.put, sp1]
   refine pK 4 (v := ?_) rfl (fun _ _ _ h => h) (by rfl) ?_ (by assumption) ?_
   rotate_left
   ·intro w' hw'
    (try have hC := hw'.2)
    (try have hC9 := hw'.1)
    go_simp
    first | done | with_reducible rfl
   try simp only [Act.put, sp1]
   refine pK 5 (v := ?_) rfl (fun _ _ _ h => h) (by rfl) ?_ (by assumption) ?_
   rotate_left
   ·intro w' hw'
    (try have hC := hw'.2)
    (try have hC9 := hw'.1)
    go_simp
    first | done | with_reducible rfl
   try simp only [Act.put, sp1]
   refine pK 6 (v := ?_) rfl (fun _ _ _ h => h) (by rfl) ?_ (by assumption) ?_
   rotate_left
   ·intro w' hw'
    (try have hC := hw'.2)
    (try have hC9 := hw'.1)
    go_simp
    first | done | with_reducible rfl
   try simp only [Act.put, sp1]
   refine pK 7 (v := ?_) rfl (fun _ _ _ h => h) (by rfl) ?_ (by assumption) ?_
   rotate_left
   ·intro w' hw'
    (try have hC := hw'.2)
    (try have hC9 := hw'.1)
    go_simp
    first | done | with_reducible rfl
   try simp only [Act.put, sp1]
   refine pK 8 (v := ?_) rfl (fun _ _ _ h => h) (by rfl) ?_ (by assumption) ?_
   rotate_left
   ·intro w' hw'
    (try have hC := hw'.2)
    (try have hC9 := hw'.1)
    go_simp
    first | done | with_reducible rfl
   try simp only [Act.put, sp1]
   refine pK 9 (v := ?_) rfl (fun _ _ _ h => h) (by rfl) ?_ (by assumption) ?_
   rotate_left
   ·intro w' hw'
    (try have hC := hw'.2)
    (try have hC9 := hw'.1)
    go_simp
    first | done | with_reducible rfl
   try simp only [Act.put, sp1]
   refine pK 10 (v := ?_) rfl (fun _ _ _ h => h) (by rfl) ?_ (by assumption) ?_
   rotate_left
   ·intro w' hw'
    (try have hC := hw'.2)
    (try have hC9 := hw'.1)
    go_simp
    first | done | with_reducible rfl
   try simp only [Act.put, sp1]
   refine pK 11 (v := ?_) rfl (fun _ _ _ h => h) (by rfl) ?_ (by assumption) ?_
   rotate_left
   ·intro w' hw'
    (try have hC := hw'.2)
    (try have hC9 := hw'.1)
    go_simp
    first | done | with_reducible rfl
   try simp only [Act.put, sp1]
   refine pK 12 (v := ?_) rfl (fun _ _ _ h => h) (by rfl) ?_ (by assumption) ?_
   rotate_left
   ·intro w' hw'
    (try have hC := hw'.2)
    (try have hC9 := hw'.1)
    go_simp
    first | done | with_reducible rfl
   try simp only [Act.put, sp1]
   refine pK 13 (v := ?_) rfl (fun _ _ _ h => h) (by rfl) ?_ (by assumption) ?_
   rotate_left
   ·intro w' hw'
    (try have hC := hw'.2)
    (try have hC9 := hw'.1)
    go_simp
    first | done | with_reducible rfl
   try simp only [Act.put, sp1]
   refine pK 14 (v := ?_) rfl (fun _ _ _ h => h) (by rfl) ?_ (by assumption) ?_
   rotate_left
   ·intro w' hw'
    (try have hC := hw'.2)
    (try have hC9 := hw'.1)
    go_simp
    first | done | with_reducible rfl
   try simp only [Act.put, sp1]
   refine pK 15 (v := ?_) rfl (fun _ _ _ h => h) (by rfl) ?_ (by assumption) ?_
   rotate_left
   ·intro w' hw'
    (try have hC := hw'.2)
    (try have hC9 := hw'.1)
    go_simp
    first | done | with_reducible rfl
   try simp only [Act.put, sp1]
   have hn1 := Near.of ((Ext.refl w1).drew.alloc (.cells #[.int .i64 q.src, .int .i64 0, .int .i64 1099511627776, .int .i64 q.ready] 308))
   refine pO 16 rfl (fun K hK => ?_)
   go_simp
   refine hK.out _ _ (fun _ _ => ⟨hn1.1, hn1.2⟩) ?_
   clear hK K
   refine pO 17 rfl (fun K hK => ?_)
   refine step_push (by rfl) (.tmp 43) (.tmp 59) _ (by rfl) W1.heap.size 308 i0 _ 32 Tryz.underlying229 hi0 hz0 hz1 hz2 (by rfl) (.slice none 0 0) (by rfl) (Owns.none_ (E := ELb) W1.heap.size 308) w1.heap.size (⟨q.src, 0, 1099511627776, q.ready⟩ : Lb) (by rfl) (Blk.new w1.drew _ _) (by simp [maxLen]) (by simp) (by simp; omega) ?_
   intro v6 w6 hv6 hg6 hat6
   have hx6 : Ext w1 w6 := ext_grown hn1.1 (Owns.none_ (E := ELb) w1.heap.size 308) (Nat.le_refl _) hg6
   have kb6 := ko3.ext hx6
   have kd6 := kd3.ext hx6
   have x1 := kb6.lt
   have x2 := kb6.frozen
   have x3 := kb6.cell
   obtain ⟨A6, d6, rfl, hR6⟩ := hv6.form
   simp only [List.length_append, List.length_cons, List.length_nil, Nat.zero_add] at hv6 ⊢
   refine hK.out _ _ (fun _ _ => ⟨(Near.of hx6).1, (Near.of hx6).2⟩) ?_
   clear hK K
   refine pO 18 rfl (fun K hK => ?_)
   go_simp
   refine hK.out _ _ (fun h => absurd h (by decide)) ?_
   clear hK K
   refine wpAnyP_done (by kernel_rfl) ?_ _
   go_wp2
   go_roundg 1
   case measure => omega
   case rel => exact .inr ⟨rfl, by go_num, .slice A6 1 d6, hv6.kept (grown_setCell (World.grownBy.refl w6 (some (W0.heap.size + 1))) 0 _) (fun g hg e => by injection e with e; have := (hv6.block hg).1; omega), kb6.set0 _, kd6.far (by simp) _, ((hB1.trans hx13).trans hx6).setCell (by show W0.heap.size <= W0.heap.size + 1; omega) _, by have := hx6.size; simp [World.setCell]; omega⟩
  ·have hEx := hB0.trans hx
   clear hN hC hcr1 hs01 hs11 hbs1 hx1
   go_wp2_with fail
   refine wp_loop_ghost_k (fun k a wr => ∃ (v7 v62 v63 v64 v65 v66 v67 v68 v69 v70 v71 v72 v73 v74 v75 v76 : Value) (ds : List Deferred) (j : Nat) (uo ud : Value), (j + k = L.length /\ Owns ELb wr W1.heap.size 308 uo ((L.drop j).take 1) /\ Owns ELb wr W1.heap.size 308 ud (L.take j) /\ (∀ b, uo.ownBlock = some b -> ud.ownBlock ≠ some b) /\ Blk wr (W0.heap.size + 1) 229 #[uo] /\ Blk wr W0.heap.size 229 #[ud] /\ Ext W0 wr /\ W1.heap.size <= wr.heap.size /\ DSx wr.heap.size W1.heap.size ds wr) /\
    a = { tmps := #[.pointer (some ⟨B, 0, none⟩), .pointer (some ⟨w.heap.size, 0, none⟩), .slice none 0 0, .pointer (some ⟨W0.heap.size, 0, none⟩), .pointer (some ⟨W0.heap.size + 1, 0, none⟩), undef, u6, v7, undef, .pointer (some ⟨B, 0, none⟩), .pointer (some ⟨B, 0, none⟩), .pointer (some ⟨B, 12, none⟩), .slice (some ⟨br, or_, none⟩) LR.length cr, .pointer (some ⟨B, 0, none⟩), .pointer (some ⟨B, 0, none⟩), .pointer (some ⟨B, 4, none⟩), .pointer (some ⟨B, 4, none⟩), .int .i64 q.src, .pointer (some ⟨br, or_ + q.src.toNat, none⟩), .slice (some ⟨bs, os, none⟩) 1 y.c, .int .i64 1, .int .i64 1, .bool false, u23, u24, u25, u26, u27, u28, u29, u30, u31, u32, u33, u34, u35, u36, u37, u38, u39, u40, u41, u42, u43, u44, u45, u46, u47, u48, u49, u50, u51, u52, u53, u54, u55, u56, u57, u58, u59, u60, u61, v62, v63, v64, v65, v66, v67, v68, v69, v70, v71, v72, v73, v74, v75, v76, undef, undef, undef, undef, undef, undef, undef, undef, undef, undef, undef, undef, undef, undef, undef, undef, undef, undef, undef, undef, undef, undef, undef, undef], defers := ds }) L.length ?_ ?_
   ·exact ⟨_, _, _, _, _, _, _, _, _, _, _, _, _, _, _, _, [], 0, u, .slice none 0 0, ⟨by omega, by rw [opL_lt (by have := C.len; omega), C.fst (by have := C.len; omega)]; exact hu, Owns.none_ _ _, (fun b _ e => by cases e), ko, kd, hx, hws, DSx.nil _ _ _⟩, rfl⟩
   ·intro gk _ wr hinv
    obtain ⟨v7, v62, v63, v64, v65, v66, v67, v68, v69, v70, v71, v72, v73, v74, v75, v76, ds, j, uo, ud, ⟨hjk, ho, hd, hdis, ko, kd, hE, hws, hds⟩, ha⟩ := hinv
    subst ha
    intro _ _ _ _
    have Hjk := Lib.hid hjk
    have hjL : j <= L.length := by omega
    clear hjk
    have hsz0 := hB0.size
    have hsz1 := hE1.size
    have hl1q := hl1'
    by_cases hlt : j < L.length
    ·rw [opL_lt hlt] at ho
     have HD := Lib.hid (C.mv j hlt)
     have Hnx := Lib.hid (fun h => C.next j h)
     have Hla := Lib.hid (C.last j)
     have Htk := Lib.hid (take_snoc hlt rfl)
     have HL12 := Lib.hid C.len
     generalize hxj : L[j] = x at *
     have Hxj := Lib.hid hxj
     clear hxj
     rcases ho.2 with ⟨_, h2⟩ | ⟨g, co, cur, h1, hgb, _⟩
     ·simp at h2
     subst h1
     simp only [List.length_cons, List.length_nil, Nat.zero_add] at ho ko hdis
     obtain ⟨Ad, cd, rfl, hRd⟩ := hd.form
     have hdl : (L.take j).length = j := by rw [List.length_take]; omega
     rw [hdl] at hd kd hdis
     have Hdl := Lib.hid hdl
     clear hdl
     have hgw := (ho.block (g := g) rfl).2
     have hmn := min1_any (some ⟨g, 0, none⟩) co x (.func (.func 200) #[] #[]) wr ho.rd
     have a1 := ko.cell
     have a2 := ko.lt
     go_wp2_with fail
     clear a1 a2
     refine hmn.mono ?_
     clear hmn
     rintro e w2 ⟨rfl, hb2⟩
     obtain ⟨W3, hW3, hB3, hk3, hl3⟩ := box1 w2 #[.int .i64 x.node, .int .i64 x.fr, .int .i64 x.til, .int .i64 x.tm] 308
     have hx3 := hb2.trans hB3
     have hs3 := hx3.size
     have ko3 := ko.ext hx3
     have kd3 := kd.ext hx3
     have ho3 := ho.ext hx3
     have hd3 := hd.ext hx3
     have hdel := del1_any g co w2.heap.size x W1.heap.size W3 ho3 hk3
     have a1 := ko3.cell
     have a2 := ko3.lt
     go_wp2_with fail
     clear a1 a2 hW3
     refine hdel.mono ?_
     clear hdel
     rintro e w4 ⟨rfl, ho4, w3', vs, hb4, hw4⟩
     have K4 : KpX W3.heap.size g W3 w4 := by rw [hw4]; exact (KpX.of_ext (Nat.le_refl _) hb4).trans (kpx_setCells vs _ 0)
     have Q4 : KeepsOthers W3 w4 := by rw [hw4]; exact hb4.keeps.trans (keeps_setCells vs _ _ 0)
     clear hw4 hb4
     have hs4 := K4.size
     have hEg := hE.trans hx3
     have hE4 : Ext W0 w4 := K4.ext hEg hEg.size (by omega)
     have ko4 := K4.blk ko3 (by have := ko3.lt; omega) (by omega)
     have kd4 := K4.blk kd3 (by have := kd3.lt; omega) (by omega)
     have kx4 := K4.blk hk3 (by omega) (by have := hb2.size; omega)
     have hd4 := hd3.kpx K4 (fun b hb => ⟨by have := (hd.block hb).2; omega, fun e => hdis g rfl (by rw [<- e]; exact hb)⟩)
     have a1 := ko4.lt
     have a2 := ko4.frozen
     have a3 := ko4.cell
     obtain ⟨W5, hW5⟩ : ∃ W5, w4.setCell ⟨W0.heap.size + 1, 0, none⟩ (.slice (some ⟨g, 0, none⟩) 0 co) = W5 := ⟨_, rfl⟩
     have hs5 : W5.heap.size = w4.heap.size := by rw [<- hW5]; simp [World.setCell]
     have Q5 : KeepsOthers wr W5 := by rw [<- hW5]; exact (hx3.keeps.trans Q4).trans (KeepsOthers.setCell _ _ _)
     have ko5 : Blk W5 (W0.heap.size + 1) 229 #[.slice (some ⟨g, 0, none⟩) 0 co] := by rw [<- hW5]; exact ko4.set0 _
     have kd5 : Blk W5 W0.heap.size 229 #[.slice Ad j cd] := by rw [<- hW5]; exact kd4.far (by simp) _
     have kx5 : Blk W5 w2.heap.size 308 #[.int .i64 x.node, .int .i64 x.fr, .int .i64 x.til, .int .i64 x.tm] := by rw [<- hW5]; exact kx4.far (by have := hb2.size; simp; omega) _
     have ho5 : Owns ELb W5 W1.heap.size 308 (.slice (some ⟨g, 0, none⟩) 0 co) [] := by rw [<- hW5]; exact ho4.setZ ko4 (by decide) 0 _
     have hd5 : Owns ELb W5 W1.heap.size 308 (.slice Ad j cd) (L.take j) := by rw [<- hW5]; exact hd4.setZ ko4 (by decide) 0 _
     have hE5 : Ext W0 W5 := by rw [<- hW5]; exact hE4.setCell (by show W0.heap.size <= W0.heap.size + 1; omega) _
     have hds5 := hds.keeps Q5
     have hdg : ∀ b, (Value.slice Ad j cd).ownBlock = some b -> b ≠ g := fun b hb e => hdis g rfl (by rw [<- e]; exact hb)
     have hdx : ∀ b, (Value.slice Ad j cd).ownBlock = some b -> b ≠ w2.heap.size := fun b hb e => by have := (hd.block hb).2; have := hb2.size; omega
     have b1 := kd5.cell
     have b2 := kd5.lt
     have b3 := kx5.cell
     have b4 := kx5.lt
     have hs5' : w4.heap.size <= W5.heap.size := by omega
     have hbs5 : W1.heap.size <= W5.heap.size := by omega
     clear hs5 Q4
     have hho := fun w => moves_any B x w
     go_wp2_with (at_builtin; refine wpList_push rfl (.tmp 70) (.tmp 72) _ (by rfl) W1.heap.size 308 i0 _ 32 Tryz.underlying229 hi0 hz0 hz1 hz2 (by rfl) (.slice Ad j cd) (by rfl) (hd5.ext ((Ext.refl _).alloc _)) W5.heap.size x (by rfl) (Blk.new W5 _ _) (by have := Hdl.out; have := HL12.out; simp only [maxLen]; omega) (by have := Hdl.out; have := HL12.out; omega) (Nat.le_trans hbs5 ((Ext.refl W5).alloc _).size) ?_; intro v6 w6 hv6 hg6 hat6; obtain ⟨A6, d6, W7, rfl, hW7, kd6, kd7, ko7, kx7, ho7, hd7, hE7, hs7, Q7, hdg7⟩ := lab_put ((Ext.refl W5).alloc _) (alloc_ltL _ _) kd5 ko5 kx5 ho5 hd5 Hdl.out hdg hdx hE5 rfl (by omega) hv6 hg6 hat6; have x1 := kd6.lt; have x2 := kd6.frozen; have x3 := kd6.cell; have kg7 := hk0.ext hE7; have y1 := kg7.cell; have y2 := kg7.lt; have y3 := kx7.cell; have y4 := kx7.lt)
     refine (hho _).mono ?_
     clear hho
     rintro e w8 ⟨rfl, hb8, hs8, z1, z2⟩
     have hE8 := hE7.trans hb8
     have hEw8 := hB0.trans hE8
     go_wp2_with fail
     have hn8 : w.heap.size <= w8.heap.size := hEw8.size
     have hb8s := hb8.size
     have hgb' := hgb
     obtain ⟨nx, hnx⟩ : ∃ nx, (L.drop (j + 1)).take 1 = nx := ⟨_, rfl⟩
     have Hnxd := Lib.hid hnx
     clear hnx
     refine (wpIn_wide (n := 5)).1 ?_
     refine wpIn_rangeFunc_ownH rfl (by omega) (gf := 263) (lb := #[.pointer (some ⟨W7.heap.size, 0, none⟩), .pointer (some ⟨W7.heap.size + 1, 0, none⟩)]) rfl trivial (enters_of Tryz.func263 (by kernel_rfl) rfl)
      (moves_stops W7.heap.size (W7.heap.size + 1) w8.heap.size (fun b => b = W0.heap.size + 1 ∨ b = g) Aq cq Ac cc p q base B x (f j).1 (f j).2 w w8 h hg HD.out hEw8 (fun k hk => by omega) z1 z2 hn8 (Nat.le_refl _) ⟨by omega, by omega⟩ ⟨by omega, by omega⟩)
      KpP.trans (fun W l o o' hl _ _ _ => KpP.put W l o' hl) (Below.refl _ _) (fun _ => rfl)
      (LRlM nx (L.take (j + 1)) (W0.heap.size + 1) W0.heap.size g W1.heap.size w8.heap.size W0 W1.heap.size w8.heap.size ds) (fun _ _ _ => False) (lrl_ownM (by omega)) (fun _ _ _ _ _ hs _ _ => hs)
      ⟨.slice (some ⟨g, 0, none⟩) 0 co, .slice A6 (j + 1) d6, ho7.ext hb8, ko7.ext hb8, kd7.ext hb8, (by rw [Htk.out]; exact hd7.ext hb8), (fun b hb e => (hdg7 b e).1 (by injection hb with hb; exact hb.symm)), (fun b hb => .inl (by injection hb with hb; exact hb.symm)), (fun b hb => by have := (hdg7 b hb).2; omega), hE8, ((hds5.keeps Q7).ext hb8).more (by omega), Nat.le_refl _⟩
      (fun _ a' W => ∃ Bx, w8.heap.size <= Bx /\ Blk W Bx 313 #[.int .i64 (f j).2.dst, .int .i64 0, .int .i64 1099511627776, .int .i64 (max (f j).2.st x.tm + (f j).2.dur q.size + (f j).2.rng), .int .i64 (f j).1, .int .i64 (max (f j).2.st x.tm), .int .i64 (max (f j).2.st x.tm + (f j).2.dur q.size), .int .i64 (max (f j).2.st x.tm + (f j).2.dur q.size + (f j).2.rng)] /\ a' = { tmps := #[.pointer (some ⟨B, 0, none⟩), .pointer (some ⟨w.heap.size, 0, none⟩), .slice none 0 0, .pointer (some ⟨W0.heap.size, 0, none⟩), .pointer (some ⟨W0.heap.size + 1, 0, none⟩), undef, u6, .pointer (some ⟨w2.heap.size, 0, none⟩), .pointer (some ⟨Bx, 0, none⟩), .pointer (some ⟨B, 0, none⟩), .pointer (some ⟨B, 0, none⟩), .pointer (some ⟨B, 12, none⟩), .slice (some ⟨br, or_, none⟩) LR.length cr, .pointer (some ⟨B, 0, none⟩), .pointer (some ⟨B, 0, none⟩), .pointer (some ⟨B, 4, none⟩), .pointer (some ⟨B, 4, none⟩), .int .i64 q.src, .pointer (some ⟨br, or_ + q.src.toNat, none⟩), .slice (some ⟨bs, os, none⟩) 1 y.c, .int .i64 1, .int .i64 1, .bool false, u23, u24, u25, u26, u27, u28, u29, u30, u31, u32, u33, u34, u35, u36, u37, u38, u39, u40, u41, u42, u43, u44, u45, u46, u47, u48, u49, u50, u51, u52, u53, u54, u55, u56, u57, u58, u59, u60, u61, .slice (some ⟨g, 0, none⟩) 1 co, .int .i64 1, .bool true, .slice (some ⟨g, 0, none⟩) 1 co, .agg #[.int .i64 x.node, .int .i64 x.fr, .int .i64 x.til, .int .i64 x.tm], .slice (some ⟨g, 0, none⟩) 1 co, .func (.func 202) #[] #[.pointer (some ⟨w2.heap.size, 0, none⟩)], .slice (some ⟨g, 0, none⟩) 0 co, .slice Ad j cd, .agg #[.int .i64 x.node, .int .i64 x.fr, .int .i64 x.til, .int .i64 x.tm], .slice (some ⟨W5.heap.size, 0, none⟩) 1 1, .slice A6 (j + 1) d6, .pointer (some ⟨B, 0, none⟩), .agg #[.int .i64 x.node, .int .i64 x.fr, .int .i64 x.til, .int .i64 x.tm], .func (.func 263) #[] #[.pointer (some ⟨W7.heap.size, 0, none⟩), .pointer (some ⟨W7.heap.size + 1, 0, none⟩)], .agg #[.int .i64 (f j).2.dst, .int .i64 0, .int .i64 1099511627776, .int .i64 (max (f j).2.st x.tm + (f j).2.dur q.size + (f j).2.rng), .int .i64 (f j).1, .int .i64 (max (f j).2.st x.tm), .int .i64 (max (f j).2.st x.tm + (f j).2.dur q.size), .int .i64 (max (f j).2.st x.tm + (f j).2.dur q.size + (f j).2.rng)], undef, undef, undef, undef, undef, undef, undef, undef, undef, undef, undef, undef, undef, undef, undef, undef, undef, undef, undef, undef, undef, undef, undef], defers := [] })
      (fun _ a' s X Y row hs hg hr => by obtain ⟨Bx, z1, z2, z3⟩ := hs; exact ⟨Bx, z1, z2.keptc hg (fun r e => (hr r e).2), z3⟩) ?assign ?body ?done ?stop
     case assign =>
      rintro li pre y W K hi hK
      have hBW : w8.heap.size <= W.heap.size := by obtain ⟨_, _, _, _, _, _, _, _, _, _, _, h⟩ := hi; exact h
      simp only [mvX]
      gi_wp2
      exact hK _ _ ((KeepsOthers.alloc _ _).from _) (KpP.of_ext hBW ((Ext.refl W).alloc _)) (hi.ext ((Ext.refl W).alloc _)) ⟨W.heap.size, hBW, Blk.new _ _ _, rfl⟩
     case body =>
      rintro li pre y a' W hl ⟨rr, hrr⟩ hLR ⟨Bx, b1, kx, rfl⟩ hlen
      have HLR := Lib.hid hLR
      obtain ⟨uo, ud, q1, q2, q3, q4, q5, q6, q7, q8, q9, q10⟩ := hLR
      obtain ⟨Ag, Ar, Ad, cg, cr, cd, LG, LR, k0, _⟩ := (hg.ext (hB0.trans q8)).out
      unfold gcells at k0
      have hkp := hk0.ext q8
      have hfn : ∀ k, Fence.wide.fn k := fun _ => trivial
      have hmix : Tryz.prog.follows .mixedOrders = true := by kernel_rfl
      have l1 := hkp.cell
      have l2 := hkp.lt
      have l3 := kx.cell
      have l4 := kx.lt
      have l5 := k0.cell
      have l6 := k0.lt
      by_cases e1 : (f j).2.dst = q.dst
      case' pos =>
       have d1 : ((f j).2.dst == q.dst) = true := by simpa using e1
       have hnxn : nx = [] := by rw [<- Hnxd.out]; exact opL_ge (fun h => (Hnx.out h).1 e1)
       have Hn := Lib.hid hnxn
       rw [e1] at kx l3
       clear hnxn e1
       gi_wp2
       refine wpIn_region_quiet_round rfl (by kernel_rfl) (by kernel_rfl) (by kernel_rfl) ?_
       repeat (gi_big_quiet_step (fail))
       refine wpQuietIn_nil ?_
       intro wq hwq
       replace hwq := quiet_drew hwq
       have FIN := Lib.hid (lrl_sameM y Hn.out HLR.out hwq q10)
       clear l1 l2 l3 l4 l5 l6
       gi_wp2
       exact FIN.out
      have hbne : ((f j).2.dst != q.dst) = true := by simpa using e1
      have d1 : ((f j).2.dst == q.dst) = false := by simpa using e1
      have hj1 : j + 1 < L.length := by
       rcases Nat.lt_or_ge (j + 1) L.length with h | h
       ·exact h
       ·exact absurd (Hla.out (by omega)) e1
      have hnx3 := Hnx.out hj1
      rw [Hxj.out] at hnx3
      have hnxn : nx = [mvL q x (f j).2] := by rw [<- Hnxd.out, opL_lt hj1, hnx3.2.1]
      have hfl : (pre.flatMap (fun _ => nx)).length <= 65 := by
       rw [hnxn, flat_one]
       omega
      have Hn := Lib.hid hnxn
      have Hfl := Lib.hid hfl
      obtain ⟨Au, cu, rfl, hRu⟩ := q4.form
      obtain ⟨Ao, cp, rfl, hRo⟩ := q1.form
      have hlt1 : (L.take (j + 1)).length = j + 1 := by rw [List.length_take]; omega
      obtain ⟨m, hm⟩ : ∃ m, (pre.flatMap (fun _ => nx)).length = m := ⟨_, rfl⟩
      rw [hm] at q1 q2 q5 q6 hfl
      rw [hlt1] at q3 q4 q5 q7
      have Hm := Lib.hid hm
      clear hm
      have hcQ : ∀ n d os, CallsIn Fence.wide n Tryz.prog 204 #[.slice Au (j + 1) cu, .func (.func 205) #[] #[.pointer (some ⟨Bx, 0, none⟩)]] (Sort.grow (redrawn W d) os) (fun e w1 => e = .returned (.bool false) /\ Ext (Sort.grow (redrawn W d) os) w1) :=
       fun n d os => by
        have h0 := cnt2_none Au cu Bx (mvL q x (f j).2) _ _ _ _ (L.take (j + 1)) (Sort.grow (redrawn W d) os) (hRu.ext (below_regrown W d os)) (by have := HL12.out; omega) (kx.ext (below_regrown W d os)) (fun k hk => by have h3 := hnx3.2.2 k (by omega) (by omega); rw [hnx3.2.1] at h3; rw [List.getElem_take]; exact h3)
        rw [hlt1] at h0
        exact callsIn_wide.2 h0
      have hq3 := q3.cell
      have hq3l := q3.lt
      have Hnx3 := Lib.hid hnx3
      clear e1 hnx3 hnxn hfl hlt1
      gi_wp2
      have hq := quiet_near (Near.refl W)
      refine wpIn_region_quiet_below_round rfl (by kernel_rfl) (by kernel_rfl) (by kernel_rfl) ?_
      repeat (gi_big_quiet_step ((gi_at_call 204; exact CallsIn.regrown_of (hcQ _ _ _))))
      refine wpQuietIn_nil ?_
      intro wq hwq
      clear hq
      replace hwq := quiet_ext hwq
      have kxq := kx.ext hwq
      have koq := q2.ext hwq
      have l3 := kxq.cell
      have l4 := kxq.lt
      have m4 := koq.cell
      have m5 := koq.lt
      have hqs := hwq.size
      gi_wp2_with (gi_at_builtin; refine wpListIn_pushL rfl (.tmp 93) (.tmp 96) _ (by rfl) W1.heap.size 308 i0 _ 32 Tryz.underlying229 hi0 hz0 hz1 hz2 (by rfl) (.slice Ao m cp) (by rfl) ((q1.ext hwq).ext ((Ext.refl _).alloc _)) wq.heap.size (mvL q x (f j).2) (by rfl) (Blk.new wq _ _) (by have := Hm.out; have := Hfl.out; simp only [maxLen]; omega) (by have := Hm.out; have := Hfl.out; omega) (by simp; omega) ?_; intro v6 w6 hv6 hg6 hat6; have PUT := lrl_putM (wq := wq.alloc (.cells (ELb.cells (mvL q x (f j).2)).toArray 308)) y Hn.out q1 q2 q3 q4 q5 q6 q7 q8 q9 q10 (hwq.trans ((Ext.refl _).alloc _)) (by omega) (by omega) (by omega) (Nat.le_refl _) hv6 hg6 hat6; obtain ⟨A7, d7, rfl, hR7⟩ := hv6.form; have m1 := PUT.1.cell; have m2 := PUT.1.lt; have m3 := PUT.1.frozen; simp only [List.length_append, List.length_cons, List.length_nil, Nat.zero_add, Hm.out] at hv6 PUT ⊢; have FIN := Lib.hid PUT.2; clear PUT)
      exact FIN.out
     case done =>
      rintro D ys W hDD hS ⟨uo, ud, q1, q2, q3, q4, q5, q6, q7, q8, q9, q10⟩ hK
      subst hS
      have e : [()].flatMap (fun _ => nx) = (L.drop (j + 1)).take 1 := by rw [Hnxd.out]; simp
      rw [e] at q1
      have hd2 := q9.cons hDD (by omega) hK
      clear hK
      go_wp2_with fail
      go_roundg (gk - 1)
      case measure => have := Hjk.out; omega
      case rel => exact ⟨by have := Hjk.out; show j + 1 + (gk - 1) = L.length; omega, q1, q4, q5, q2, q3, q8, by omega, hd2⟩
     case stop =>
      rintro D c pre W _ _ h _
      exact h.elim
    ·obtain rfl : j = L.length := by omega
     rw [List.take_length] at hd
     obtain ⟨Ad, cd, rfl, hRd⟩ := hd.form
     rw [opL_ge (by omega)] at ho
     obtain ⟨Ao, co, rfl, _⟩ := ho.form
     simp only [List.length_nil] at ko
     have hso := fun w hR => lsort_any Ad cd L w hR C.len C.ord
     have l1 := ko.cell
     have l2 := ko.lt
     have l3 := kd.cell
     have l4 := kd.lt
     go_wp2_with fail
     refine (hso _ hRd).mono ?_
     clear hso
     rintro e w9 ⟨rfl, hb9⟩
     have kd9 := kd.ext hb9
     have l5 := kd9.cell
     have l6 := kd9.lt
     go_wp2
     show LeavesInM _ _ _ _ _ _ ds .returning _
     refine (hds.ext hb9).leaves ?_
     intro w' hw'
     have hfin := hw' (fun W => Owns ELb W w.heap.size 308 (.slice Ad L.length cd) L /\ Ext w W) (fun s X Y row hs hg hr => ⟨hs.1.keptc hg (fun r e => (hr r e).2), hs.2.keptb hg (fun r e => by have := (hr r e).1; omega)⟩) ⟨(hd.ext hb9).mono (by omega), (hB0.trans hE).trans hb9⟩
     exact ⟨_, results_tmp1z rfl _ _ _, .slice Ad L.length cd, rfl, hfin⟩
end Go.Proofs.YtemkpimngbbpkaaGreat
