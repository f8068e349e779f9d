/- Update: the orders as slices.SortFunc asks for them (draws never fall back). · Update: slices.Clone at changes; the name of a contact. · Update: slices.Grow of nothing and slices.Concat of two, at changes. -/
import Derived.Shelf.SlSortCmp.InsertionK
import Derived.Lib.AppendZerosOnto
import Derived.Test.YtemkpimngbbpkaaGreatQc20
import Derived.Test.YtemkpimngbbpkaaGreatQc26
namespace Go.Proofs.YtemkpimngbbpkaaGreat
set_option linter.unusedVariables false
set_option linter.unusedSimpArgs false
open Go.RowKit Go.Shelf Go.Sort
attribute [local go_sem] Oper.semAt_some
def NearD (W w' : World) : Prop := Ext W w' /\ (W.drawn <= w'.drawn /\ ∀ b o, b < W.heap.size -> w'.cell? ⟨b, o, none⟩ = W.cell? ⟨b, o, none⟩)
theorem NearD.of {W w' : World} (h : Ext W w') (hd : W.drawn <= w'.drawn) : NearD W w' := ⟨h, hd, fun b o hb => h.cell (p := ⟨b, o, none⟩) hb⟩
theorem NearD.refl (W : World) : NearD W W := .of (Ext.refl _) (Nat.le_refl _)
theorem NearD.drew {W w1 : World} (h : NearD W w1) : NearD W w1.drew := .of h.1.drew (Nat.le_succ_of_le h.2.1)
theorem neard_alloc {W w1 : World} (h : NearD W w1) (o : Obj) : NearD W (w1.alloc o) := .of (h.1.alloc o) h.2.1
theorem Ext.drewn {w w' : World} (h : Ext w w') (hd : w.drawn <= w'.drawn) : ∃ q os, w' = grow (w.drewN q) os := by
 obtain ⟨⟨d, os⟩, hp⟩ := regrown_of_below h
 subst hp
 obtain ⟨q, rfl⟩ : ∃ q, d = w.drawn + q := ⟨d - w.drawn, by have : w.drawn <= d := hd; omega⟩
 exact ⟨q, os, rfl⟩
theorem lays_of {α : Type} [Inhabited α] {P : Program} {g : Nat} {enc : α -> List Value} {k : Nat} {cf : α -> α -> Int}
 (h : ∀ x y w, Calls P g #[.agg (enc x).toArray, .agg (enc y).toArray] w fun e w' => e = .returned (.int .i64 (cf x y)) /\ Ext w w' /\ w.drawn <= w'.drawn) (blk off size : Nat) (w : World) : CmpLays P g #[] enc k cf blk off size w :=
 fun _ _ _ _ x y => (h x y _).mono fun _ _ ⟨he, hx, hd⟩ => ⟨he, hx.drewn hd⟩
theorem rd_newD3 (W : World) (t : TypeId) (a b c : Int) : Rd EInt (W.alloc (.cells #[.int .i64 a, .int .i64 b, .int .i64 c] t)).drew (some ⟨W.heap.size, 0, none⟩) [a, b, c] := rd_blk3 (t := t) (show Blk (W.alloc (.cells #[.int .i64 a, .int .i64 b, .int .i64 c] t)).drew W.heap.size t #[.int .i64 a, .int .i64 b, .int .i64 c] from Blk.new W t _)
set_option maxRecDepth 100000 in
set_option maxHeartbeats 4000000 in
theorem byOrgD_any (x y : Chg) (w : World) :
 Calls Tryz.prog 61 #[.agg x.arr, .agg y.arr] w fun e w' => e = .returned (.int .i64 (orgC x y)) /\ Ext w w' /\ w.drawn <= w'.drawn := by
 obtain ⟨W, hW, hB, hk, hk2, hlt, hlt2⟩ := box2 w #[.int .i64 x.org, .int .i64 x.cnt, .int .i64 x.stp, .int .i64 x.kind, .int .i64 x.con.src, .int .i64 x.con.dst, .int .i64 x.con.st, .int .i64 x.con.en, .int .i64 x.con.rate, .int .i64 x.con.rng, .int .i64 x.con.loss] #[.int .i64 y.org, .int .i64 y.cnt, .int .i64 y.stp, .int .i64 y.kind, .int .i64 y.con.src, .int .i64 y.con.dst, .int .i64 y.con.st, .int .i64 y.con.en, .int .i64 y.con.rate, .int .i64 y.con.rng, .int .i64 y.con.loss] 63 63
 have hc := hk.cell
 have hc2 := hk2.cell
 have hD : w.drawn <= W.drawn := by rw [<- hW]; exact Nat.le_refl _
 unfold Chg.arr
 go_enter Tryz.func61, Tryz.ntmps61
 go_wp2_with fail
 clear hW
 have hN := NearD.refl W
 go_region_held3 (fun w' => Ext W w' /\ (W.drawn <= w'.drawn /\ ∀ b o, b < W.heap.size -> w'.cell? ⟨b, o, none⟩ = W.cell? ⟨b, o, none⟩)) (first | exact hN.drew | exact neard_alloc (by assumption) _ | assumption)
  (first | (go_at_call 68; refine (cmp_any _ _ _).mono ?_; rintro e w1 ⟨rfl, rfl⟩) | (go_at_call 67; refine (or_any _ 2 [cmpI x.org y.org, cmpI x.cnt y.cnt] _ (by first | exact rd_blk2 (Blk.new _ _ _) | exact rd_new2 _ _ _ _) (by simp)).mono ?_; rintro e w1 ⟨rfl, rfl⟩))
 all_goals
  clear hN
  go_wp2
  go_ret
  exact ⟨rfl, hB.trans (And.left ‹Ext W _ /\ _›), Nat.le_trans hD (And.left (And.right ‹Ext W _ /\ _›))⟩
set_option maxRecDepth 100000 in
set_option maxHeartbeats 4000000 in
theorem newerD_any (x y : Chg) (w : World) :
 Calls Tryz.prog 147 #[.agg x.arr, .agg y.arr] w fun e w' => e = .returned (.int .i64 (newC x y)) /\ Ext w w' /\ w.drawn <= w'.drawn := by
 obtain ⟨W, hW, hB, hk, hk2, hlt, hlt2⟩ := box2 w #[.int .i64 x.org, .int .i64 x.cnt, .int .i64 x.stp, .int .i64 x.kind, .int .i64 x.con.src, .int .i64 x.con.dst, .int .i64 x.con.st, .int .i64 x.con.en, .int .i64 x.con.rate, .int .i64 x.con.rng, .int .i64 x.con.loss] #[.int .i64 y.org, .int .i64 y.cnt, .int .i64 y.stp, .int .i64 y.kind, .int .i64 y.con.src, .int .i64 y.con.dst, .int .i64 y.con.st, .int .i64 y.con.en, .int .i64 y.con.rate, .int .i64 y.con.rng, .int .i64 y.con.loss] 63 63
 have hc := hk.cell
 have hc2 := hk2.cell
 have hD : w.drawn <= W.drawn := by rw [<- hW]; exact Nat.le_refl _
 unfold Chg.arr
 go_enter Tryz.func147, Tryz.ntmps147
 go_wp2_with fail
 clear hW
 have hN := NearD.refl W
 go_region_held3 (fun w' => Ext W w' /\ (W.drawn <= w'.drawn /\ ∀ b o, b < W.heap.size -> w'.cell? ⟨b, o, none⟩ = W.cell? ⟨b, o, none⟩)) (first | exact hN.drew | exact neard_alloc (by assumption) _ | assumption)
  (first | (go_at_call 68; refine (cmp_any _ _ _).mono ?_; rintro e w1 ⟨rfl, rfl⟩) | (go_at_call 67; refine (or_any _ 2 [cmpI y.stp x.stp, cmpI y.org x.org] _ (by first | exact rd_blk2 (Blk.new _ _ _) | exact rd_new2 _ _ _ _) (by simp)).mono ?_; rintro e w1 ⟨rfl, rfl⟩))
 all_goals
  clear hN
  go_wp2
  go_ret
  exact ⟨rfl, hB.trans (And.left ‹Ext W _ /\ _›), Nat.le_trans hD (And.left (And.right ‹Ext W _ /\ _›))⟩
def conC (x y : Con) : Int := orL [cmpI x.src y.src, cmpI x.dst y.dst, cmpI x.st y.st]
set_option maxRecDepth 100000 in
set_option maxHeartbeats 4000000 in
theorem conOrd_any (x y : Con) (w : World) :
 Calls Tryz.prog 66 #[.agg #[.int .i64 x.src, .int .i64 x.dst, .int .i64 x.st, .int .i64 x.en, .int .i64 x.rate, .int .i64 x.rng, .int .i64 x.loss], .agg #[.int .i64 y.src, .int .i64 y.dst, .int .i64 y.st, .int .i64 y.en, .int .i64 y.rate, .int .i64 y.rng, .int .i64 y.loss]] w fun e w' => e = .returned (.int .i64 (conC x y)) /\ Ext w w' /\ w.drawn <= w'.drawn := by
 obtain ⟨W, hW, hB, hk, hk2, hlt, hlt2⟩ := box2 w #[.int .i64 x.src, .int .i64 x.dst, .int .i64 x.st, .int .i64 x.en, .int .i64 x.rate, .int .i64 x.rng, .int .i64 x.loss] #[.int .i64 y.src, .int .i64 y.dst, .int .i64 y.st, .int .i64 y.en, .int .i64 y.rate, .int .i64 y.rng, .int .i64 y.loss] 61 61
 have hc := hk.cell
 have hc2 := hk2.cell
 have hD : w.drawn <= W.drawn := by rw [<- hW]; exact Nat.le_refl _
 go_enter Tryz.func66, Tryz.ntmps66
 go_wp2_with fail
 clear hW
 have hN := NearD.refl W
 go_region_held3 (fun w' => Ext W w' /\ (W.drawn <= w'.drawn /\ ∀ b o, b < W.heap.size -> w'.cell? ⟨b, o, none⟩ = W.cell? ⟨b, o, none⟩)) (first | exact hN.drew | exact neard_alloc (by assumption) _ | assumption)
  (first | (go_at_call 68; refine (cmp_any _ _ _).mono ?_; rintro e w1 ⟨rfl, rfl⟩) | (go_at_call 67; refine (or_any _ 3 [cmpI x.src y.src, cmpI x.dst y.dst, cmpI x.st y.st] _ (by first | exact rd_blk3 (Blk.new _ _ _) | exact rd_newD3 _ _ _ _ _) (by simp)).mono ?_; rintro e w1 ⟨rfl, rfl⟩))
 all_goals
  clear hN
  go_wp2
  go_ret
  exact ⟨rfl, hB.trans (And.left ‹Ext W _ /\ _›), Nat.le_trans hD (And.left (And.right ‹Ext W _ /\ _›))⟩
end Go.Proofs.YtemkpimngbbpkaaGreat
namespace Go.Proofs.YtemkpimngbbpkaaGreat
set_option linter.unusedVariables false
set_option linter.unusedSimpArgs false
open Go.RowKit Go.Shelf Go.Sort
attribute [local go_sem] Oper.semAt_some
theorem info_chg : (Tryz.prog.info? 63).map (fun i => (i.zero, i.size, i.bytes)) = some (some (.agg #[.int .i64 0, .int .i64 0, .int .i64 0, .int .i64 0, .int .i64 0, .int .i64 0, .int .i64 0, .int .i64 0, .int .i64 0, .int .i64 0, .int .i64 0]), 11, 88) := by kernel_rfl
set_option maxHeartbeats 1000000 in
theorem cloneChg_any (A : Option Addr) (c : Nat) (l : List Chg) (w : World) (hA : Rd EChg w A l) (hmax : l.length <= 1000000) :
 Calls Tryz.prog 194 #[.slice A l.length c] w fun e w' => ∃ v, e = .returned v /\ Owns EChg w' w.heap.size 63 v l /\ Ext w w' := by
 obtain ⟨i0, hi0, hz0, hz1, hz2⟩ := info_parts info_chg
 have q22 : ∀ (w : World) (a : Option Addr) (n c n' c' : Nat), (binOp .eql 54 (.slice a n c) (.slice none n' c')).run Tryz.prog w = .ok (.bool a.isNone) w := fun w a n c n' c' => Lib.run_eql_slice_nil w _ _ a n c n' c' Tryz.underlying54
 cases A with
 | none =>
   have hl : l = [] := by
    cases l with
    | nil => rfl
    | cons x l => obtain ⟨b, o, h, _⟩ := hA.at (k := 0) (by simp); cases h
   subst hl
   go_enter Tryz.func194, Tryz.ntmps194
   go_wp2
   go_ret
   exact ⟨_, rfl, Owns.none_ _ _, Ext.refl _⟩
 | some a =>
   go_enter Tryz.func194, Tryz.ntmps194
   go_wp2_with (at_builtin; refine wpList_cat rfl (.tmp 5) (.tmp 6) _ rfl w.heap.size 63 i0 _ 88 Tryz.underlying54 hi0 hz0 hz1 hz2 rfl (.slice (some ⟨w.heap.size, 0, none⟩) 0 0) rfl (Owns.made w w.heap.size _ (Nat.le_refl _)) c _ rfl rfl (hA.ext ((Ext.refl _).alloc _)) (by simp [maxLen]; omega) (by simp; omega) (by simp) ?_; intro v6 w6 hv6 hg6 hat6)
   go_ret
   exact ⟨_, rfl, hv6, ext_grown ((Ext.refl w).alloc _) (Owns.made (E := EChg) w w.heap.size _ (Nat.le_refl _)) (Nat.le_refl _) hg6⟩
set_option maxHeartbeats 1000000 in
theorem nameOf_any (x : Con) (w : World) :
 Calls Tryz.prog 141 #[.agg #[.int .i64 x.src, .int .i64 x.dst, .int .i64 x.st, .int .i64 x.en, .int .i64 x.rate, .int .i64 x.rng, .int .i64 x.loss]] w fun e w' => e = .returned (.agg #[.int .i64 x.src, .int .i64 x.dst, .int .i64 x.st]) /\ Ext w w' := by
 obtain ⟨W, hW, hB, hk, hk2, hlt, hlt2⟩ := box2 w #[.int .i64 x.src, .int .i64 x.dst, .int .i64 x.st, .int .i64 x.en, .int .i64 x.rate, .int .i64 x.rng, .int .i64 x.loss] #[.int .i64 0, .int .i64 0, .int .i64 0] 61 244
 have hc := hk.cell
 have hc2 := hk2.cell
 have hf2 := hk2.frozen
 go_enter Tryz.func141, Tryz.ntmps141
 go_wp2
 clear hW
 obtain ⟨w7, hw7, hz7, hE7⟩ : ∃ w7, W.setCells (w.heap.size + 1) 0 [.int .i64 x.src, .int .i64 x.dst, .int .i64 x.st] = w7 /\ Blk w7 (w.heap.size + 1) 244 #[.int .i64 x.src, .int .i64 x.dst, .int .i64 x.st] /\ Ext w w7 :=
  ⟨_, rfl, hk2.setCells_ [.int .i64 x.src, .int .i64 x.dst, .int .i64 x.st] 0, ext_setCells hB (Nat.le_succ _) 0 _⟩
 simp only [World.setCells, Nat.zero_add, Nat.reduceAdd] at hw7
 rw [hw7]
 have hc7 := hz7.cell
 refine bodyPost_ret (v := .agg #[.int .i64 x.src, .int .i64 x.dst, .int .i64 x.st]) (by rw [results_cellu rfl]; simp [asAddr, Result.andThen, hc7, go_sem]) rfl ?_
 exact ⟨rfl, hE7⟩
end Go.Proofs.YtemkpimngbbpkaaGreat
namespace Go.Proofs.YtemkpimngbbpkaaGreat
set_option linter.unusedVariables false
set_option linter.unusedSimpArgs false
open Go.RowKit Go.Shelf
attribute [local go_sem] Oper.semAt_some
set_option maxRecDepth 100000 in
set_option maxHeartbeats 4000000 in
theorem growChg_any (k : Nat) (w : World) (hk : k <= 100000) :
 Calls Tryz.prog 144 #[.slice none 0 0, .int .i64 k] w fun e w' => ∃ A c, e = .returned (.slice A 0 c) /\ Owns EChg w' w.heap.size 63 (.slice A 0 c) [] /\ Ext w w' := by
 obtain ⟨i0, hi0, hz0, hz1, hz2⟩ := info_parts info_chg
 rcases Nat.eq_zero_or_pos k with h0 | h0
 ·subst h0
  go_enter Tryz.func144, Tryz.ntmps144
  go_wp2
  go_ret
  exact ⟨none, 0, rfl, Owns.none_ _ _, Ext.refl _⟩
 ·have hold : (Builtin.firstCells i0.size 0 (.slice none 0 0)).run Tryz.prog w.drew = .ok ([] : List Value).toArray w.drew := run_firstCells_none w.drew i0.size 0 0 0
  have hn : Builtin.nextslicecap (0 + k) 0 <= 2 * (0 + k) := nextslicecap_le (by omega)
  have hrz : ∀ ty, (Builtin.append_ #[54, 3] ty #[.slice none 0 0, .int .i64 k]).run Tryz.prog w = _ := fun ty =>
   Lib.run_append_grow_zeros w 54 3 ty 63 i0 _ .i64 .i64 Tryz.underlying54 Tryz.underlying3 hi0 hz0 none 0 0 [] hold k h0 (by omega) (by omega) (by omega)
    (by rw [hz2]; omega) (by rw [hz2]; omega)
  have hG1 := grownCap_ge w (0 + k) 0 63
  have hG2 := grownCap_le_maxLen w (0 + k) 0 63 (by unfold maxLen; omega)
  obtain ⟨G, hG⟩ : ∃ G, grownCap w (0 + k) 0 63 = G := ⟨_, rfl⟩
  rw [hG] at hrz hG1 hG2
  obtain ⟨cur, hcur⟩ : ∃ cur, (([] : List Value).toArray ++ Builtin.zeroCells (Value.agg #[.int .i64 0, .int .i64 0, .int .i64 0, .int .i64 0, .int .i64 0, .int .i64 0, .int .i64 0, .int .i64 0, .int .i64 0, .int .i64 0, .int .i64 0]).cells k ++ Builtin.zeroCells (Value.agg #[.int .i64 0, .int .i64 0, .int .i64 0, .int .i64 0, .int .i64 0, .int .i64 0, .int .i64 0, .int .i64 0, .int .i64 0, .int .i64 0, .int .i64 0]).cells (G - (0 + k))) = cur := ⟨_, rfl⟩
  have hcs : cur.size = G * 11 := by
   rw [<- hcur]
   simp [Builtin.zeroCells, Value.cells]
   omega
  rw [hcur] at hrz
  obtain ⟨W1, hW1⟩ : ∃ W1, w.drew.alloc (.cells cur 63) = W1 := ⟨_, rfl⟩
  have ho : Owns EChg W1 w.heap.size 63 (.slice (some ⟨w.heap.size, 0, none⟩) 0 G) [] := by
   rw [<- hW1]
   exact World.ownsRow_made w.drew cur G (Nat.le_refl _) hG2 hcs
  have hB : Ext w W1 := by rw [<- hW1]; exact (Ext.refl w).drew.alloc _
  rw [hW1] at hrz
  have hGm : G <= 9223372036854775807 := by unfold maxLen at hG2; omega
  clear hold hn hG hcur hcs hW1 hG2
  go_enter Tryz.func144, Tryz.ntmps144
  go_wp2_with (at_builtin; refine Lib.wpList_append_run _ rfl _ _ _ _ rfl _ _ rfl rfl _ _ (hrz _) ?_)
  all_goals (go_ret; exact ⟨_, _, rfl, ho, hB⟩)
set_option maxRecDepth 100000 in
set_option maxHeartbeats 8000000 in
theorem concatChg_any (A : Option Addr) (c : Nat) (l : List Chg) (B : Option Addr) (d : Nat) (m : List Chg) (g : Nat) (w : World) (hA : Rd EChg w A l) (hB : Rd EChg w B m) (hg : Blk w g 54 #[.slice A l.length c, .slice B m.length d]) (hl : l.length <= 1000) (hm : m.length <= 1000) :
 Calls Tryz.prog 59 #[.slice (some ⟨g, 0, none⟩) 2 2] w fun e w' => ∃ u, e = .returned u /\ Owns EChg w' w.heap.size 63 u (l ++ m) /\ Ext w w' := by
 obtain ⟨i0, hi0, hz0, hz1, hz2⟩ := info_parts info_chg
 have c0 := hg.cell 0
 have c1 := hg.cell 1
 have c2 := hg.lt
 simp only [List.getElem?_toArray, List.getElem?_cons_zero, List.getElem?_cons_succ] at c0 c1
 go_enter Tryz.func59, Tryz.ntmps59
 go_wp2_with fail
 go_loopg [3, 11] 2 (fun n v3 v11 wr => wr = w /\ ((n = 2 /\ v3 = .int .i64 0 /\ v11 = .int .i64 0) ∨ (n = 1 /\ v3 = .int .i64 l.length /\ v11 = .int .i64 1) ∨ (n = 0 /\ v3 = .int .i64 ((l.length : Int) + m.length) /\ v11 = .int .i64 2)))
 case atStart => exact ⟨rfl, .inl ⟨rfl, rfl, rfl⟩⟩
 case round =>
  obtain ⟨rfl, ⟨hn, rfl, rfl⟩ | ⟨hn, rfl, rfl⟩ | ⟨hn, rfl, rfl⟩⟩ := hrel
  ·go_wp2
   go_roundg 1
   case measure => omega
   case rel => exact ⟨rfl, .inr (.inl ⟨rfl, by go_num, by go_num⟩)⟩
  ·go_wp2
   go_roundg 0
   case measure => omega
   case rel => exact ⟨rfl, .inr (.inr ⟨rfl, by go_num, by go_num⟩)⟩
  ·have hg2 := growChg_any (l.length + m.length) wr (by omega)
   rw [Int.natCast_add] at hg2
   go_wp2_with fail
   refine Calls.mono hg2 ?_
   clear hg2
   rintro e w2 ⟨A2, d2, rfl, ho2, hb2⟩
   have hg3 := hg.ext hb2
   obtain ⟨wo, rfl⟩ : ∃ wo, wo = wr := ⟨_, rfl⟩
   obtain ⟨gk0, rfl⟩ : ∃ gk0, gk0 = gk := ⟨_, rfl⟩
   have hzz := hb2.size
   clear c0 c1 c2
   go_wp2_with fail
   go_loopg [6, 27] 2 (fun n v6 v27 wq => Ext wo wq /\ ((n = 2 /\ Owns EChg wq wo.heap.size 63 v6 [] /\ v27 = .int .i64 0) ∨ (n = 1 /\ Owns EChg wq wo.heap.size 63 v6 l /\ v27 = .int .i64 1) ∨ (n = 0 /\ Owns EChg wq wo.heap.size 63 v6 (l ++ m) /\ v27 = .int .i64 2)))
   case atStart => exact ⟨hb2, .inl ⟨rfl, ho2, rfl⟩⟩
   case round =>
    obtain ⟨hE, ⟨hn, ho, rfl⟩ | ⟨hn, ho, rfl⟩ | ⟨hn, ho, rfl⟩⟩ := hrel
    ·have e0 := (hg.ext hE).cell 0
     have e1 := (hg.ext hE).lt
     simp only [List.getElem?_toArray, List.getElem?_cons_zero, List.getElem?_cons_succ] at e0
     have y1 := hE.size
     go_wp2_with (at_builtin; refine wpList_cat rfl (.tmp 31) (.tmp 32) _ (by rfl) wo.heap.size 63 i0 _ 88 Tryz.underlying54 hi0 hz0 hz1 hz2 (by rfl) u6 (by rfl) ho c _ (by rfl) rfl (hA.ext hE) (by first | (simp only [maxLen]; omega) | (simp [maxLen]; omega)) (by first | omega | (simp; omega)) (by omega) ?_; intro v9 w9 hv9 hg9 hat9)
     have hx9 : Ext wo w9 := ext_grown hE ho (Nat.le_refl _) hg9
     go_roundg 1
     case measure => omega
     case rel => exact ⟨hx9,  .inr (.inl ⟨rfl, hv9, by go_num⟩)⟩
    ·have e0 := (hg.ext hE).cell 1
     have e1 := (hg.ext hE).lt
     simp only [List.getElem?_toArray, List.getElem?_cons_zero, List.getElem?_cons_succ] at e0
     have y1 := hE.size
     go_wp2_with (at_builtin; refine wpList_cat rfl (.tmp 31) (.tmp 32) _ (by rfl) wo.heap.size 63 i0 _ 88 Tryz.underlying54 hi0 hz0 hz1 hz2 (by rfl) u6 (by rfl) ho d _ (by rfl) rfl (hB.ext hE) (by first | (simp only [maxLen]; omega) | (simp [maxLen]; omega)) (by first | omega | (simp; omega)) (by omega) ?_; intro v9 w9 hv9 hg9 hat9)
     have hx9 : Ext wo w9 := ext_grown hE ho (Nat.le_refl _) hg9
     go_roundg 0
     case measure => omega
     case rel => exact ⟨hx9, .inr (.inr ⟨rfl, hv9, by go_num⟩)⟩
    ·go_wp2
     go_ret
     exact ⟨_, rfl, ho, hE⟩
end Go.Proofs.YtemkpimngbbpkaaGreat
