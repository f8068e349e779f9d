/- Update: the orders as slices.SortFunc asks for them (draws never fall back). · Update: slices.Clone at changes; the name of a contact. -/
import Derived.Shelf.SlSortCmp.InsertionK
import Derived.Test.YtemkpimngbbpkaaGreatQs21
import Derived.Test.YtemkpimngbbpkaaGreatQs28
namespace Go.Proofs.YtemkpimngbbpkaaGreat
set_option linter.unusedVariables false
set_option linter.unusedSimpArgs false
section
open Go.RowKit Go.Shelf Go.Sort
attribute [local go_sem] Oper.semAt_some
def NearD (W w' : World) : Prop := Ext W w' /\ (W.drawn <= w'.drawn /\ ∀ b o, b < W.heap.size -> w'.cell? ⟨b, o, none⟩ = W.cell? ⟨b, o, none⟩)
theorem NearD.of {W w' : World} (h : Ext W w') (hd : W.drawn <= w'.drawn) : NearD W w' := ⟨h, hd, fun b o hb => h.cell (p := ⟨b, o, none⟩) hb⟩
theorem NearD.refl (W : World) : NearD W W := .of (Ext.refl _) (Nat.le_refl _)
theorem NearD.drew {W w1 : World} (h : NearD W w1) : NearD W w1.drew := .of h.1.drew (Nat.le_succ_of_le h.2.1)
theorem neard_alloc {W w1 : World} (h : NearD W w1) (o : Obj) : NearD W (w1.alloc o) := .of (h.1.alloc o) h.2.1
theorem Ext.drewn {w w' : World} (h : Ext w w') (hd : w.drawn <= w'.drawn) : ∃ q os, w' = grow (w.drewN q) os := by
 obtain ⟨⟨d, os⟩, hp⟩ := regrown_of_below h
 subst hp
 obtain ⟨q, rfl⟩ : ∃ q, d = w.drawn + q := ⟨d - w.drawn, by have : w.drawn <= d := hd; omega⟩
 exact ⟨q, os, rfl⟩
theorem lays_of {α : Type} [Inhabited α] {P : Program} {g : Nat} {enc : α -> List Value} {k : Nat} {cf : α -> α -> Int}
 (h : ∀ x y w, Calls P g #[.agg (enc x).toArray, .agg (enc y).toArray] w fun e w' => e = .returned (.int .i64 (cf x y)) /\ Ext w w' /\ w.drawn <= w'.drawn) (blk off size : Nat) (w : World) : CmpLays P g #[] enc k cf blk off size w :=
 fun _ _ _ _ x y => (h x y _).mono fun _ _ ⟨he, hx, hd⟩ => ⟨he, hx.drewn hd⟩
theorem rd_newD3 (W : World) (t : TypeId) (a b c : Int) : Rd EInt (W.alloc (.cells #[.int .i64 a, .int .i64 b, .int .i64 c] t)).drew (some ⟨W.heap.size, 0, none⟩) [a, b, c] := rd_blk3 (t := t) (show Blk (W.alloc (.cells #[.int .i64 a, .int .i64 b, .int .i64 c] t)).drew W.heap.size t #[.int .i64 a, .int .i64 b, .int .i64 c] from Blk.new W t _)
set_option maxRecDepth 100000 in
set_option maxHeartbeats 4000000 in
theorem byOrgD_any (x y : Chg) (w : World) :
 Calls Tryz.prog 61 #[.agg x.arr, .agg y.arr] w fun e w' => e = .returned (.int .i64 (orgC x y)) /\ Ext w w' /\ w.drawn <= w'.drawn := by
 obtain ⟨W, hW, hB, hk, hk2, hlt, hlt2⟩ := box2 w #[.int .i64 x.org, .int .i64 x.cnt, .int .i64 x.stp, .int .i64 x.kind, .int .i64 x.con.src, .int .i64 x.con.dst, .int .i64 x.con.st, .int .i64 x.con.en, .int .i64 x.con.rate, .int .i64 x.con.rng, .int .i64 x.con.loss] #[.int .i64 y.org, .int .i64 y.cnt, .int .i64 y.stp, .int .i64 y.kind, .int .i64 y.con.src, .int .i64 y.con.dst, .int .i64 y.con.st, .int .i64 y.con.en, .int .i64 y.con.rate, .int .i64 y.con.rng, .int .i64 y.con.loss] 63 63
 have hc := hk.cell
 have hc2 := hk2.cell
 have hD : w.drawn <= W.drawn := by rw [<- hW]; exact Nat.le_refl _
 unfold Chg.arr
 go_enter Tryz.func61, Tryz.ntmps61
 go_wp2_with fail
 clear hW
 have hN := NearD.refl W
 go_region_held3 (fun w' => Ext W w' /\ (W.drawn <= w'.drawn /\ ∀ b o, b < W.heap.size -> w'.cell? ⟨b, o, none⟩ = W.cell? ⟨b, o, none⟩)) (first | exact hN.drew | exact neard_alloc (by assumption) _ | assumption)
  (first | (go_at_call 68; refine (cmp_any _ _ _).mono ?_; rintro e w1 ⟨rfl, rfl⟩) | (go_at_call 67; refine (or_any _ 2 [cmpI x.org y.org, cmpI x.cnt y.cnt] _ (by first | exact rd_blk2 (Blk.new _ _ _) | exact rd_new2 _ _ _ _) (by simp)).mono ?_; rintro e w1 ⟨rfl, rfl⟩))
 all_goals
  clear hN
  go_wp2
  go_ret
  exact ⟨rfl, hB.trans (And.left ‹Ext W _ /\ _›), Nat.le_trans hD (And.left (And.right ‹Ext W _ /\ _›))⟩
set_option maxRecDepth 100000 in
set_option maxHeartbeats 4000000 in
theorem newerD_any (x y : Chg) (w : World) :
 Calls Tryz.prog 147 #[.agg x.arr, .agg y.arr] w fun e w' => e = .returned (.int .i64 (newC x y)) /\ Ext w w' /\ w.drawn <= w'.drawn := by
 obtain ⟨W, hW, hB, hk, hk2, hlt, hlt2⟩ := box2 w #[.int .i64 x.org, .int .i64 x.cnt, .int .i64 x.stp, .int .i64 x.kind, .int .i64 x.con.src, .int .i64 x.con.dst, .int .i64 x.con.st, .int .i64 x.con.en, .int .i64 x.con.rate, .int .i64 x.con.rng, .int .i64 x.con.loss] #[.int .i64 y.org, .int .i64 y.cnt, .int .i64 y.stp, .int .i64 y.kind, .int .i64 y.con.src, .int .i64 y.con.dst, .int .i64 y.con.st, .int .i64 y.con.en, .int .i64 y.con.rate, .int .i64 y.con.rng, .int .i64 y.con.loss] 63 63
 have hc := hk.cell
 have hc2 := hk2.cell
 have hD : w.drawn <= W.drawn := by rw [<- hW]; exact Nat.le_refl _
 unfold Chg.arr
 go_enter Tryz.func147, Tryz.ntmps147
 go_wp2_with fail
 clear hW
 have hN := NearD.refl W
 go_region_held3 (fun w' => Ext W w' /\ (W.drawn <= w'.drawn /\ ∀ b o, b < W.heap.size -> w'.cell? ⟨b, o, none⟩ = W.cell? ⟨b, o, none⟩)) (first | exact hN.drew | exact neard_alloc (by assumption) _ | assumption)
  (first | (go_at_call 68; refine (cmp_any _ _ _).mono ?_; rintro e w1 ⟨rfl, rfl⟩) | (go_at_call 67; refine (or_any _ 2 [cmpI y.stp x.stp, cmpI y.org x.org] _ (by first | exact rd_blk2 (Blk.new _ _ _) | exact rd_new2 _ _ _ _) (by simp)).mono ?_; rintro e w1 ⟨rfl, rfl⟩))
 all_goals
  clear hN
  go_wp2
  go_ret
  exact ⟨rfl, hB.trans (And.left ‹Ext W _ /\ _›), Nat.le_trans hD (And.left (And.right ‹Ext W _ /\ _›))⟩
def conC (x y : Con) : Int := orL [cmpI x.src y.src, cmpI x.dst y.dst, cmpI x.st y.st]
set_option maxRecDepth 100000 in
set_option maxHeartbeats 4000000 in
theorem conOrd_any (x y : Con) (w : World) :
 Calls Tryz.prog 66 #[.agg #[.int .i64 x.src, .int .i64 x.dst, .int .i64 x.st, .int .i64 x.en, .int .i64 x.rate, .int .i64 x.rng, .int .i64 x.loss], .agg #[.int .i64 y.src, .int .i64 y.dst, .int .i64 y.st, .int .i64 y.en, .int .i64 y.rate, .int .i64 y.rng, .int .i64 y.loss]] w fun e w' => e = .returned (.int .i64 (conC x y)) /\ Ext w w' /\ w.drawn <= w'.drawn := by
 obtain ⟨W, hW, hB, hk, hk2, hlt, hlt2⟩ := box2 w #[.int .i64 x.src, .int .i64 x.dst, .int .i64 x.st, .int .i64 x.en, .int .i64 x.rate, .int .i64 x.rng, .int .i64 x.loss] #[.int .i64 y.src, .int .i64 y.dst, .int .i64 y.st, .int .i64 y.en, .int .i64 y.rate, .int .i64 y.rng, .int .i64 y.loss] 61 61
 have hc := hk.cell
 have hc2 := hk2.cell
 have hD : w.drawn <= W.drawn := by rw [<- hW]; exact Nat.le_refl _
 go_enter Tryz.func66, Tryz.ntmps66
 go_wp2_with fail
 clear hW
 have hN := NearD.refl W
 go_region_held3 (fun w' => Ext W w' /\ (W.drawn <= w'.drawn /\ ∀ b o, b < W.heap.size -> w'.cell? ⟨b, o, none⟩ = W.cell? ⟨b, o, none⟩)) (first | exact hN.drew | exact neard_alloc (by assumption) _ | assumption)
  (first | (go_at_call 68; refine (cmp_any _ _ _).mono ?_; rintro e w1 ⟨rfl, rfl⟩) | (go_at_call 67; refine (or_any _ 3 [cmpI x.src y.src, cmpI x.dst y.dst, cmpI x.st y.st] _ (by first | exact rd_blk3 (Blk.new _ _ _) | exact rd_newD3 _ _ _ _ _) (by simp)).mono ?_; rintro e w1 ⟨rfl, rfl⟩))
 all_goals
  clear hN
  go_wp2
  go_ret
  exact ⟨rfl, hB.trans (And.left ‹Ext W _ /\ _›), Nat.le_trans hD (And.left (And.right ‹Ext W _ /\ _›))⟩
end
section
open Go.RowKit Go.Shelf Go.Sort
attribute [local go_sem] Oper.semAt_some
theorem info_chg : (Tryz.prog.info? 63).map (fun i => (i.zero, i.size, i.bytes)) = some (some (.agg #[.int .i64 0, .int .i64 0, .int .i64 0, .int .i64 0, .int .i64 0, .int .i64 0, .int .i64 0, .int .i64 0, .int .i64 0, .int .i64 0, .int .i64 0]), 11, 88) := by kernel_rfl
set_option maxHeartbeats 1000000 in
theorem cloneChg_any (A : Option Addr) (c : Nat) (l : List Chg) (w : World) (hA : Rd EChg w A l) (hmax : l.length <= 1000000) :
 Calls Tryz.prog 194 #[.slice A l.length c] w fun e w' => ∃ v, e = .returned v /\ Owns EChg w' w.heap.size 63 v l /\ Ext w w' := by
 obtain ⟨i0, hi0, hz0, hz1, hz2⟩ := info_parts info_chg
 have q22 : ∀ (w : World) (a : Option Addr) (n c n' c' : Nat), (binOp .eql 54 (.slice a n c) (.slice none n' c')).run Tryz.prog w = .ok (.bool a.isNone) w := fun w a n c n' c' => Lib.run_eql_slice_nil w _ _ a n c n' c' Tryz.underlying54
 cases A with
 | none =>
   have hl : l = [] := by
    cases l with
    | nil => rfl
    | cons x l => obtain ⟨b, o, h, _⟩ := hA.at (k := 0) (by simp); cases h
   subst hl
   go_enter Tryz.func194, Tryz.ntmps194
   go_wp2
   go_ret
   exact ⟨_, rfl, Owns.none_ _ _, Ext.refl _⟩
 | some a =>
   go_enter Tryz.func194, Tryz.ntmps194
   go_wp2_with (at_builtin; refine wpList_cat rfl (.tmp 5) (.tmp 6) _ rfl w.heap.size 63 i0 _ 88 Tryz.underlying54 hi0 hz0 hz1 hz2 rfl (.slice (some ⟨w.heap.size, 0, none⟩) 0 0) rfl (Owns.made w w.heap.size _ (Nat.le_refl _)) c _ rfl rfl (hA.ext ((Ext.refl _).alloc _)) (by simp [maxLen]; omega) (by simp; omega) (by simp) ?_; intro v6 w6 hv6 hg6 hat6)
   go_ret
   exact ⟨_, rfl, hv6, ext_grown ((Ext.refl w).alloc _) (Owns.made (E := EChg) w w.heap.size _ (Nat.le_refl _)) (Nat.le_refl _) hg6⟩
set_option maxHeartbeats 1000000 in
theorem nameOf_any (x : Con) (w : World) :
 Calls Tryz.prog 141 #[.agg #[.int .i64 x.src, .int .i64 x.dst, .int .i64 x.st, .int .i64 x.en, .int .i64 x.rate, .int .i64 x.rng, .int .i64 x.loss]] w fun e w' => e = .returned (.agg #[.int .i64 x.src, .int .i64 x.dst, .int .i64 x.st]) /\ Ext w w' := by
 obtain ⟨W, hW, hB, hk, hk2, hlt, hlt2⟩ := box2 w #[.int .i64 x.src, .int .i64 x.dst, .int .i64 x.st, .int .i64 x.en, .int .i64 x.rate, .int .i64 x.rng, .int .i64 x.loss] #[.int .i64 0, .int .i64 0, .int .i64 0] 61 244
 have hc := hk.cell
 have hc2 := hk2.cell
 have hf2 := hk2.frozen
 go_enter Tryz.func141, Tryz.ntmps141
 go_wp2
 clear hW
 obtain ⟨w7, hw7, hz7, hE7⟩ : ∃ w7, W.setCells (w.heap.size + 1) 0 [.int .i64 x.src, .int .i64 x.dst, .int .i64 x.st] = w7 /\ Blk w7 (w.heap.size + 1) 244 #[.int .i64 x.src, .int .i64 x.dst, .int .i64 x.st] /\ Ext w w7 :=
  ⟨_, rfl, hk2.setCells_ [.int .i64 x.src, .int .i64 x.dst, .int .i64 x.st] 0, ext_setCells hB (Nat.le_succ _) 0 _⟩
 simp only [World.setCells, Nat.zero_add, Nat.reduceAdd] at hw7
 rw [hw7]
 have hc7 := hz7.cell
 refine bodyPost_ret (v := .agg #[.int .i64 x.src, .int .i64 x.dst, .int .i64 x.st]) (by rw [results_cellu rfl]; simp [asAddr, Result.andThen, hc7, go_sem]) rfl ?_
 exact ⟨rfl, hE7⟩
end
end Go.Proofs.YtemkpimngbbpkaaGreat
