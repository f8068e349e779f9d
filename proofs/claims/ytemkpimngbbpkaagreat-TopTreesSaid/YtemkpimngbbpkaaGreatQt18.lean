/- Layer 24 (journey): words for the walk of arrivals. · Layer 35 (multicast): hop. · Layer 35 (multicast): whole arrays of 16 numbers, read and written as rows. · Layer 35 (multicast): the hops of a round, plain. · Layer 35 (multicast): the iterator over the first hops. · Layer 35 (multicast): earliest, plain. · Security: varint.Int. · Security: varint.Text, crc. · Security: the table of the checksum. · Security: the bytes of a string, one by one. · Update: the iterator over the changes that are not known. · Layer 24 (journey): the walk of valid. · Layer 24 (journey): the walks of slices.Contains of numbers and of Check. -/
import Derived.BigRegion
import Derived.Laws.Rows
import Derived.Deep.WholeRow
import Derived.Deep.RegionHeld3
import Derived.RangeFuncLeaves
import Derived.Laws.Tables
import Derived.RangeFuncNested
import Derived.RangeFuncOwn
import Derived.LoopIn
import Derived.Test.YtemkpimngbbpkaaGreatQt02
import Derived.Test.YtemkpimngbbpkaaGreatQt03
import Derived.Test.YtemkpimngbbpkaaGreatQt04
import Derived.Test.YtemkpimngbbpkaaGreatQt05
import Derived.Test.YtemkpimngbbpkaaGreatQt08
import Derived.Test.YtemkpimngbbpkaaGreatQt09
import Derived.Test.YtemkpimngbbpkaaGreatQt11
import Derived.Test.YtemkpimngbbpkaaGreatQt13
import Derived.Test.YtemkpimngbbpkaaGreatQt17
namespace Go.Proofs.YtemkpimngbbpkaaGreat
set_option linter.unusedVariables false
set_option linter.unusedSimpArgs false
section
open Go.RowKit Go.Shelf
theorem info_bool : (Tryz.prog.info? 4).map (fun i => (i.zero, i.size, i.bytes)) = some (some (.bool false), 1, 1) := by kernel_rfl
def FrR (W : World) (N : Nat) (f : Value) (w' : World) : Prop :=
 ∃ V F g1 c1 g2 c2, f = .pointer (some ⟨V, 0, none⟩) /\ Blk w' V 262 #[.pointer (some ⟨F, 0, none⟩)] /\ Blk w' F 265 #[.slice (some ⟨g1, 0, none⟩) N c1, .slice (some ⟨g2, 0, none⟩) N c2] /\
   Owns EInt w' W.heap.size 3 (.slice (some ⟨g1, 0, none⟩) N c1) (List.replicate N (-1)) /\ Owns EBool w' W.heap.size 4 (.slice (some ⟨g2, 0, none⟩) N c2) (List.replicate N false) /\ Ext W w' /\
   W.heap.size <= V /\ W.heap.size <= F /\ W.heap.size <= g1 /\ W.heap.size <= g2 /\ V ≠ F /\ V ≠ g1 /\ V ≠ g2 /\ F ≠ g1 /\ F ≠ g2 /\ g1 ≠ g2
theorem blk_alloc_iff (W : World) (o : Obj) (k : Nat) (t : TypeId) (cs : Array Value) : Blk (W.alloc o) k t cs ↔ if k = W.heap.size then o = .cells cs t (0, 0) else Blk W k t cs := by
 unfold Blk
 by_cases h : k = W.heap.size
 ·subst h
  rw [if_pos rfl, World.alloc_heap_new]
  exact ⟨fun h => by injection h, fun h => by rw [h]⟩
 ·rw [if_neg h]
  by_cases h2 : k < W.heap.size
  ·rw [Below.heap_alloc W o k h2]
  ·rw [Array.getElem?_eq_none (by simp; omega), Array.getElem?_eq_none (by omega)]
theorem blk_drew (W : World) (k : Nat) (t : TypeId) (cs : Array Value) : Blk W.drew k t cs ↔ Blk W k t cs := Iff.rfl
theorem Near.alloc {W w1 : World} (h : Near W w1) (o : Obj) : Near W (w1.alloc o) := .of (h.1.alloc o)
theorem ne2 (a : Nat) : (a = a + 1 + 1) ↔ False := ⟨fun h => by omega, False.elim⟩
theorem ne2' (a : Nat) : (a + 1 + 1 = a) ↔ False := ⟨fun h => by omega, False.elim⟩
theorem blk_no0 (W : World) (t : TypeId) (cs : Array Value) : Blk W W.heap.size t cs ↔ False := ⟨fun h => absurd h.lt (by omega), False.elim⟩
theorem blk_no1 (W : World) (t : TypeId) (cs : Array Value) : Blk W (W.heap.size + 1) t cs ↔ False := ⟨fun h => absurd h.lt (by omega), False.elim⟩
theorem blk_no2 (W : World) (t : TypeId) (cs : Array Value) : Blk W (W.heap.size + 1 + 1) t cs ↔ False := ⟨fun h => absurd h.lt (by omega), False.elim⟩
theorem owns_blk {α : Type} {E : Elt α} {w : World} {g base : Nat} {t : TypeId} {l : List α} (h : Blk w g t (E.all l).toArray) (hb : base <= g) (hm : l.length <= maxLen) : Owns E w base t (.slice (some ⟨g, 0, none⟩) l.length l.length) l :=
 ⟨E.all_len l, .inr ⟨g, l.length, _, rfl, hb, h, Nat.le_refl _, hm, by rw [List.size_toArray, E.all_len], by rw [List.take_of_length_le (by rw [E.all_len]; exact Nat.le_refl _)]⟩⟩
theorem Owns.alloc1 {α : Type} {E : Elt α} {w : World} {base : Nat} {e : TypeId} {v : Value} {l : List α} (h : Owns E w base e v l) (o : Obj) : Owns E (w.alloc o) base e v l := h.ext ((Ext.refl w).alloc o)
theorem Owns.setfar {α : Type} {E : Elt α} {w : World} {base g n c : Nat} {e : TypeId} {l : List α} (h : Owns E w base e (.slice (some ⟨g, 0, none⟩) n c) l) {b : Nat} (hne : g ≠ b) (o : Nat) (u : Value) : Owns E (w.setCell ⟨b, o, none⟩ u) base e (.slice (some ⟨g, 0, none⟩) n c) l :=
 h.kept (grown_setCell (World.grownBy.refl w _) o u) (fun g' hg' e' => by injection e' with e'; injection hg' with hg'; exact hne (hg'.trans e'))
theorem blk_setCell_ne {w : World} {g o k : Nat} {v : Value} {t : TypeId} {cs : Array Value} (h : ¬ k = g) : Blk (w.setCell ⟨g, o, none⟩ v) k t cs ↔ Blk w k t cs := by
 unfold Blk
 rw [Below.heap_setCell w ⟨g, o, none⟩ v k h]
theorem blk_here {w : World} {k : Nat} {t : TypeId} {cs : Array Value} (h : k = w.heap.size) : Blk (w.alloc (.cells cs t)) k t cs := by subst h; exact Blk.new w t cs
theorem blk_there {w : World} {k : Nat} {t : TypeId} {cs : Array Value} (h : Blk w k t cs) (o : Obj) : Blk (w.alloc o) k t cs := h.ext ((Ext.refl w).alloc o)
theorem blk_past {w : World} {g o k : Nat} {v : Value} {t : TypeId} {cs : Array Value} (h : Blk w k t cs) (hne : ¬ k = g) : Blk (w.setCell ⟨g, o, none⟩ v) k t cs := (blk_setCell_ne hne).2 h
theorem allBool_rep : ∀ n, Array.replicate n (Value.bool false) = (EBool.all (List.replicate n false)).toArray
 | n => by
   have : ∀ n, List.replicate n (Value.bool false) = EBool.all (List.replicate n false) := fun n => by
    induction n with
    | zero => rfl
    | succ n ih => rw [List.replicate_succ, List.replicate_succ, ih]; rfl
   rw [<- this]; simp
theorem own_bool {w : World} {g base N : Nat} {t : TypeId} (h : Blk w g t (Array.replicate N (.bool false))) (hb : base <= g) (hN : N <= 16) : Owns EBool w base t (.slice (some ⟨g, 0, none⟩) N N) (List.replicate N false) := by
 rw [allBool_rep] at h
 have := owns_blk h hb (by rw [List.length_replicate]; unfold maxLen; omega)
 rw [List.length_replicate] at this
 exact this
theorem repeat_sl (b o c : Nat) (v : Int) (N : Nat) (w : World) (hx : Rd EInt w (some ⟨b, o, none⟩) [v]) (h1 : 1 <= N) (h2 : N <= 16) :
 Calls Tryz.prog 157 #[.slice (some ⟨b, o, none⟩) 1 c, .int .i64 N] w fun e w' => ∃ g d, e = .returned (.slice (some ⟨g, 0, none⟩) N d) /\ Owns EInt w' w.heap.size 3 (.slice (some ⟨g, 0, none⟩) N d) (List.replicate N v) /\ w.heap.size <= g /\ g < w'.heap.size /\ Ext w w' := by
 refine (repeat_any b o c v N w hx h1 h2).mono ?_
 rintro e w' ⟨u, rfl, hu, hb⟩
 obtain ⟨A, d, rfl, hR⟩ := hu.form
 obtain ⟨g, rfl, hg⟩ := hu.some_ (by simp; omega)
 have h3 := hu.block (g := g) rfl
 rw [List.length_replicate] at hu ⊢
 exact ⟨g, d, rfl, hu, hg, h3.2, hb⟩
end
section
open Go.RowKit Go.Shelf
attribute [local go_sem] Oper.semAt_some
def hpAt (c : Con) (i : Int) (n b : Int) : Hp := ⟨i, b, b + c.dur n, b + c.dur n + c.rng⟩
def Pln.mhop (p : Pln) (l : List Bk) (q : Req) (i : Nat) (t : Int) : Option Hp :=
 match fitL ((gc p.cons i).dur q.size) (freeL (gc p.cons i) l i t) with
 | none => none
 | some b => if b + (gc p.cons i).dur q.size + (gc p.cons i).rng <= q.dead then some (hpAt (gc p.cons i) i q.size b) else none
theorem mhop_some {p : Pln} {l : List Bk} {q : Req} {i : Nat} {t : Int} {h : Hp} (e : p.mhop l q i t = some h) :
 ∃ b, fitL ((gc p.cons i).dur q.size) (freeL (gc p.cons i) l i t) = some b /\ h = hpAt (gc p.cons i) i q.size b /\ h.arr <= q.dead := by
 unfold Pln.mhop at e
 split at e
 ·cases e
 ·rename_i b hb
  split at e
  ·rename_i hd
   injection e with e
   subst e
   exact ⟨b, hb, rfl, hd⟩
  ·cases e
set_option maxRecDepth 100000 in
set_option maxHeartbeats 8000000 in
theorem mhop_any (Aq : Option Addr) (cq : Nat) (Ac : Option Addr) (cc : Nat) (p : Pln) (Al : Option Addr) (cl : Nat) (l : List Bk) (Ah : Option Addr) (nh ch : Nat) (q : Req) (i : Nat) (t : Int) (w : World) (h : PlnRd w Aq cq Ac cc p) (hl : Rd EBk w Al l) (h0 : p.bkChk l = 0) (hf : fineR p q = true) (hi : i < p.cons.length) :
 Calls Tryz.prog 244 #[.agg #[.slice Aq p.quo.length cq, .slice Ac p.cons.length cc, .slice Al l.length cl, .slice Ah nh ch], q.val, .int .i64 i, .int .i64 t] w fun e w' => (∃ x : Hp, e = .returned (.tuple #[x.val, .bool (p.mhop l q i t).isSome]) /\ ∀ y, p.mhop l q i t = some y -> x = y) /\ Ext w w' := by
 obtain ⟨W1, hW1, hB1, hk1, hkq, hl1, hlq⟩ := box2 w #[.slice Aq p.quo.length cq, .slice Ac p.cons.length cc, .slice Al l.length cl, .slice Ah nh ch] q.cells 83 85
 simp only [Req.cells] at hW1 hkq
 obtain ⟨W2, hW2, hB2, hk2, hl2⟩ := box1 W1 #[.int .i64 0, .int .i64 0, .int .i64 0, .int .i64 0] 94
 have hf2 := fineR_of hf
 have hqo := hf2.2
 simp only [Req.okB, decide_eq_true_eq] at hqo
 have hn : 1 <= q.size /\ q.size <= 65536 := by omega
 have hii : 0 <= (i : Int) /\ (i : Int) < p.cons.length := by omega
 have hE2 := hB1.trans hB2
 have hfi := fun w h hl => Fit_any Aq cq Ac cc p Al cl l i t q.size w h hl h0 hii hn
 have hin := bkIn_of h0 (i : Int)
 have hok := Pln.ok_of hf2.1
 have hgc : gc p.cons (i : Int) = p.cons[i] := gc_get (i := (i : Int)) (by omega)
 have hcok := (hok.con _ (List.getElem_mem hi)).1
 rw [<- hgc] at hcok
 have hrd := h.ext hE2
 have hl3 := hl.ext hE2
 have s0 := (hk1.ext hB2).cell
 have s1 := (hkq.ext hB2).cell
 have s2 := (hk1.ext hB2).lt
 have s3 := (hkq.ext hB2).lt
 have hho := fun b w h hb => tHop_any Aq cq Ac cc p q i b w h hf hii hb
 obtain ⟨c, hc⟩ : ∃ c, gc p.cons (i : Int) = c := ⟨_, rfl⟩
 have Hc := Lib.hid hc
 rw [hc] at hfi hin hcok hho
 cases hF : fitL (c.dur q.size) (freeL c l i t) with
 | none =>
   rw [hF] at hfi
   have HV := Lib.hid (show p.mhop l q i t = none by unfold Pln.mhop; rw [Hc.out, hF])
   clear hF hcok hok hf2 hqo hgc hc hin hho
   simp only [fitV] at hfi
   unfold Pln.val at hfi
   unfold Req.val
   go_enter Tryz.func244, Tryz.ntmps244
   go_wp2_with fail
   clear hW1 hW2
   refine (hfi _ hrd hl3).mono ?_
   clear hfi
   rintro e w4 ⟨rfl, hb4⟩
   have hEE := hE2.trans hb4
   have hk4 := hk2.ext hb4
   have hc4 := hk4.cell
   have hf4 := hk4.frozen
   have hl4 := hk4.lt
   obtain ⟨w7, hw7, hz7, hE7⟩ : ∃ w7, w4.setCells W1.heap.size 0 [.int .i64 0, .int .i64 0, .int .i64 0, .int .i64 0] = w7 /\ Blk w7 W1.heap.size 94 #[.int .i64 0, .int .i64 0, .int .i64 0, .int .i64 0] /\ Ext w w7 :=
    ⟨_, rfl, hk4.setCells_ [.int .i64 0, .int .i64 0, .int .i64 0, .int .i64 0] 0, ext_setCells hEE hB1.size 0 _⟩
   simp only [World.setCells, Nat.zero_add, Nat.reduceAdd] at hw7
   go_wp2
   have hc7 := hz7.cell
   refine bodyPost_ret (v := .tuple #[.agg #[.int .i64 0, .int .i64 0, .int .i64 0, .int .i64 0], .bool false]) (by rw [results_cell_tmp rfl]; simp [asAddr, Result.andThen, hc7, go_sem]) rfl ?_
   exact ⟨⟨⟨0, 0, 0, 0⟩, by rw [HV.out]; rfl, by rw [HV.out]; intro y hy; cases hy⟩, hE7⟩
 | some b =>
   rw [hF] at hfi
   have hge := fitL_ge hin hF
   have hho1 := fun w h => hho b w h (by omega)
   have dbd := Con.dur_bd hcok hn.1 hn.2
   have hst0 := hcok.st0
   have hen1 := hcok.en1
   have hrg0 := hcok.rng0
   have HV := Lib.hid (show p.mhop l q i t = if b + c.dur q.size + c.rng <= q.dead then some ⟨i, b, b + c.dur q.size, b + c.dur q.size + c.rng⟩ else none by unfold Pln.mhop; rw [Hc.out, hF]; rfl)
   clear hF hcok hok hf2 hqo hgc hc hin hho
   simp only [fitV] at hfi
   unfold Pln.val at hfi hho1
   unfold Req.val at hho1 ⊢
   generalize c.dur q.size = d at *
   go_enter Tryz.func244, Tryz.ntmps244
   go_wp2_with fail
   clear hW1 hW2
   refine (hfi _ hrd hl3).mono ?_
   clear hfi
   rintro e w4 ⟨rfl, hb4⟩
   clear s0 s1 s2 s3
   have kt := (hk1.ext hB2).ext hb4
   have kq := (hkq.ext hB2).ext hb4
   have s0 := kt.cell
   have s1 := kq.cell
   have s2 := kt.lt
   have s3 := kq.lt
   go_wp2_with fail
   refine (hho1 _ (hrd.ext hb4)).mono ?_
   clear hho1
   rintro e w5 ⟨rfl, hb5⟩
   clear s0 s1 s2 s3
   obtain ⟨W6, hW6, hB6, hk6, hl6⟩ := box1 w5 #[.int .i64 i, .int .i64 b, .int .i64 (b + d), .int .i64 (b + d + c.rng)] 94
   have kq6 := (kq.ext hb5).ext hB6
   have s0 := hk6.cell
   have s1 := kq6.cell
   have s2 := hk6.lt
   have s3 := kq6.lt
   have hEE := ((hE2.trans hb4).trans hb5).trans hB6
   have hk4 := ((hk2.ext hb4).ext hb5).ext hB6
   have hc4 := hk4.cell
   have hf4 := hk4.frozen
   have hl4 := hk4.lt
   have g1 := hB2.size
   have g2 := hb4.size
   have g3 := hb5.size
   have hne1 : ¬ W1.heap.size = w5.heap.size := by omega
   have hne2 : ¬ W1.heap.size = w.heap.size + 1 := by omega
   have hne3 : ¬ w5.heap.size = W1.heap.size := by omega
   have hne4 : ¬ w.heap.size + 1 = W1.heap.size := by omega
   go_wp2_with fail
   clear hW6
   by_cases hdl : b + d + c.rng <= q.dead
   ·have HM := Lib.hid (HV.out.trans (if_pos hdl))
    go_region
    obtain ⟨w7, hw7, hz7, hE7⟩ : ∃ w7, (W6.setCells W1.heap.size 0 [.int .i64 i, .int .i64 b, .int .i64 (b + d), .int .i64 (b + d + c.rng)]).drew = w7 /\ Blk w7 W1.heap.size 94 #[.int .i64 i, .int .i64 b, .int .i64 (b + d), .int .i64 (b + d + c.rng)] /\ Ext w w7 :=
     ⟨_, rfl, hk4.setCells_ [.int .i64 i, .int .i64 b, .int .i64 (b + d), .int .i64 (b + d + c.rng)] 0, (ext_setCells hEE hB1.size 0 _).drew⟩
    simp only [World.setCells, Nat.zero_add, Nat.reduceAdd] at hw7
    rw [hw7]
    clear hw7
    go_wp2
    have hc7 := hz7.cell
    refine bodyPost_ret (v := .tuple #[.agg #[.int .i64 i, .int .i64 b, .int .i64 (b + d), .int .i64 (b + d + c.rng)], .bool true]) (by rw [results_cell_tmp rfl]; simp [asAddr, Result.andThen, hc7, go_sem]) rfl ?_
    exact ⟨⟨⟨i, b, b + d, b + d + c.rng⟩, by rw [HM.out]; rfl, by rw [HM.out]; intro y hy; injection hy⟩, hE7⟩
   ·have HM := Lib.hid (HV.out.trans (if_neg hdl))
    have ddl : decide (b + d + c.rng <= q.dead) = false := decide_eq_false hdl
    go_region
    obtain ⟨w7, hw7, hz7, hE7⟩ : ∃ w7, (W6.setCells W1.heap.size 0 [.int .i64 i, .int .i64 b, .int .i64 (b + d), .int .i64 (b + d + c.rng)]).drew = w7 /\ Blk w7 W1.heap.size 94 #[.int .i64 i, .int .i64 b, .int .i64 (b + d), .int .i64 (b + d + c.rng)] /\ Ext w w7 :=
     ⟨_, rfl, hk4.setCells_ [.int .i64 i, .int .i64 b, .int .i64 (b + d), .int .i64 (b + d + c.rng)] 0, (ext_setCells hEE hB1.size 0 _).drew⟩
    simp only [World.setCells, Nat.zero_add, Nat.reduceAdd] at hw7
    rw [hw7]
    clear hw7
    go_wp2
    have hc7 := hz7.cell
    refine bodyPost_ret (v := .tuple #[.agg #[.int .i64 i, .int .i64 b, .int .i64 (b + d), .int .i64 (b + d + c.rng)], .bool false]) (by rw [results_cell_tmp rfl]; simp [asAddr, Result.andThen, hc7, go_sem]) rfl ?_
    exact ⟨⟨⟨i, b, b + d, b + d + c.rng⟩, by rw [HM.out]; rfl, by rw [HM.out]; intro y hy; cases hy⟩, hE7⟩
end
section
open Go.RowKit
theorem info_times : (Tryz.prog.info? 175).map (fun i => (i.zero, i.size)) = some (some (.agg #[.int .i64 0, .int .i64 0, .int .i64 0, .int .i64 0, .int .i64 0, .int .i64 0, .int .i64 0, .int .i64 0, .int .i64 0, .int .i64 0, .int .i64 0, .int .i64 0, .int .i64 0, .int .i64 0, .int .i64 0, .int .i64 0]), 16) := by kernel_rfl
theorem size_times : (Tryz.prog.info? 175).map (·.size) = some 16 := (zero_of_info (P := Tryz.prog) info_times).2
theorem arrV_one (T : List Int) : (arrV T).all (·.oneCell') = true := by
 rw [Array.all_eq_true_iff_forall_mem]
 intro v hv
 simp [arrV] at hv
 obtain ⟨x, _, rfl⟩ := hv
 rfl
theorem arrV_setRow {w : World} {g : Nat} {t : TypeId} {cs : Array Value} (h : Blk w g t cs) (ds : Array Value) : Blk (w.setRow g ds) g t ds := setRow_heap w g cs ds t (0, 0) h
theorem grown_setRow (w : World) (g : Nat) (ds : Array Value) : w.grownBy (w.setRow g ds) (some g) :=
 ⟨rfl, rfl, rfl, by simp, fun k _ hk => setRow_other w g k ds (fun e => hk (by rw [e]))⟩
section
variable {ops : Array Oper} {rest : List Oper} {o : Oper} {a : Act} {w : World} {Q : Exit -> Act -> World -> Prop} {x y : Operand} {g : Nat} {T T' : List Int}
theorem wpList_load16 (ho : o.op = .load 175 x) (hgd : o.guard = none) (hx : a.eval x = .pointer (some ⟨g, 0, none⟩)) (hg : Blk w g 175 (arrV T)) (hT : T.length = 16)
 (h : wpList Tryz.prog ops Q rest (a.put o.dst (.agg (arrV T))) w) : wpList Tryz.prog ops Q (o :: rest) a w :=
 wpList_load_row hgd 175 x ho g hx 175 (arrV T) (0, 0) _ hg Tryz.underlying175 rfl (by rw [arrV_size, hT]; exact size_times) h
theorem wpList_store16 (ho : o.op = .store 175 x y) (hgd : o.guard = none) (hx : a.eval x = .pointer (some ⟨g, 0, none⟩)) (hy : a.eval y = .agg (arrV T')) (hg : Blk w g 175 (arrV T)) (hT : T.length = 16) (hT' : T'.length = 16)
 (h : ∀ W', w.grownBy W' (some g) -> Blk W' g 175 (arrV T') -> wpList Tryz.prog ops Q rest (a.put o.dst undef) W') : wpList Tryz.prog ops Q (o :: rest) a w :=
 wpList_store_row hgd 175 x y ho g (arrV T') hx hy 175 (arrV T) hg (by rw [arrV_size, hT']; exact size_times) (by rw [arrV_size, arrV_size, hT, hT']) (arrV_one _)
  (h _ (grown_setRow w g _) (arrV_setRow hg _))
theorem wpList_fresh16 {c : Array Value} (ho : o.op = .store 175 x y) (hgd : o.guard = none) (hx : a.eval x = .pointer (some ⟨w.heap.size, 0, none⟩)) (hy : a.eval y = .agg (arrV T)) (hc : c.size = 16) (hT : T.length = 16)
 (h : ∀ W', Ext w W' -> Blk W' w.heap.size 175 (arrV T) -> W'.heap.size = w.heap.size + 1 -> wpList Tryz.prog ops Q rest (a.put o.dst undef) W') : wpList Tryz.prog ops Q (o :: rest) a (w.alloc (.cells c 175)) :=
 wpList_store_row hgd 175 x y ho w.heap.size (arrV T) hx hy 175 c (heap_alloc_last w _) (by rw [arrV_size, hT]; exact size_times) (by rw [arrV_size, hc, hT]) (arrV_one _)
  (by rw [World.setRow_alloc_new]; exact h _ ((Ext.refl _).alloc _) (Blk.new _ _ _) (by simp))
end
theorem results16' {fn : Func} {p : Tmp} (h : fn.results = #[.cell p 175]) {tmps : Array Value} {w : World} {g : Nat} {T : List Int} (hp : tmps.getD p undef = .pointer (some ⟨g, 0, none⟩)) (hg : Blk w g 175 (arrV T)) (hT : T.length = 16) :
 (results fn tmps).run Tryz.prog w = .ok (.agg (arrV T)) w := by
 rw [results_cell1 h, hp]
 have := run_loadVar_row w g 175 175 (arrV T) (0, 0) _ hg Tryz.underlying175 rfl (by rw [arrV_size, hT]; exact size_times)
 simp [asAddr, Result.andThen, this]
end
section
open Go.RowKit
def Pln.hopI (p : Pln) (l : List Bk) (q : Req) (tree at_ : List Int) (i : Nat) : Option Hp :=
 if gi at_ (gc p.cons i).src < 0 ∨ 0 <= gi tree (gc p.cons i).dst then none else p.mhop l q i (gi at_ (gc p.cons i).src)
def Pln.hopsK (p : Pln) (l : List Bk) (q : Req) (tree at_ : List Int) : Nat -> List Hp
 | 0 => []
 | k + 1 => match p.hopI l q tree at_ k with
   | some h => p.hopsK l q tree at_ k ++ [h]
   | none => p.hopsK l q tree at_ k
def Pln.hopsL (p : Pln) (l : List Bk) (q : Req) (tree at_ : List Int) : List Hp := p.hopsK l q tree at_ p.cons.length
def Pln.HopP (p : Pln) (l : List Bk) (q : Req) (tree at_ : List Int) (h : Hp) : Prop := ∃ i, i < p.cons.length /\ p.hopI l q tree at_ i = some h
theorem hopsK_mem {p : Pln} {l : List Bk} {q : Req} {tree at_ : List Int} {h : Hp} : ∀ {k : Nat}, k <= p.cons.length -> h ∈ p.hopsK l q tree at_ k -> p.HopP l q tree at_ h
 | 0, _, hm => by cases hm
 | k + 1, hk, hm => by
   unfold Pln.hopsK at hm
   split at hm
   ·rename_i h' e
    rw [List.mem_append] at hm
    rcases hm with hm | hm
    ·exact hopsK_mem (by omega) hm
    ·simp at hm; subst hm; exact ⟨k, by omega, e⟩
   ·exact hopsK_mem (by omega) hm
theorem hopsK_of {p : Pln} {l : List Bk} {q : Req} {tree at_ : List Int} {h : Hp} {i : Nat} (e : p.hopI l q tree at_ i = some h) : ∀ {k : Nat}, i < k -> h ∈ p.hopsK l q tree at_ k
 | 0, hk => by omega
 | k + 1, hk => by
   unfold Pln.hopsK
   by_cases h1 : i = k
   ·subst h1; rw [e]; simp
   ·have := hopsK_of e (k := k) (by omega)
    split
    ·simp [this]
    ·exact this
theorem hopsK_len {p : Pln} {l : List Bk} {q : Req} {tree at_ : List Int} : ∀ k : Nat, (p.hopsK l q tree at_ k).length <= k
 | 0 => Nat.le_refl _
 | k + 1 => by
   unfold Pln.hopsK
   have := hopsK_len (p := p) (l := l) (q := q) (tree := tree) (at_ := at_) k
   split
   ·simp; omega
   ·omega
structure HopF (p : Pln) (l : List Bk) (q : Req) (tree at_ : List Int) (h : Hp) (i : Nat) : Prop where
 lt : i < p.cons.length
 con : h.con = i
 src : 0 <= gi at_ (gc p.cons i).src
 dst : gi tree (gc p.cons i).dst < 0
 fit : ∃ b, fitL ((gc p.cons i).dur q.size) (freeL (gc p.cons i) l i (gi at_ (gc p.cons i).src)) = some b /\ h = hpAt (gc p.cons i) i q.size b
 dead : h.arr <= q.dead
theorem HopP.facts {p : Pln} {l : List Bk} {q : Req} {tree at_ : List Int} {h : Hp} (hp : p.HopP l q tree at_ h) : ∃ i, HopF p l q tree at_ h i := by
 obtain ⟨i, hi, e⟩ := hp
 unfold Pln.hopI at e
 split at e
 ·cases e
 ·rename_i hn
  obtain ⟨b, hb, hh, hd⟩ := mhop_some e
  exact ⟨i, hi, by rw [hh]; rfl, by omega, by omega, ⟨b, hb, hh⟩, hd⟩
theorem HopF.late {p : Pln} {l : List Bk} {q : Req} {tree at_ : List Int} {h : Hp} {i : Nat} (f : HopF p l q tree at_ h i) (h0 : p.bkChk l = 0) (hq : 1 <= q.size /\ q.size <= 65536) :
 gi at_ (gc p.cons i).src <= h.beg /\ (gc p.cons i).st <= h.beg /\ h.en = h.beg + (gc p.cons i).dur q.size /\ h.arr = h.en + (gc p.cons i).rng /\ h.en <= (gc p.cons i).en /\ h.beg < h.en /\ h.en < h.arr /\ 0 <= h.beg /\ h.arr <= 1099511627776 := by
 obtain ⟨b, hb, hh⟩ := f.fit
 have hin := bkIn_of h0 (i : Int)
 have hge := fitL_ge hin hb
 have hok := Pln.ok_of (Pln.bkChk_ok h0).1
 have hgc : gc p.cons (i : Int) = p.cons[i]'f.lt := gc_get (i := (i : Int)) (by have := f.lt; omega)
 have hc := (hok.con _ (List.getElem_mem f.lt)).1
 rw [<- hgc] at hc
 have hd := Con.dur_bd hc hq.1 hq.2
 have h1 := hc.st0
 have h2 := hc.en1
 have h3 := hc.rng0
 subst hh
 refine ⟨?_, ?_, rfl, rfl, ?_, ?_, ?_, ?_, ?_⟩ <;> simp only [hpAt] <;> omega
end
section
open Go.RowKit Go.Shelf
attribute [local go_sem] Oper.semAt_some
abbrev HopM (p : Pln) (l : List Bk) (q : Req) (tree at_ : List Int) := { h : Hp // p.HopP l q tree at_ h }
def unM {p : Pln} {l : List Bk} {q : Req} {tree at_ : List Int} (ys : List (HopM p l q tree at_)) : List Hp := ys.map (·.1)
theorem unM_snoc {p : Pln} {l : List Bk} {q : Req} {tree at_ : List Int} (ys : List (HopM p l q tree at_)) (x : HopM p l q tree at_) : unM (ys ++ [x]) = unM ys ++ [x.1] := by simp [unM]
theorem unM_len {p : Pln} {l : List Bk} {q : Req} {tree at_ : List Int} (ys : List (HopM p l q tree at_)) : (unM ys).length = ys.length := by simp [unM]
def hopM {p : Pln} {l : List Bk} {q : Req} {tree at_ : List Int} (x : HopM p l q tree at_) : Array Value := #[.agg #[.int .i64 x.1.con, .int .i64 x.1.beg, .int .i64 x.1.en, .int .i64 x.1.arr]]
structure HopC35 (w0 W : World) (Bt Ba Br Bq n₁ g g2 : Nat) (Aq : Option Addr) (cq : Nat) (Ac : Option Addr) (cc : Nat) (p : Pln) (Al : Option Addr) (cl : Nat) (l : List Bk) (Ah : Option Addr) (nh ch : Nat) (q : Req) (tree at_ : List Int) : Prop where
 rd : PlnRd w0 Aq cq Ac cc p
 bk : Rd EBk w0 Al l
 ok : p.bkChk l = 0
 fine : fineR p q = true
 tl : tree.length = 16
 al : at_.length = 16
 ext : Ext w0 W
 n0 : w0.heap.size <= n₁
 g0 : w0.heap.size <= g
 g20 : w0.heap.size <= g2
 n1 : n₁ <= W.heap.size
 kt : Blk W Bt 83 #[.slice Aq p.quo.length cq, .slice Ac p.cons.length cc, .slice Al l.length cl, .slice Ah nh ch]
 ka : Blk W Ba 175 (arrV at_)
 kr : Blk W Br 175 (arrV tree)
 kq : Blk W Bq 85 #[.int .i64 q.src, .int .i64 q.dst, .int .i64 q.size, .int .i64 q.ready, .int .i64 q.dead, .int .i64 q.prio, .bool q.cust]
 bt : Bt < n₁ /\ Bt ≠ g /\ Bt ≠ g2
 ba : Ba < n₁ /\ Ba ≠ g /\ Ba ≠ g2
 br : Br < n₁ /\ Br ≠ g /\ Br ≠ g2
 bq : Bq < n₁ /\ Bq ≠ g /\ Bq ≠ g2
set_option maxRecDepth 100000 in
set_option maxHeartbeats 4000000 in
theorem mhops_iter (li Bt Ba Br Bq n₁ g g2 : Nat) (Aq : Option Addr) (cq : Nat) (Ac : Option Addr) (cc : Nat) (p : Pln) (Al : Option Addr) (cl : Nat) (l : List Bk) (Ah : Option Addr) (nh ch : Nat) (q : Req) (tree at_ : List Int) (w0 W : World)
 (C : HopC35 w0 W Bt Ba Br Bq n₁ g g2 Aq cq Ac cc p Al cl l Ah nh ch q tree at_)
 (J Jx : List (HopM p l q tree at_) -> World -> Prop) (hJ : AbidesFrom W.heap.size J)
 (hY : ∀ pre x W, J pre W -> pre.length < 65 -> YieldAt Fence.wide 3 Tryz.prog li (hopM x) W fun e W' =>
  (e = .returned (.bool true) /\ J (pre ++ [x]) W' /\ KpY n₁ g g2 W W') ∨ (e = .returned (.bool false) /\ Jx (pre ++ [x]) W'))
 (hj : J [] W) :
 CallsIn Fence.wide 4 Tryz.prog 243 #[.func (.yield li) #[] #[], .pointer (some ⟨Bt, 0, none⟩), .pointer (some ⟨Ba, 0, none⟩), .pointer (some ⟨Br, 0, none⟩), .pointer (some ⟨Bq, 0, none⟩)] W fun e W' => (∃ v, e = .returned v) /\
  ((∃ ys, unM ys = p.hopsL l q tree at_ /\ J ys W') ∨ (∃ pre : List (HopM p l q tree at_), True /\ Jx pre W')) := by
 obtain ⟨h, hbk, h0, hf, htl, hal, hE0, hn0, hg0, hg20, hn1, kt, ka, kr, kq, bt, ba, br, bq⟩ := C
 have hc := kt.cell
 have hok := Pln.ok_of (Pln.bkChk_ok h0).1
 have hm64 := hok.m64
 have hn16 := hok.n16
 have H0 := Lib.hid h0
 have HF := Lib.hid hf
 have Hok := Lib.hid hok
 clear h0 hf hok
 refine callsIn_of_wp Tryz.func243 rfl trivial ?_ rfl
 simp only [Tryz.ntmps243, List.size_toArray, List.length_cons, List.length_nil, Nat.reduceAdd, Nat.reduceSub, Array.replicate_succ, Array.replicate_zero, List.push_toArray, List.append_toArray, List.nil_append, List.cons_append]
 gi_wp2
 gi_loopw [14] (fun i wr => ∃ (k : Nat) (pre : List (HopM p l q tree at_)), k <= p.cons.length /\ i = .int .i64 k /\ pre.length <= k /\ Hid (unM pre = p.hopsK l q tree at_ k) /\ J pre wr /\ KpY n₁ g g2 W wr) (fun i _ => p.cons.length - (intOf i).toNat)
 case atStart => exact ⟨0, [], Nat.zero_le _, rfl, Nat.le_refl _, Lib.hid rfl, hj, KpY.refl _ _ _ _⟩
 case round =>
  obtain ⟨k, pre, hk, rfl, hpk, hcov, hjr, hK⟩ := hrel
  have hE := hK.out hE0 hn0 hg0 hg20
  have kt1 := hK.blk kt bt.1 bt.2.1 bt.2.2
  have ka1 := hK.blk ka ba.1 ba.2.1 ba.2.2
  have kr1 := hK.blk kr br.1 br.2.1 br.2.2
  have kq1 := hK.blk kq bq.1 bq.2.1 bq.2.2
  have hct1 := kt1.cell
  have hsz := hK.size
  by_cases hlt : k < p.cons.length
  ·obtain ⟨b, o, rfl, hb, c0, c1, c2, c3, c4, c5, c6⟩ := (h.c.ext hE).con hlt
   have hyc := Hok.out.con _ (List.getElem_mem hlt)
   have hgc : gc p.cons (k : Int) = p.cons[k] := gc_get (i := (k : Int)) (by omega)
   have Hst := Lib.hid (show p.hopsK l q tree at_ (k + 1) = match p.hopI l q tree at_ k with | some h => p.hopsK l q tree at_ k ++ [h] | none => p.hopsK l q tree at_ k from rfl)
   have Hhi := Lib.hid (show p.hopI l q tree at_ k = if gi at_ (gc p.cons k).src < 0 ∨ 0 <= gi tree (gc p.cons k).dst then none else p.mhop l q k (gi at_ (gc p.cons k).src) from rfl)
   rw [hgc] at Hhi
   have hs0 := hyc.1.src0
   have hs1 := hyc.2.1
   have hd0 := hyc.1.dst0
   have hd1 := hyc.2.2
   generalize hye : p.cons[k] = y at *
   clear hye hgc hyc
   obtain ⟨W3, hW3, hB3, hk3, hl3⟩ := box1 wr y.cells 61
   simp only [Con.cells] at hW3 hk3
   have hck := hk3.cell
   have hlk := hk3.lt
   have hjr3 := abides_ext hJ hjr hB3
   have hK3 := hK.trans (KpY.of_ext (by omega) hB3)
   have hca := ((ka1.ext hB3).cell y.src.toNat).trans (arrV_get (by omega))
   have hla := (ka1.ext hB3).lt
   have hcr := ((kr1.ext hB3).cell y.dst.toNat).trans (arrV_get (by omega))
   have hlr := (kr1.ext hB3).lt
   have eS : ((y.src.toNat : Nat) : Int) = y.src := by omega
   have eD : ((y.dst.toNat : Nat) : Int) = y.dst := by omega
   rw [eS] at hca
   rw [eD] at hcr
   clear eS eD
   have hs2 : y.src < 16 := by omega
   have hd2 : y.dst < 16 := by omega
   by_cases hs : gi at_ y.src < 0
   ·have HN := Lib.hid (Hhi.out.trans (if_pos (.inl hs)))
    have dS : decide (gi at_ y.src < 0) = true := decide_eq_true hs
    clear hs
    gi_wp2
    go_roundw
    case rel => exact ⟨k + 1, pre, by omega, by go_num, by omega, Lib.hid (by rw [Hst.out, HN.out]; exact hcov.out), hjr3, hK3⟩
    case measure => simp [intOf]; omega
   have dS : decide (gi at_ y.src < 0) = false := decide_eq_false hs
   by_cases hd : 0 <= gi tree y.dst
   ·have HN := Lib.hid (Hhi.out.trans (if_pos (.inr hd)))
    have dS2 : decide (0 <= gi tree y.dst) = true := decide_eq_true hd
    clear hs hd
    gi_wp2
    go_roundw
    case rel => exact ⟨k + 1, pre, by omega, by go_num, by omega, Lib.hid (by rw [Hst.out, HN.out]; exact hcov.out), hjr3, hK3⟩
    case measure => simp [intOf]; omega
   have dD : decide (0 <= gi tree y.dst) = false := decide_eq_false hd
   replace Hhi := Lib.hid (Hhi.out.trans (if_neg (fun h => h.elim hs hd)))
   have hho := fun w h hl => mhop_any Aq cq (some ⟨b, o, none⟩) cc p Al cl l Ah nh ch q k (gi at_ y.src) w h hl H0.out HF.out hlt
   have hrd3 := (h.ext hE).ext hB3
   have hbk3 := (hbk.ext hE).ext hB3
   have hct3 := (kt1.ext hB3).cell
   have hlt3 := (kt1.ext hB3).lt
   have hcq3 := (kq1.ext hB3).cell
   have hlq3 := (kq1.ext hB3).lt
   unfold Req.val at hho
   clear hs hd
   cases hm : p.mhop l q k (gi at_ y.src) with
   | none =>
     have HN := Lib.hid (Hhi.out.trans hm)
     have hh2 : ∀ w, PlnRd w Aq cq (some ⟨b, o, none⟩) cc p -> Rd EBk w Al l -> Calls Tryz.prog 244 #[.agg #[.slice Aq p.quo.length cq, .slice (some ⟨b, o, none⟩) p.cons.length cc, .slice Al l.length cl, .slice Ah nh ch], .agg #[.int .i64 q.src, .int .i64 q.dst, .int .i64 q.size, .int .i64 q.ready, .int .i64 q.dead, .int .i64 q.prio, .bool q.cust], .int .i64 k, .int .i64 (gi at_ y.src)] w fun e w' => ∃ xa xb xc xd : Int, e = .returned (.tuple #[.agg #[.int .i64 xa, .int .i64 xb, .int .i64 xc, .int .i64 xd], .bool false]) /\ Ext w w' := fun w h1 h2 => by
      refine (hho w h1 h2).mono ?_
      rintro e w' ⟨⟨x, rfl, _⟩, hb⟩
      rw [hm]
      exact ⟨x.con, x.beg, x.en, x.arr, rfl, hb⟩
     clear hho hm
     gi_wp2_with fail
     refine wpIn_wide.2 ?_
     have hN := Near.refl W3
     go_region_held3 (fun w' => Ext W3 w' /\ ∀ b o, b < W3.heap.size -> w'.cell? ⟨b, o, none⟩ = W3.cell? ⟨b, o, none⟩) (first | exact hN.drew | exact Near.step (by assumption) hb9 | exact near_alloc (by assumption) _ | (refine Near.of ?_; repeat (first | exact hx9 | refine Ext.alloc ?_ _ | (refine Ext.setCell ?_ ?_ _; rotate_left; (focus (first | exact Nat.le_refl _ | (dsimp only; omega)))))) | assumption)
      (first | (go_at_call 244; refine (hh2 _ (hrd3.ext (And.left (by assumption))) (hbk3.ext (And.left (by assumption)))).mono ?_; rintro e w9 ⟨xa, xb, xc, xd, rfl, hb9⟩; have hx9 : Ext W3 w9 := Ext.trans (And.left (by assumption)) hb9; have hs9 := hx9.size; have hz9 := fun (hh : Blk _ W3.heap.size 94 #[.int .i64 0, .int .i64 0, .int .i64 0, .int .i64 0]) => Blk.ext hh hb9; (try simp [blk_alloc_iff, blk_drew, blk_no0] at hz9); (try (have hz9c := Blk.cell hz9; have hz9f := Blk.frozen hz9; have hz9l := Blk.lt hz9))))
     all_goals
      have hX := And.left ‹Ext W3 _ /\ _›
      clear hN
      gi_wp2_with fail
      refine ⟨fun _ h => (by cases h), ?_⟩
      gi_wp2
      go_roundw
      case rel => exact ⟨k + 1, pre, by omega, by go_num, by omega, Lib.hid (by rw [Hst.out, HN.out]; exact hcov.out), abides_ext hJ hjr3 hX, hK3.trans (KpY.of_ext (by omega) hX)⟩
      case measure => simp [intOf]; omega
   | some z =>
     have HN := Lib.hid (Hhi.out.trans hm)
     have hh2 : ∀ w, PlnRd w Aq cq (some ⟨b, o, none⟩) cc p -> Rd EBk w Al l -> Calls Tryz.prog 244 #[.agg #[.slice Aq p.quo.length cq, .slice (some ⟨b, o, none⟩) p.cons.length cc, .slice Al l.length cl, .slice Ah nh ch], .agg #[.int .i64 q.src, .int .i64 q.dst, .int .i64 q.size, .int .i64 q.ready, .int .i64 q.dead, .int .i64 q.prio, .bool q.cust], .int .i64 k, .int .i64 (gi at_ y.src)] w fun e w' => e = .returned (.tuple #[.agg #[.int .i64 z.con, .int .i64 z.beg, .int .i64 z.en, .int .i64 z.arr], .bool true]) /\ Ext w w' := fun w h1 h2 => by
      refine (hho w h1 h2).mono ?_
      rintro e w' ⟨⟨x, rfl, hx⟩, hb⟩
      obtain rfl := hx z hm
      rw [hm]
      exact ⟨rfl, hb⟩
     clear hho hm
     obtain ⟨za, zb, zc, zd, hz⟩ : ∃ za zb zc zd : Int, z = ⟨za, zb, zc, zd⟩ := ⟨z.con, z.beg, z.en, z.arr, rfl⟩
     subst hz
     have Hst2 := Lib.hid (show p.hopsK l q tree at_ (k + 1) = p.hopsK l q tree at_ k ++ [⟨za, zb, zc, zd⟩] by rw [Hst.out, HN.out])
     simp only [] at hh2
     gi_wp2_with fail
     refine wpIn_wide.2 ?_
     have hN := Near.refl W3
     go_region_held3 (fun w' => Ext W3 w' /\ ∀ b o, b < W3.heap.size -> w'.cell? ⟨b, o, none⟩ = W3.cell? ⟨b, o, none⟩) (first | exact hN.drew | exact Near.step (by assumption) hb9 | exact near_alloc (by assumption) _ | (refine Near.of ?_; repeat (first | exact hx9 | refine Ext.alloc ?_ _ | (refine Ext.setCell ?_ ?_ _; rotate_left; (focus (first | exact Nat.le_refl _ | (dsimp only; omega)))))) | assumption)
      (first | (go_at_call 244; refine (hh2 _ (hrd3.ext (And.left (by assumption))) (hbk3.ext (And.left (by assumption)))).mono ?_; rintro e w9 ⟨rfl, hb9⟩; have hx9 : Ext W3 w9 := Ext.trans (And.left (by assumption)) hb9; have hs9 := hx9.size; have hz9 := fun (hh : Blk _ W3.heap.size 94 #[.int .i64 0, .int .i64 0, .int .i64 0, .int .i64 0]) => Blk.ext hh hb9; (try simp [blk_alloc_iff, blk_drew, blk_no0] at hz9); (try (have hz9c := Blk.cell hz9; have hz9f := Blk.frozen hz9; have hz9l := Blk.lt hz9))))
     ·obtain ⟨W5, hW5, hB59, hk5, hl5⟩ := box1 w9 #[.int .i64 za, .int .i64 zb, .int .i64 zc, .int .i64 zd] 94
      have hB5 := hx9.trans hB59
      clear hN
      rw [hW5]
      obtain ⟨fn, tmps, assign, body, hy, hR⟩ := hY pre ⟨⟨za, zb, zc, zd⟩, ⟨k, hlt, HN.out⟩⟩ W5 (abides_ext hJ hjr3 hB5) (by omega)
      dsimp only [hopM] at hy
      have hc5 := hk5.cell
      gi_wp2
      refine hR.mono ?_
      rintro e W6 (⟨rfl, hJ6, hk6⟩ | ⟨rfl, hJx6⟩)
      ·gi_wp2
       go_roundw
       case rel => exact ⟨k + 1, _, by omega, by go_num, by simp; omega, Lib.hid (by rw [unM_snoc, Hst2.out, hcov.out]), hJ6, hK3.trans ((KpY.of_ext (by omega) hB5).trans hk6)⟩
       case measure => simp [intOf]; omega
      ·gi_wp2
       refine bodyPost_ret (results_none rfl _ _ _) rfl ?_
       exact ⟨⟨_, rfl⟩, .inr ⟨_, trivial, hJx6⟩⟩
     ·obtain ⟨W5, hW5, hk5, hB5⟩ : ∃ W5, World.setCells w9 W3.heap.size 0 [.int .i64 za, .int .i64 zb, .int .i64 zc, .int .i64 zd] = W5 /\ Blk W5 W3.heap.size 94 #[.int .i64 za, .int .i64 zb, .int .i64 zc, .int .i64 zd] /\ Ext W3 W5 :=
       ⟨_, rfl, hz9.setCells_ [.int .i64 za, .int .i64 zb, .int .i64 zc, .int .i64 zd] 0, ext_setCells hx9 (Nat.le_refl _) 0 _⟩
      simp only [World.setCells, Nat.zero_add, Nat.reduceAdd] at hW5
      clear hN
      rw [hW5]
      obtain ⟨fn, tmps, assign, body, hy, hR⟩ := hY pre ⟨⟨za, zb, zc, zd⟩, ⟨k, hlt, HN.out⟩⟩ W5 (abides_ext hJ hjr3 hB5) (by omega)
      dsimp only [hopM] at hy
      have hc5 := hk5.cell
      gi_wp2
      refine hR.mono ?_
      rintro e W6 (⟨rfl, hJ6, hk6⟩ | ⟨rfl, hJx6⟩)
      ·gi_wp2
       go_roundw
       case rel => exact ⟨k + 1, _, by omega, by go_num, by simp; omega, Lib.hid (by rw [unM_snoc, Hst2.out, hcov.out]), hJ6, hK3.trans ((KpY.of_ext (by omega) hB5).trans hk6)⟩
       case measure => simp [intOf]; omega
      ·gi_wp2
       refine bodyPost_ret (results_none rfl _ _ _) rfl ?_
       exact ⟨⟨_, rfl⟩, .inr ⟨_, trivial, hJx6⟩⟩
  ·gi_wp2
   go_end0
   exact ⟨⟨_, rfl⟩, .inl ⟨pre, by unfold Pln.hopsL; rw [show p.cons.length = k by omega]; exact hcov.out, hjr⟩⟩
theorem mhops_stops (Bt Ba Br Bq n₁ g g2 : Nat) (Aq : Option Addr) (cq : Nat) (Ac : Option Addr) (cc : Nat) (p : Pln) (Al : Option Addr) (cl : Nat) (l : List Bk) (Ah : Option Addr) (nh ch : Nat) (q : Req) (tree at_ : List Int) (w0 w : World)
 (C : HopC35 w0 w Bt Ba Br Bq n₁ g g2 Aq cq Ac cc p Al cl l Ah nh ch q tree at_) :
 SeqStopsK Fence.wide 4 Tryz.prog 243 #[.pointer (some ⟨Bt, 0, none⟩), .pointer (some ⟨Ba, 0, none⟩), .pointer (some ⟨Br, 0, none⟩), .pointer (some ⟨Bq, 0, none⟩)] (hopM (p := p) (l := l) (q := q) (tree := tree) (at_ := at_)) (KpY n₁ g g2) (fun ys => unM ys = p.hopsL l q tree at_) (fun _ => True) 65 w :=
 fun li J Jx W hW hJ _ hY hj => mhops_iter li Bt Ba Br Bq n₁ g g2 Aq cq Ac cc p Al cl l Ah nh ch q tree at_ w0 W
  ⟨C.rd, C.bk, C.ok, C.fine, C.tl, C.al, C.ext.trans hW, C.n0, C.g0, C.g20, Nat.le_trans C.n1 (Ext.size hW), C.kt.ext hW, C.ka.ext hW, C.kr.ext hW, C.kq.ext hW, C.bt, C.ba, C.br, C.bq⟩ J Jx hJ hY hj
set_option maxHeartbeats 800000 in
theorem mhops_any (v0 v1 v2 v3 : Value) (q : Req) (tree at_ : List Int) (w : World) :
 Calls Tryz.prog 161 #[.agg #[v0, v1, v2, v3], q.val, .agg (arrV tree), .agg (arrV at_)] w fun e w' =>
  e = .returned (.func (.func 243) #[] #[.pointer (some ⟨w.heap.size, 0, none⟩), .pointer (some ⟨w.heap.size + 3, 0, none⟩), .pointer (some ⟨w.heap.size + 2, 0, none⟩), .pointer (some ⟨w.heap.size + 1, 0, none⟩)]) /\ Ext w w' /\ w'.heap.size = w.heap.size + 4 /\
  Blk w' w.heap.size 83 #[v0, v1, v2, v3] /\ Blk w' (w.heap.size + 1) 85 #[.int .i64 q.src, .int .i64 q.dst, .int .i64 q.size, .int .i64 q.ready, .int .i64 q.dead, .int .i64 q.prio, .bool q.cust] /\ Blk w' (w.heap.size + 2) 175 (arrV tree) /\ Blk w' (w.heap.size + 3) 175 (arrV at_) := by
 obtain ⟨W1, hW1, hB1, hk1, hl1⟩ := box1 w #[v0, v1, v2, v3] 83
 have s1 : W1.heap.size = w.heap.size + 1 := by rw [<- hW1]; simp
 obtain ⟨W2, hW2, hB2, hk2, hl2⟩ := box1 W1 q.cells 85
 simp only [Req.cells] at hW2 hk2
 have s2 : W2.heap.size = w.heap.size + 2 := by rw [<- hW2]; simp [s1]
 obtain ⟨W3, hW3, hB3, hk3, hl3⟩ := box1 W2 (arrV tree) 175
 have s3 : W3.heap.size = w.heap.size + 3 := by rw [<- hW3]; simp [s2]
 obtain ⟨W4, hW4, hB4, hk4, hl4⟩ := box1 W3 (arrV at_) 175
 have s4 : W4.heap.size = w.heap.size + 4 := by rw [<- hW4]; simp [s3]
 rw [s1] at hk2
 rw [s2] at hk3
 rw [s3] at hk4
 have S1 := Lib.hid s1
 have S2 := Lib.hid s2
 have S3 := Lib.hid s3
 have S4 := Lib.hid s4
 clear s1 s2 s3 s4
 unfold Req.val
 go_enter Tryz.func161, Tryz.ntmps161
 go_wp2
 go_ret
 refine ⟨?_, (hB1.trans hB2).trans (hB3.trans hB4), S4.out, ((hk1.ext hB2).ext hB3).ext hB4, (hk2.ext hB3).ext hB4, hk3.ext hB4, hk4⟩
 rw [S1.out, S2.out, S3.out]
 rfl
end
section
open Go.RowKit
def Pln.eStep (p : Pln) (s : Bool × List Int) (h : Hp) : Bool × List Int :=
 if gi s.2 (gc p.cons h.con).dst < 0 ∨ h.arr < gi s.2 (gc p.cons h.con).dst then (true, s.2.set (gc p.cons h.con).dst.toNat h.arr) else s
def Pln.eRnd (p : Pln) (l : List Bk) (q : Req) (tree at_ : List Int) : Bool × List Int := (p.hopsL l q tree at_).foldl p.eStep (false, at_)
def Pln.eIt (p : Pln) (l : List Bk) (q : Req) (tree : List Int) : Nat -> List Int
 | 0 => tree
 | k + 1 => (p.eRnd l q tree (p.eIt l q tree k)).2
def Pln.EarlP (p : Pln) (l : List Bk) (q : Req) (tree T : List Int) : Prop := (∃ k, T = p.eIt l q tree k) /\ (p.eRnd l q tree T).1 = false
theorem eStep_len {p : Pln} {s : Bool × List Int} {h : Hp} : (p.eStep s h).2.length = s.2.length := by unfold Pln.eStep; split <;> simp
theorem eFold_len {p : Pln} : ∀ (m : List Hp) (s : Bool × List Int), (m.foldl p.eStep s).2.length = s.2.length
 | [], s => rfl
 | h :: m, s => by rw [List.foldl_cons, eFold_len m, eStep_len]
theorem eRnd_len {p : Pln} {l : List Bk} {q : Req} {tree at_ : List Int} : (p.eRnd l q tree at_).2.length = at_.length := eFold_len _ _
theorem eIt_len {p : Pln} {l : List Bk} {q : Req} {tree : List Int} : ∀ k, (p.eIt l q tree k).length = tree.length
 | 0 => rfl
 | k + 1 => by show (p.eRnd l q tree (p.eIt l q tree k)).2.length = _; rw [eRnd_len, eIt_len k]
def nu (m : List Int) : Nat := (m.map fun x => if x < 0 then 2199023255552 else x.toNat).sum
theorem nu_set : ∀ {m : List Int} {k : Nat} {v : Int}, (h : k < m.length) -> (m[k] < 0 ∨ v < m[k]) -> 0 <= v -> v < 2199023255552 -> nu (m.set k v) < nu m
 | x :: m, 0, v, _, h1, h2, h3 => by
   simp only [List.getElem_cons_zero] at h1
   simp only [nu, List.set_cons_zero, List.map_cons, List.sum_cons]
   rw [if_neg (by omega)]
   split <;> omega
 | x :: m, k + 1, v, h, h1, h2, h3 => by
   have := nu_set (m := m) (k := k) (v := v) (by simpa using h) (by simpa using h1) h2 h3
   simp only [nu, List.set_cons_succ, List.map_cons, List.sum_cons] at this ⊢
   omega
def HopOk (p : Pln) (h : Hp) : Prop := 0 <= (gc p.cons h.con).dst /\ (gc p.cons h.con).dst < 16 /\ 0 <= h.arr /\ h.arr <= 1099511627776
theorem eStep_nu {p : Pln} {s : Bool × List Int} {h : Hp} (hh : HopOk p h) (hl : s.2.length = 16) : p.eStep s h = s ∨ ((p.eStep s h).1 = true /\ nu (p.eStep s h).2 < nu s.2) := by
 unfold Pln.eStep
 split
 ·rename_i hc
  right
  obtain ⟨h1, h2, h3, h4⟩ := hh
  refine ⟨rfl, nu_set (by omega) ?_ h3 (by omega)⟩
  rw [gi_of h1 (by omega)] at hc
  exact hc
 ·exact .inl rfl
theorem eFold_nu {p : Pln} : ∀ (m : List Hp) (s : Bool × List Int), (∀ h ∈ m, HopOk p h) -> s.2.length = 16 -> m.foldl p.eStep s = s ∨ ((m.foldl p.eStep s).1 = true /\ nu (m.foldl p.eStep s).2 < nu s.2)
 | [], s, _, _ => .inl rfl
 | h :: m, s, hm, hl => by
   have h1 := eStep_nu (s := s) (hm h (by simp)) hl
   have h2 := eFold_nu m (p.eStep s h) (fun x hx => hm x (by simp [hx])) (by rw [eStep_len]; exact hl)
   rw [List.foldl_cons]
   rcases h1 with e | ⟨e1, e2⟩
   ·rw [e] at h2 ⊢; exact h2
   ·rcases h2 with e | ⟨e3, e4⟩
    ·right; rw [e]; exact ⟨e1, e2⟩
    ·right; exact ⟨e3, by omega⟩
theorem HopF.okk {p : Pln} {l : List Bk} {q : Req} {tree at_ : List Int} {h : Hp} {i : Nat} (f : HopF p l q tree at_ h i) (h0 : p.bkChk l = 0) (hq : 1 <= q.size /\ q.size <= 65536) : HopOk p h := by
 have hl := f.late h0 hq
 have hok := Pln.ok_of (Pln.bkChk_ok h0).1
 have hn := hok.n16
 have hgc : gc p.cons (i : Int) = p.cons[i]'f.lt := gc_get (i := (i : Int)) (by have := f.lt; omega)
 have hc := hok.con _ (List.getElem_mem f.lt)
 rw [<- hgc] at hc
 have h1 := hc.1.dst0
 have h2 := hc.2.2
 unfold HopOk
 rw [f.con]
 omega
theorem hopsL_ok {p : Pln} {l : List Bk} {q : Req} {tree at_ : List Int} (h0 : p.bkChk l = 0) (hq : 1 <= q.size /\ q.size <= 65536) : ∀ h ∈ p.hopsL l q tree at_, HopOk p h := fun h hm => by
 obtain ⟨i, f⟩ := HopP.facts (hopsK_mem (Nat.le_refl _) hm)
 exact f.okk h0 hq
theorem eRnd_nu {p : Pln} {l : List Bk} {q : Req} {tree at_ : List Int} (h0 : p.bkChk l = 0) (hq : 1 <= q.size /\ q.size <= 65536) (hl : at_.length = 16) :
 p.eRnd l q tree at_ = (false, at_) ∨ ((p.eRnd l q tree at_).1 = true /\ nu (p.eRnd l q tree at_).2 < nu at_) :=
 eFold_nu _ _ (hopsL_ok h0 hq) hl
end
section
open Go.RowKit Go.Shelf
attribute [local go_sem] Oper.semAt_some
theorem groups_stops (B n₁ : Nat) (S : Nat -> Prop) (z : Nat) (w : World) (hz : z < 9223372036854775808) (kb : Blk w B 3 #[.int .i64 z]) (hB : B < n₁ /\ ¬ S B) :
 SeqStopsK Fence.wide 4 Tryz.prog 250 #[.pointer (some ⟨B, 0, none⟩)] (grV (z := z)) (KpP n₁ S) GrF (fun _ => True) 65 w :=
 fun l J Jx W hW _ _ hY hj => groups_iter l B n₁ S z W hz (kb.ext hW) hB J Jx hY hj
set_option maxHeartbeats 400000 in
theorem groups_any (z : Nat) (w : World) :
 Calls Tryz.prog 186 #[.int .i64 z] w fun e w' => e = .returned (.func (.func 250) #[] #[.pointer (some ⟨w.heap.size, 0, none⟩)]) /\ Ext w w' /\ w'.heap.size = w.heap.size + 1 /\ Blk w' w.heap.size 3 #[.int .i64 z] := by
 obtain ⟨W1, hW1, hB1, hk1, hl1⟩ := box1 w #[.int .i64 z] 3
 have s1 : W1.heap.size = w.heap.size + 1 := by rw [<- hW1]; simp
 have S1 := Lib.hid s1
 clear s1
 go_enter Tryz.func186, Tryz.ntmps186
 go_wp2
 go_ret
 exact ⟨rfl, hB1, S1.out, hk1⟩
def gby (z i : Nat) : UInt8 := UInt8.ofNat (z / 128 ^ (ngr z - i) % 128 + if i = ngr z then 0 else 128)
def VRl (z : Nat) (bo b1 : Nat) (W0 : World) (pre : List (GrX z)) (W : World) : Prop := ∃ u, Owns EB W b1 5 u ((grI pre).map (gby z)) /\ Blk W bo 22 #[u] /\ Ext W0 W /\ b1 <= W.heap.size
theorem vrl_own {z bo b1 B : Nat} {W0 : World} (hB : W0.heap.size <= B) : OwnFrom B (VRl z bo b1 W0) := by
 intro pre X Y row hs hg hr
 obtain ⟨u, h1, h2, h3, h4⟩ := hs
 exact ⟨u, h1.keptc hg (fun r e => (hr r e).2), h2.keptc hg (fun r e => (hr r e).2), h3.keptb hg (fun r e => Nat.le_trans hB (hr r e).1), Nat.le_trans h4 hg.size⟩
theorem vrl_put {z bo b1 : Nat} {W0 W w6 : World} {pre : List (GrX z)} {x : GrX z} {y : UInt8} {u v6 : Value} {c : Obj} (hy : gby z x.1 = y) (h1 : Owns EB W b1 5 u ((grI pre).map (gby z))) (h2 : Blk W bo 22 #[u]) (h3 : Ext W0 W) (h4 : b1 <= W.heap.size) (hbo : bo < b1) (hW0 : W0.heap.size <= bo)
 (hv6 : Owns EB w6 b1 5 v6 ((grI pre).map (gby z) ++ [y])) (hg6 : (W.alloc c).grownBy w6 u.ownBlock) :
 Blk w6 bo 22 #[u] /\ KeepsFrom b1 W (w6.setCell ⟨bo, 0, none⟩ v6) /\ KpP b1 (fun b => b = bo) W (w6.setCell ⟨bo, 0, none⟩ v6) /\ VRl z bo b1 W0 (pre ++ [x]) (w6.setCell ⟨bo, 0, none⟩ v6) := by
 have hx := (Ext.refl W).alloc c
 have ho := h1.ext hx
 have ko6 := Blk.kepttZ (h2.ext hx) ho (by decide) hg6
 have hE6 := ext_grown (h3.trans hx) ho (by omega) hg6
 have hk6 := hx.keeps.trans (keeps_ownL ho hg6)
 have hkk := hk6.trans (KeepsOthers.setCell w6 ⟨bo, 0, none⟩ v6)
 have hgs := hg6.size
 have hxs := hx.size
 refine ⟨ko6, hkk.from _, ?_, v6, ?_, ko6.set0 _, hE6.setCell hW0 _, Nat.le_trans h4 hkk.size⟩
 ·refine KpP.setCell (S := fun b => b = bo) (KpP.trans (KpP.of_ext h4 hx) ⟨hg6.os, hg6.tape, hg6.output, hgs, fun k hk hs => hg6.block k (by omega) (fun e => ?_)⟩) (.inl rfl) _ _
  have := (ho.block e.symm).1
  omega
 ·rw [grI_snoc, List.map_append, List.map_cons, List.map_nil, hy]
  exact hv6.setZ ko6 (by decide) 0 _
theorem results_tmp2v {fn : Func} {a b : Tmp} (h : fn.results = #[.tmp a, .tmp b]) (tmps : Array Value) (P : Program) (w : World) : (results fn tmps).run P w = .ok (.tuple #[tmps.getD a undef, tmps.getD b undef]) w := by
 simp only [results, h]
 simp [Sem.run_bind, Result.andThen]
theorem grI_len {z : Nat} (ys : List (GrX z)) : (grI ys).length = ys.length := by simp [grI]
theorem gbyT (z i : Nat) (h : i = ngr z) : ((z / 128 ^ (ngr z - i) % 128 : Nat) : Int) = ((gby z i).toNat : Int) := by
 unfold gby
 rw [if_pos h, UInt8.toNat_ofNat', Nat.add_zero]
 omega
theorem gbyF (z i : Nat) (h : ¬ i = ngr z) : IntKind.u8.wrap (((z / 128 ^ (ngr z - i) % 128 : Nat) : Int) + 128) = ((gby z i).toNat : Int) := by
 unfold gby
 rw [if_neg h, UInt8.toNat_ofNat', IntKind.wrap_u8']
 omega
set_option maxRecDepth 100000 in
set_option maxHeartbeats 16000000 in
theorem Int_any (n : Int) (w : World) (h : -1152921504606846976 <= n /\ n <= 1152921504606846976) :
 Calls Tryz.prog 106 #[.int .i64 n] w fun e w' => e = .returned (.tuple #[strV (vint n), .int .i64 0]) /\ Ext w w' := by
 obtain ⟨i0, hi0, hz0, hz1, hz2⟩ := info_parts info_byte
 obtain ⟨W1, hW1, hB1, hk1, hl1⟩ := box1 w #[.slice none 0 0] 22
 have f1 := fun w => inRange_any n w
 rw [decide_eq_true h] at f1
 have f2 := fun w => zigzag_any n w h
 have hzz : zig n < 9223372036854775808 := by unfold zig; split <;> omega
 have HV := Lib.hid (show vint n = (List.range (ngr (zig n) + 1)).map (gby (zig n)) from rfl)
 obtain ⟨z, hz⟩ : ∃ z, zig n = z := ⟨_, rfl⟩
 rw [hz] at f2 hzz HV
 have f3 := fun w => groups_any z w
 have hng := (ngr_spec hzz).2.2
 clear hz h
 refine (callsIn_wide (n := 5)).1 ?_
 refine callsIn_of_wp_marks Tryz.func106 rfl trivial ?_ rfl
 refine wpIn_wide.2 ?_
 refine Code.wp_mono NoPanic.imp ?_
 simp only [Tryz.ntmps106, List.size_toArray, List.length_cons, List.length_nil, Nat.reduceAdd, Nat.reduceSub, Array.replicate_succ, Array.replicate_zero, List.push_toArray, List.append_toArray, List.nil_append, List.cons_append]
 go_wp2_with fail
 refine (f1 _).mono ?_
 clear f1
 rintro e wa ⟨rfl, rfl⟩
 go_wp2_with fail
 clear hW1
 refine (f2 _).mono ?_
 clear f2
 rintro e wa ⟨rfl, rfl⟩
 go_wp2_with fail
 refine (f3 _).mono ?_
 clear f3
 rintro e w8 ⟨rfl, hb8, hs8, z1⟩
 go_wp2_with fail
 refine (wpIn_wide (n := 5)).1 ?_
 refine wpIn_rangeFunc_ownH rfl (by omega) (gf := 250) (lb := #[.pointer (some ⟨W1.heap.size, 0, none⟩)]) rfl trivial (enters_of Tryz.func250 (by kernel_rfl) rfl)
  (groups_stops W1.heap.size w8.heap.size (fun b => b = w.heap.size) z w8 hzz z1 ⟨by omega, by omega⟩)
  KpP.trans (fun W l o o' hl _ _ _ => KpP.put W l o' hl) (Below.refl _ _) (fun _ => rfl)
  (VRl z w.heap.size w8.heap.size w) (fun _ _ _ => False) (vrl_own (by have := hB1.size; have := hb8.size; omega)) (fun _ _ _ _ _ hs _ _ => hs)
  ⟨.slice none 0 0, Owns.none_ _ _, hk1.ext hb8, hB1.trans hb8, Nat.le_refl _⟩
  (fun x a' _ => a' = { tmps := #[.int .i64 n, undef, .string ⟨#[]⟩, .int .i64 0, .pointer (some ⟨w.heap.size, 0, none⟩), .int .u8 ((z / 128 ^ (ngr z - x.1) % 128 : Nat) : Int), .bool (decide (x.1 = ngr z)), .int .i64 n, .bool true, .bool false, .int .i64 n, .int .i64 z, .func (.func 250) #[] #[.pointer (some ⟨W1.heap.size, 0, none⟩)], .int .u8 ((z / 128 ^ (ngr z - x.1) % 128 : Nat) : Int), .bool (decide (x.1 = ngr z)), undef, undef, undef, undef, undef, undef, undef, undef, undef, undef], defers := [] }) (fun _ _ _ _ _ _ hs _ _ => hs) ?assign ?body ?done ?stop
 case assign =>
  rintro li pre x W K hi hK
  simp only [grV]
  gi_wp2
  exact hK _ _ (KeepsFrom.refl _ _) (KpP.refl _ _ _) hi rfl
 case body =>
  rintro li pre x a' W hl _ ⟨u, h1, h2, h3, h4⟩ rfl hlen
  have hpl := grI_len pre
  obtain ⟨y, hy⟩ : ∃ y, gby z x.1 = y := ⟨_, rfl⟩
  have HY := Lib.hid hy
  obtain ⟨A, c, rfl, hR⟩ := h1.form
  have hml : ((grI pre).map (gby z)).length = pre.length := by rw [List.length_map, hpl]
  obtain ⟨l0, hl0⟩ : ∃ l0, (grI pre).map (gby z) = l0 := ⟨_, rfl⟩
  rw [hl0] at h1 h2 hR hml
  have PUT0 : Hid (∀ v6 w6 c0, Owns EB w6 w8.heap.size 5 v6 (l0 ++ [y]) -> (W.alloc c0).grownBy w6 (Value.slice A l0.length c).ownBlock -> _) := Lib.hid (fun v6 w6 c0 hv hg => vrl_put (z := z) (bo := w.heap.size) (b1 := w8.heap.size) (W0 := w) (W := W) (w6 := w6) (pre := pre) (x := x) (y := y) (u := .slice A l0.length c) (v6 := v6) (c := c0) hy (by rw [hl0]; exact h1) h2 h3 h4 (by omega) (Nat.le_refl _) (by rw [hl0]; exact hv) hg)
  have HL0 := Lib.hid hml
  have a1 := h2.cell
  have a2 := h2.lt
  clear hl0 hml hpl
  by_cases hi : x.1 = ngr z
  ·have e := gbyT z x.1 hi
   rw [e, hy, decide_eq_true hi]
   clear e hi hy
   gi_wp2_with (gi_at_builtin; refine wpListIn_pushL rfl (.tmp 19) (.tmp 21) _ (by rfl) w8.heap.size 5 i0 _ 1 Tryz.underlying22 hi0 hz0 hz1 hz2 (by rfl) (.slice A l0.length c) (by rfl) (h1.ext ((Ext.refl _).alloc _)) W.heap.size y (by rfl) (Blk.new W _ _) (by rw [HL0.out]; simp only [maxLen]; omega) (by rw [HL0.out]; omega) (by simp; omega) ?_; intro v6 w6 hv6 hg6 hat6; have PUT := PUT0.out _ _ _ hv6 hg6; obtain ⟨A7, d7, rfl, hR7⟩ := hv6.form; have m1 := PUT.1.cell; have m2 := PUT.1.lt; have m3 := PUT.1.frozen; simp only [List.length_append, List.length_cons, List.length_nil, Nat.zero_add] at hv6 PUT ⊢; have FIN := Lib.hid PUT.2; clear PUT)
   exact FIN.out
  ·have q1 := gbyF z x.1 hi
   rw [hy] at q1
   rw [decide_eq_false hi]
   obtain ⟨d, hd⟩ : ∃ d, z / 128 ^ (ngr z - x.1) % 128 = d := ⟨_, rfl⟩
   have hd9 : d < 128 := by omega
   rw [hd] at q1 ⊢
   clear hi hy hd
   gi_wp2_with (gi_at_builtin; refine wpListIn_pushL rfl (.tmp 19) (.tmp 21) _ (by rfl) w8.heap.size 5 i0 _ 1 Tryz.underlying22 hi0 hz0 hz1 hz2 (by rfl) (.slice A l0.length c) (by rfl) (h1.ext ((Ext.refl _).alloc _)) W.heap.size y (by rfl) (Blk.new W _ _) (by rw [HL0.out]; simp only [maxLen]; omega) (by rw [HL0.out]; omega) (by simp; omega) ?_; intro v6 w6 hv6 hg6 hat6; have PUT := PUT0.out _ _ _ hv6 hg6; obtain ⟨A7, d7, rfl, hR7⟩ := hv6.form; have m1 := PUT.1.cell; have m2 := PUT.1.lt; have m3 := PUT.1.frozen; simp only [List.length_append, List.length_cons, List.length_nil, Nat.zero_add] at hv6 PUT ⊢; have FIN := Lib.hid PUT.2; clear PUT)
   exact FIN.out
 case stop =>
  rintro D c pre W _ _ h _
  exact h.elim
 case done =>
  rintro D xs W hDD hF ⟨u, h1, h2, h3, h4⟩ hK
  have hd2 := (DSx.nil w8.heap.size w.heap.size W).cons hDD (by have := h3.size; have := hB1.size; have := hb8.size; omega) hK
  clear hK
  have hF' : grI xs = List.range (ngr z + 1) := hF
  rw [hF', <- HV.out] at h1
  obtain ⟨A, c, rfl, hR⟩ := h1.form
  have q1 := conv_str (P := Tryz.prog) W 22 9 5 A c (vint n) Tryz.underlying22 Tryz.underlying5 Tryz.underlying9 hR
  have a1 := h2.cell
  have a2 := h2.lt
  go_wp2_with fail
  show LeavesInM _ _ _ _ _ _ _ .returning _
  refine hd2.leaves ?_
  intro w' hw'
  have hfin := hw' (fun W => Ext w W) (fun s X Y row hs hg hr => hs.keptb hg (fun r e => (hr r e).1)) h3
  exact ⟨_, results_tmp2v rfl _ _ _, rfl, hfin⟩
end
section
open Go.RowKit Go.Shelf
attribute [local go_sem] Oper.semAt_some
theorem bap (a b : Bts) : (⟨a.toArray⟩ : ByteArray) ++ (⟨b.toArray⟩ : ByteArray) = ⟨(a ++ b).toArray⟩ := by
 apply ByteArray.ext
 simp
theorem ngrF_le (z : Nat) : ∀ f k, ngrF z f k <= k + f
 | 0, k => by simp [ngrF]
 | f + 1, k => by
   unfold ngrF
   split
   ·omega
   ·have := ngrF_le z f (k + 1); omega
theorem vint_len (n : Int) : (vint n).length <= 10 := by
 unfold vint vintN
 rw [List.length_map, List.length_range]
 have := ngrF_le (zig n) 9 0
 unfold ngr
 omega
set_option maxRecDepth 100000 in
set_option maxHeartbeats 4000000 in
theorem Text_any (s : Bts) (w : World) (h : s.length <= 65536) :
 Calls Tryz.prog 104 #[strV s] w fun e w' => e = .returned (.tuple #[strV (vtext s), .int .i64 0]) /\ Ext w w' := by
 have hi := fun w => Int_any (s.length : Int) w ⟨by omega, by omega⟩
 have d : decide ((65536 : Int) < (s.length : Int)) = false := decide_eq_false (by omega)
 have q := bap (vint (s.length : Int)) s
 unfold strV at hi ⊢
 go_enter Tryz.func104, Tryz.ntmps104
 go_wp2_with fail
 refine (hi _).mono ?_
 clear hi
 rintro e w1 ⟨rfl, hb1⟩
 have hv := vint_len (s.length : Int)
 have hvs : (vint (s.length : Int)).length + s.length <= 9223372036854775807 := by omega
 go_wp2
 go_ret2
 exact ⟨rfl, hb1⟩
theorem u32lt (a : UInt32) : a.toNat < 4294967296 := a.toNat_lt
theorem u32_xor (a b : UInt32) : bits .xor .u32 (a.toNat : Int) (b.toNat : Int) = ((a ^^^ b).toNat : Int) := by
 rw [u32_xor_nat _ _ (u32lt a) (u32lt b), UInt32.toNat_xor]
def cstK (r : UInt32) : Nat -> UInt32
 | 0 => r
 | k + 1 => cst1 (cstK r k)
theorem cstK_8 (r : UInt32) : cstK r 8 = cst r := rfl
set_option maxRecDepth 100000 in
set_option maxHeartbeats 4000000 in
theorem step_any (r : UInt32) (w : World) :
 Calls Tryz.prog 336 #[.int .u32 r.toNat] w fun e w' => e = .returned (.int .u32 (cst r).toNat) /\ w = w' := by
 have H8 := Lib.hid (cstK_8 r)
 go_enter Tryz.func336, Tryz.ntmps336
 go_wp2_with fail
 go_loopg [0, 3] 8 (fun n v m wr => ∃ k : Nat, k + n = 8 /\ m = .int .i64 k /\ v = .int .u32 (cstK r k).toNat /\ wr = w)
 case atStart => exact ⟨0, rfl, by go_num, rfl, rfl⟩
 case round =>
  obtain ⟨k, hkn, rfl, rfl, rfl⟩ := hrel
  have Hkn := Lib.hid hkn
  have hk8 : k <= 8 := by omega
  clear hkn
  by_cases hlt : k < 8
  ·have hsu : cstK r (k + 1) = cst1 (cstK r k) := rfl
   obtain ⟨x, hx⟩ : ∃ x, cstK r k = x := ⟨_, rfl⟩
   rw [hx] at hsu ⊢
   have hxl := u32lt x
   by_cases h2 : x % 2 = 1
   ·obtain ⟨y, hy⟩ : ∃ y, (x / 2) ^^^ 2197175160 = y := ⟨_, rfl⟩
    have q1 : bits .xor .u32 ((x.toNat : Int) / 2) 2197175160 = (y.toNat : Int) := by
     have h9 := u32_xor (x / 2) 2197175160
     rw [hy, UInt32.toNat_div] at h9
     exact h9
    have e2 : ((x.toNat : Int) % 2 == 1) = true := by
     have := congrArg UInt32.toNat h2
     rw [UInt32.toNat_mod] at this
     simp at this
     rw [beq_iff_eq]
     omega
    have HS := Lib.hid (show cstK r (k + 1) = y by rw [hsu, <- hy]; unfold cst1; rw [if_pos h2])
    clear hsu hx h2 hy
    go_wp2_with fail
    go_roundg (gk - 1)
    case measure => have := Hkn.out; omega
    case rel => exact ⟨k + 1, by have := Hkn.out; omega, by go_num, by rw [HS.out], rfl⟩
   ·obtain ⟨y, hy⟩ : ∃ y, x / 2 = y := ⟨_, rfl⟩
    have q1 : ((x.toNat : Int) / 2) = (y.toNat : Int) := by
     have h9 : (x / 2).toNat = x.toNat / 2 := UInt32.toNat_div x 2
     rw [<- hy, h9]
     rfl
    have e2 : ((x.toNat : Int) % 2 == 1) = false := by
     rw [beq_eq_false_iff_ne]
     intro h9
     apply h2
     apply UInt32.toNat_inj.1
     rw [UInt32.toNat_mod]
     show x.toNat % 2 = 1
     omega
    have HS := Lib.hid (show cstK r (k + 1) = y by rw [hsu, <- hy]; unfold cst1; rw [if_neg h2])
    clear hsu hx h2 hy
    go_wp2_with fail
    go_roundg (gk - 1)
    case measure => have := Hkn.out; omega
    case rel => exact ⟨k + 1, by have := Hkn.out; omega, by go_num, by rw [HS.out], rfl⟩
  ·obtain rfl : k = 8 := by omega
   rw [H8.out]
   go_wp2
   go_ret
   exact ⟨rfl, rfl⟩
end
section
open Go.RowKit Go.Shelf
attribute [local go_sem] Oper.semAt_some
def tabV (l : List UInt32) : Array Value := (l.map fun x => Value.int .u32 (x.toNat : Int)).toArray
theorem tab_info : (Tryz.prog.info? 445).map (fun i => (i.zero, i.size)) = some (some (.agg (tabV (List.replicate 256 0))), 256) := by kernel_rfl
theorem tab_size : (Tryz.prog.info? 445).map (·.size) = some 256 := (zero_of_info (P := Tryz.prog) tab_info).2
theorem tabV_get {l : List UInt32} {i : Nat} (h : i < l.length) : (tabV l)[i]? = some (.int .u32 (l[i].toNat : Int)) := by
 unfold tabV
 simp [h]
theorem tabV_size (l : List UInt32) : (tabV l).size = l.length := by simp [tabV]
theorem tabV_one (l : List UInt32) : (tabV l).all (·.oneCell') = true := by
 rw [Array.all_eq_true_iff_forall_mem]
 intro v hv
 simp [tabV] at hv
 obtain ⟨x, _, rfl⟩ := hv
 rfl
theorem tabV_set {l : List UInt32} {i : Nat} (x : UInt32) : (tabV l).setIfInBounds i (.int .u32 (x.toNat : Int)) = tabV (l.set i x) := by
 unfold tabV
 apply Array.ext_getElem?
 intro k
 simp only [Array.getElem?_setIfInBounds, List.getElem?_toArray, List.size_toArray, List.length_map, List.getElem?_map, List.getElem?_set]
 by_cases e : i = k
 ·subst e
  by_cases h : i < l.length <;> simp [h]
 ·simp [e]
theorem tabV_setRow {w : World} {g : Nat} {t : TypeId} {cs : Array Value} (h : Blk w g t cs) (ds : Array Value) : Blk (w.setRow g ds) g t ds := setRow_heap w g cs ds t (0, 0) h
theorem tab_grown (w : World) (g : Nat) (ds : Array Value) : w.grownBy (w.setRow g ds) (some g) :=
 ⟨rfl, rfl, rfl, by simp, fun k _ hk => setRow_other w g k ds (fun e => hk (by rw [e]))⟩
section
variable {ops : Array Oper} {rest : List Oper} {o : Oper} {a : Act} {w : World} {Q : Exit -> Act -> World -> Prop} {x y : Operand} {g : Nat} {T T' : List UInt32}
theorem wpList_loadT (ho : o.op = .load 445 x) (hgd : o.guard = none) (hx : a.eval x = .pointer (some ⟨g, 0, none⟩)) (hg : Blk w g 445 (tabV T)) (hT : T.length = 256)
 (h : wpList Tryz.prog ops Q rest (a.put o.dst (.agg (tabV T))) w) : wpList Tryz.prog ops Q (o :: rest) a w :=
 wpList_load_row hgd 445 x ho g hx 445 (tabV T) (0, 0) _ hg Tryz.underlying445 rfl (by rw [tabV_size, hT]; exact tab_size) h
theorem wpList_storeT (ho : o.op = .store 445 x y) (hgd : o.guard = none) (hx : a.eval x = .pointer (some ⟨g, 0, none⟩)) (hy : a.eval y = .agg (tabV T')) (hg : Blk w g 445 (tabV T)) (hT : T.length = 256) (hT' : T'.length = 256)
 (h : ∀ W', w.grownBy W' (some g) -> Blk W' g 445 (tabV T') -> wpList Tryz.prog ops Q rest (a.put o.dst undef) W') : wpList Tryz.prog ops Q (o :: rest) a w :=
 wpList_store_row hgd 445 x y ho g (tabV T') hx hy 445 (tabV T) hg (by rw [tabV_size, hT']; exact tab_size) (by rw [tabV_size, tabV_size, hT, hT']) (tabV_one _)
  (h _ (tab_grown w g _) (tabV_setRow hg _))
end
theorem resultsT {fn : Func} {p : Tmp} (h : fn.results = #[.cell p 445]) {tmps : Array Value} {w : World} {g : Nat} {T : List UInt32} (hp : tmps.getD p undef = .pointer (some ⟨g, 0, none⟩)) (hg : Blk w g 445 (tabV T)) (hT : T.length = 256) :
 (results fn tmps).run Tryz.prog w = .ok (.agg (tabV T)) w := by
 exact results_cell_row h tmps w g 445 (tabV T) (0, 0) _ hp hg Tryz.underlying445 rfl (by rw [tabV_size, hT]; exact tab_size)
def tabK (j : Nat) : List UInt32 := (List.range 256).map fun i => if i < j then cst (UInt32.ofNat i) else 0
def tabL : List UInt32 := (List.range 256).map fun i => cst (UInt32.ofNat i)
theorem tabK_len (j : Nat) : (tabK j).length = 256 := by simp [tabK]
theorem tabL_len : tabL.length = 256 := by simp [tabL]
theorem tabK_0 : tabK 0 = List.replicate 256 0 := by
 rw [List.eq_replicate_iff]
 refine ⟨tabK_len 0, ?_⟩
 intro b hb
 unfold tabK at hb
 rw [List.mem_map] at hb
 obtain ⟨i, _, rfl⟩ := hb
 exact if_neg (by omega)
theorem tabK_end : tabK 256 = tabL := by
 unfold tabK tabL
 apply List.map_congr_left
 intro i hi
 rw [if_pos (by simpa using hi)]
theorem tabK_step {j : Nat} (h : j < 256) : (tabK j).set j (cst (UInt32.ofNat j)) = tabK (j + 1) := by
 apply List.ext_getElem
 ·simp [tabK]
 ·intro i h1 h2
  simp only [tabK, List.getElem_set, List.getElem_map, List.getElem_range]
  by_cases e : j = i
  ·subst e; rw [if_pos rfl, if_pos (by omega)]
  ·rw [if_neg e]
   by_cases e2 : i < j
   ·rw [if_pos e2, if_pos (by omega)]
   ·rw [if_neg e2, if_neg (by omega)]
set_option maxRecDepth 100000 in
set_option maxHeartbeats 4000000 in
theorem table_any (w : World) :
 Calls Tryz.prog 327 #[] w fun e w' => e = .returned (.agg (tabV tabL)) /\ Ext w w' := by
 obtain ⟨Z, hZ⟩ : ∃ Z, tabV (List.replicate 256 0) = Z := ⟨_, rfl⟩
 have hz := (zero_of_info (P := Tryz.prog) tab_info).1
 obtain ⟨W, hW, hB, hk, hlt⟩ := box1 w Z 445
 obtain ⟨W2, hW2, hB2, hk2, hlt2⟩ := box1 W Z 445
 rw [hZ] at hz
 have HZ := Lib.hid hZ
 clear hZ
 go_enter Tryz.func327, Tryz.ntmps327
 go_wp2_with fail
 go_loopg [3] 256 (fun q k wr => ∃ j : Nat, j + q = 256 /\ k = .int .i64 j /\ Blk wr W.heap.size 445 (tabV (tabK j)) /\ Ext W wr)
 case atStart => exact ⟨0, by omega, rfl, by rw [tabK_0, HZ.out]; exact hk2, hB2⟩
 case round =>
  obtain ⟨j, hjq, rfl, hkb, hx⟩ := hrel
  have Hjq := Lib.hid hjq
  have hjN : j <= 256 := by omega
  clear hjq
  by_cases hl2 : j < 256
  ·have hst := fun w => step_any (UInt32.ofNat j) w
   have hHS := Lib.hid (tabK_step hl2)
   obtain ⟨y, hy⟩ : ∃ y, cst (UInt32.ofNat j) = y := ⟨_, rfl⟩
   rw [hy] at hst hHS
   rw [show (UInt32.ofNat j).toNat = j by simp; omega] at hst
   clear hy
   have q1 : IntKind.u32.wrap (j : Int) = (j : Int) := by rw [IntKind.wrap_u32]; omega
   have q2 : (j : Int) % 4294967296 = (j : Int) := by omega
   have hcell := (hkb.cell j).trans (tabV_get (by rw [tabK_len]; exact hl2))
   have hfz := hkb.frozen
   have hgl := hkb.lt
   have hset := hkb.set_ j (.int .u32 (y.toNat : Int))
   rw [tabV_set, hHS.out] at hset
   have hxs : Ext W (wr.setCell ⟨W.heap.size, j, none⟩ (.int .u32 (y.toNat : Int))) := hx.setCell (Nat.le_refl _) _
   generalize ((tabK j)[j]'_).toNat = yy at hcell
   go_wp2_with fail
   refine (hst _).mono ?_
   clear hst
   rintro e w1 ⟨rfl, rfl⟩
   go_wp2
   go_roundg (gk - 1)
   case measure => have := Hjq.out; omega
   case rel => exact ⟨j + 1, by have := Hjq.out; omega, by go_num, hset, hxs⟩
  ·obtain rfl : j = 256 := by omega
   have hkr := hk.ext hx
   rw [<- HZ.out] at hkr
   rw [tabK_end] at hkb
   have hE := hB.trans hx
   go_wp2_with (first | (refine wpList_loadT rfl rfl rfl hkb tabL_len ?_) | (refine wpList_storeT rfl rfl rfl rfl hkr (by simp) tabL_len ?_; intro W8 hg8 hk8))
   refine bodyPost_ret (v := .agg (tabV tabL)) (resultsT rfl rfl hk8 tabL_len) rfl ?_
   exact ⟨rfl, hE.keptb hg8 (by rintro r ⟨rfl⟩; exact Nat.le_refl _)⟩
end
section
open Go.RowKit
attribute [local go_sem] Oper.semAt_some
def byV (x : UInt8) : Array Value := #[.int .u8 (x.toNat : Int)]
def ByF (s : Bts) (ys : Bts) : Prop := ys = s
theorem ba_size (s : Bts) : (⟨s.toArray⟩ : ByteArray).size = s.length := by
 show s.toArray.size = s.length
 simp
theorem ba_get (s : Bts) (i : Nat) (h : i < s.length) (h' : i < (⟨s.toArray⟩ : ByteArray).size) : (⟨s.toArray⟩ : ByteArray)[i]'h' = s[i] := rfl
set_option maxRecDepth 100000 in
set_option maxHeartbeats 4000000 in
theorem bytes_iter (l B n₁ : Nat) (S : Nat -> Prop) (s : Bts) (W : World) (hz : s.length <= 1000000) (kb : Blk W B 9 #[strV s]) (hB : B < n₁ /\ ¬ S B)
 (J Jx : Bts -> World -> Prop)
 (hY : ∀ pre x W, J pre W -> pre.length < 1000001 -> YieldAt Fence.wide 3 Tryz.prog l (byV x) W fun e W' =>
  (e = .returned (.bool true) /\ J (pre ++ [x]) W' /\ KpP n₁ S W W') ∨ (e = .returned (.bool false) /\ Jx (pre ++ [x]) W'))
 (hj : J [] W) :
 CallsIn Fence.wide 4 Tryz.prog 337 #[.func (.yield l) #[] #[], .pointer (some ⟨B, 0, none⟩)] W fun e W' => (∃ v, e = .returned v) /\
  ((∃ ys : Bts, ByF s ys /\ J ys W') ∨ (∃ pre : Bts, True /\ Jx pre W')) := by
 have c1 := kb.cell
 have c2 := kb.lt
 have hsz := ba_size s
 obtain ⟨n, hn⟩ : ∃ n, s.length = n := ⟨_, rfl⟩
 rw [hn] at hsz hz
 obtain ⟨ba, hba, hge⟩ : ∃ ba : ByteArray, ⟨s.toArray⟩ = ba /\ ∀ (i : Nat) (h : i < s.length) (h' : i < ba.size), ba[i]'h' = s[i]'h := ⟨_, rfl, fun i h h' => ba_get s i h h'⟩
 rw [hba] at hsz
 unfold strV at kb c1
 rw [hba] at kb c1
 have HN := Lib.hid hn
 clear hn hba
 refine callsIn_of_wp Tryz.func337 rfl trivial ?_ rfl
 simp only [Tryz.ntmps337, List.size_toArray, List.length_cons, List.length_nil, Nat.reduceAdd, Nat.reduceSub, Array.replicate_succ, Array.replicate_zero, List.push_toArray, List.append_toArray, List.nil_append, List.cons_append]
 gi_wp2
 clear c1 c2
 gi_loopw [6] (fun v wx => ∃ i : Nat, i <= n /\ v = .int .i64 i /\ J (s.take i) wx /\ Blk wx B 9 #[.string ba]) (fun v _ => n - (intOf v).toNat)
 case atStart => exact ⟨0, Nat.zero_le _, by go_num, by simpa using hj, kb⟩
 case round =>
  obtain ⟨i, hin, rfl, hjr, kx⟩ := hrel
  have c1 := kx.cell
  have c2 := kx.lt
  by_cases hlt : i < n
  ·have hlen : i < s.length := by rw [HN.out]; exact hlt
   have hg := hge i hlen
   obtain ⟨x, hx⟩ : ∃ x, s[i] = x := ⟨_, rfl⟩
   have hst := Lib.hid (show s.take (i + 1) = s.take i ++ [x] by rw [<- hx, List.take_append_getElem])
   rw [hx] at hg
   obtain ⟨fn, tmps, assign, body, hy, hR⟩ := hY (s.take i) x wr hjr (by rw [List.length_take]; omega)
   dsimp only [byV] at hy
   clear hx hlen hge
   gi_wp2
   refine hR.mono ?_
   rintro e W6 (⟨rfl, hJ6, hk6⟩ | ⟨rfl, hJx6⟩)
   ·have kx6 := hk6.blk kx hB.1 hB.2
    clear c1 c2
    gi_wp2
    go_roundw
    case rel => exact ⟨i + 1, by omega, by go_num, by rw [hst.out]; exact hJ6, kx6⟩
    case measure => simp [intOf]; omega
   ·gi_wp2
    refine bodyPost_ret (results_none rfl _ _ _) rfl ?_
    exact ⟨⟨_, rfl⟩, .inr ⟨_, trivial, hJx6⟩⟩
  ·obtain rfl : i = n := by omega
   gi_wp2
   go_end0
   exact ⟨⟨_, rfl⟩, .inl ⟨s, rfl, by rw [List.take_of_length_le (by rw [HN.out]; exact Nat.le_refl _)] at hjr; exact hjr⟩⟩
theorem bytes_stops (B n₁ : Nat) (S : Nat -> Prop) (s : Bts) (w : World) (hz : s.length <= 1000000) (kb : Blk w B 9 #[strV s]) (hB : B < n₁ /\ ¬ S B) :
 SeqStopsK Fence.wide 4 Tryz.prog 337 #[.pointer (some ⟨B, 0, none⟩)] byV (KpP n₁ S) (ByF s) (fun _ => True) 1000001 w :=
 fun l J Jx W hW _ _ hY hj => bytes_iter l B n₁ S s W hz (kb.ext hW) hB J Jx hY hj
set_option maxHeartbeats 400000 in
theorem bytes_any (s : Bts) (w : World) :
 Calls Tryz.prog 328 #[strV s] w fun e w' => e = .returned (.func (.func 337) #[] #[.pointer (some ⟨w.heap.size, 0, none⟩)]) /\ Ext w w' /\ w'.heap.size = w.heap.size + 1 /\ Blk w' w.heap.size 9 #[strV s] := by
 obtain ⟨v, hv⟩ : ∃ v, (⟨s.toArray⟩ : ByteArray) = v := ⟨_, rfl⟩
 unfold strV
 rw [hv]
 obtain ⟨W1, hW1, hB1, hk1, hl1⟩ := box1 w #[.string v] 9
 have s1 : W1.heap.size = w.heap.size + 1 := by rw [<- hW1]; simp
 have S1 := Lib.hid s1
 clear s1 hv
 go_enter Tryz.func328, Tryz.ntmps328
 go_wp2
 go_ret
 exact ⟨rfl, hB1, S1.out, hk1⟩
end
section
open Go.RowKit Go.Shelf
attribute [local go_sem] Oper.semAt_some
end
section
open Go.RowKit Go.Shelf
end
section
open Go.RowKit Go.Shelf
end
end Go.Proofs.YtemkpimngbbpkaaGreat
