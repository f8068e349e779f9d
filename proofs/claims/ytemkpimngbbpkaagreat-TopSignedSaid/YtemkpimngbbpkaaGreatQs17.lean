/- Layer 35 (multicast): hop. · Layer 35 (multicast): whole arrays of 16 numbers, read and written as rows. · Layer 35 (multicast): the hops of a round, plain. · Layer 35 (multicast): the iterator over the first hops. · Layer 35 (multicast): earliest, plain. -/
import Derived.BigRegion
import Derived.Laws.Rows
import Derived.Deep.WholeRow
import Derived.Deep.RegionHeld3
import Derived.Test.YtemkpimngbbpkaaGreatQs04
import Derived.Test.YtemkpimngbbpkaaGreatQs06
import Derived.Test.YtemkpimngbbpkaaGreatQs16
namespace Go.Proofs.YtemkpimngbbpkaaGreat
set_option linter.unusedVariables false
set_option linter.unusedSimpArgs false
section
open Go.RowKit Go.Shelf
attribute [local go_sem] Oper.semAt_some
def hpAt (c : Con) (i : Int) (n b : Int) : Hp := ⟨i, b, b + c.dur n, b + c.dur n + c.rng⟩
def Pln.mhop (p : Pln) (l : List Bk) (q : Req) (i : Nat) (t : Int) : Option Hp :=
 match fitL ((gc p.cons i).dur q.size) (freeL (gc p.cons i) l i t) with
 | none => none
 | some b => if b + (gc p.cons i).dur q.size + (gc p.cons i).rng <= q.dead then some (hpAt (gc p.cons i) i q.size b) else none
theorem mhop_some {p : Pln} {l : List Bk} {q : Req} {i : Nat} {t : Int} {h : Hp} (e : p.mhop l q i t = some h) :
 ∃ b, fitL ((gc p.cons i).dur q.size) (freeL (gc p.cons i) l i t) = some b /\ h = hpAt (gc p.cons i) i q.size b /\ h.arr <= q.dead := by
 unfold Pln.mhop at e
 split at e
 ·cases e
 ·rename_i b hb
  split at e
  ·rename_i hd
   injection e with e
   subst e
   exact ⟨b, hb, rfl, hd⟩
  ·cases e
set_option maxRecDepth 100000 in
set_option maxHeartbeats 8000000 in
theorem mhop_any (Aq : Option Addr) (cq : Nat) (Ac : Option Addr) (cc : Nat) (p : Pln) (Al : Option Addr) (cl : Nat) (l : List Bk) (Ah : Option Addr) (nh ch : Nat) (q : Req) (i : Nat) (t : Int) (w : World) (h : PlnRd w Aq cq Ac cc p) (hl : Rd EBk w Al l) (h0 : p.bkChk l = 0) (hf : fineR p q = true) (hi : i < p.cons.length) :
 Calls Tryz.prog 244 #[.agg #[.slice Aq p.quo.length cq, .slice Ac p.cons.length cc, .slice Al l.length cl, .slice Ah nh ch], q.val, .int .i64 i, .int .i64 t] w fun e w' => (∃ x : Hp, e = .returned (.tuple #[x.val, .bool (p.mhop l q i t).isSome]) /\ ∀ y, p.mhop l q i t = some y -> x = y) /\ Ext w w' := by
 obtain ⟨W1, hW1, hB1, hk1, hkq, hl1, hlq⟩ := box2 w #[.slice Aq p.quo.length cq, .slice Ac p.cons.length cc, .slice Al l.length cl, .slice Ah nh ch] q.cells 83 85
 simp only [Req.cells] at hW1 hkq
 obtain ⟨W2, hW2, hB2, hk2, hl2⟩ := box1 W1 #[.int .i64 0, .int .i64 0, .int .i64 0, .int .i64 0] 94
 have hf2 := fineR_of hf
 have hqo := hf2.2
 simp only [Req.okB, decide_eq_true_eq] at hqo
 have hn : 1 <= q.size /\ q.size <= 65536 := by omega
 have hii : 0 <= (i : Int) /\ (i : Int) < p.cons.length := by omega
 have hE2 := hB1.trans hB2
 have hfi := fun w h hl => Fit_any Aq cq Ac cc p Al cl l i t q.size w h hl h0 hii hn
 have hin := bkIn_of h0 (i : Int)
 have hok := Pln.ok_of hf2.1
 have hgc : gc p.cons (i : Int) = p.cons[i] := gc_get (i := (i : Int)) (by omega)
 have hcok := (hok.con _ (List.getElem_mem hi)).1
 rw [<- hgc] at hcok
 have hrd := h.ext hE2
 have hl3 := hl.ext hE2
 have s0 := (hk1.ext hB2).cell
 have s1 := (hkq.ext hB2).cell
 have s2 := (hk1.ext hB2).lt
 have s3 := (hkq.ext hB2).lt
 have hho := fun b w h hb => tHop_any Aq cq Ac cc p q i b w h hf hii hb
 obtain ⟨c, hc⟩ : ∃ c, gc p.cons (i : Int) = c := ⟨_, rfl⟩
 have Hc := Lib.hid hc
 rw [hc] at hfi hin hcok hho
 cases hF : fitL (c.dur q.size) (freeL c l i t) with
 | none =>
   rw [hF] at hfi
   have HV := Lib.hid (show p.mhop l q i t = none by unfold Pln.mhop; rw [Hc.out, hF])
   clear hF hcok hok hf2 hqo hgc hc hin hho
   simp only [fitV] at hfi
   unfold Pln.val at hfi
   unfold Req.val
   go_enter Tryz.func244, Tryz.ntmps244
   go_wp2_with fail
   clear hW1 hW2
   refine (hfi _ hrd hl3).mono ?_
   clear hfi
   rintro e w4 ⟨rfl, hb4⟩
   have hEE := hE2.trans hb4
   have hk4 := hk2.ext hb4
   have hc4 := hk4.cell
   have hf4 := hk4.frozen
   have hl4 := hk4.lt
   obtain ⟨w7, hw7, hz7, hE7⟩ : ∃ w7, w4.setCells W1.heap.size 0 [.int .i64 0, .int .i64 0, .int .i64 0, .int .i64 0] = w7 /\ Blk w7 W1.heap.size 94 #[.int .i64 0, .int .i64 0, .int .i64 0, .int .i64 0] /\ Ext w w7 :=
    ⟨_, rfl, hk4.setCells_ [.int .i64 0, .int .i64 0, .int .i64 0, .int .i64 0] 0, ext_setCells hEE hB1.size 0 _⟩
   simp only [World.setCells, Nat.zero_add, Nat.reduceAdd] at hw7
   go_wp2
   have hc7 := hz7.cell
   refine bodyPost_ret (v := .tuple #[.agg #[.int .i64 0, .int .i64 0, .int .i64 0, .int .i64 0], .bool false]) (by rw [results_cell_tmp rfl]; simp [asAddr, Result.andThen, hc7, go_sem]) rfl ?_
   exact ⟨⟨⟨0, 0, 0, 0⟩, by rw [HV.out]; rfl, by rw [HV.out]; intro y hy; cases hy⟩, hE7⟩
 | some b =>
   rw [hF] at hfi
   have hge := fitL_ge hin hF
   have hho1 := fun w h => hho b w h (by omega)
   have dbd := Con.dur_bd hcok hn.1 hn.2
   have hst0 := hcok.st0
   have hen1 := hcok.en1
   have hrg0 := hcok.rng0
   have HV := Lib.hid (show p.mhop l q i t = if b + c.dur q.size + c.rng <= q.dead then some ⟨i, b, b + c.dur q.size, b + c.dur q.size + c.rng⟩ else none by unfold Pln.mhop; rw [Hc.out, hF]; rfl)
   clear hF hcok hok hf2 hqo hgc hc hin hho
   simp only [fitV] at hfi
   unfold Pln.val at hfi hho1
   unfold Req.val at hho1 ⊢
   generalize c.dur q.size = d at *
   go_enter Tryz.func244, Tryz.ntmps244
   go_wp2_with fail
   clear hW1 hW2
   refine (hfi _ hrd hl3).mono ?_
   clear hfi
   rintro e w4 ⟨rfl, hb4⟩
   clear s0 s1 s2 s3
   have kt := (hk1.ext hB2).ext hb4
   have kq := (hkq.ext hB2).ext hb4
   have s0 := kt.cell
   have s1 := kq.cell
   have s2 := kt.lt
   have s3 := kq.lt
   go_wp2_with fail
   refine (hho1 _ (hrd.ext hb4)).mono ?_
   clear hho1
   rintro e w5 ⟨rfl, hb5⟩
   clear s0 s1 s2 s3
   obtain ⟨W6, hW6, hB6, hk6, hl6⟩ := box1 w5 #[.int .i64 i, .int .i64 b, .int .i64 (b + d), .int .i64 (b + d + c.rng)] 94
   have kq6 := (kq.ext hb5).ext hB6
   have s0 := hk6.cell
   have s1 := kq6.cell
   have s2 := hk6.lt
   have s3 := kq6.lt
   have hEE := ((hE2.trans hb4).trans hb5).trans hB6
   have hk4 := ((hk2.ext hb4).ext hb5).ext hB6
   have hc4 := hk4.cell
   have hf4 := hk4.frozen
   have hl4 := hk4.lt
   have g1 := hB2.size
   have g2 := hb4.size
   have g3 := hb5.size
   have hne1 : ¬ W1.heap.size = w5.heap.size := by omega
   have hne2 : ¬ W1.heap.size = w.heap.size + 1 := by omega
   have hne3 : ¬ w5.heap.size = W1.heap.size := by omega
   have hne4 : ¬ w.heap.size + 1 = W1.heap.size := by omega
   go_wp2_with fail
   clear hW6
   by_cases hdl : b + d + c.rng <= q.dead
   ·have HM := Lib.hid (HV.out.trans (if_pos hdl))
    go_region
    obtain ⟨w7, hw7, hz7, hE7⟩ : ∃ w7, (W6.setCells W1.heap.size 0 [.int .i64 i, .int .i64 b, .int .i64 (b + d), .int .i64 (b + d + c.rng)]).drew = w7 /\ Blk w7 W1.heap.size 94 #[.int .i64 i, .int .i64 b, .int .i64 (b + d), .int .i64 (b + d + c.rng)] /\ Ext w w7 :=
     ⟨_, rfl, hk4.setCells_ [.int .i64 i, .int .i64 b, .int .i64 (b + d), .int .i64 (b + d + c.rng)] 0, (ext_setCells hEE hB1.size 0 _).drew⟩
    simp only [World.setCells, Nat.zero_add, Nat.reduceAdd] at hw7
    rw [hw7]
    clear hw7
    go_wp2
    have hc7 := hz7.cell
    refine bodyPost_ret (v := .tuple #[.agg #[.int .i64 i, .int .i64 b, .int .i64 (b + d), .int .i64 (b + d + c.rng)], .bool true]) (by rw [results_cell_tmp rfl]; simp [asAddr, Result.andThen, hc7, go_sem]) rfl ?_
    exact ⟨⟨⟨i, b, b + d, b + d + c.rng⟩, by rw [HM.out]; rfl, by rw [HM.out]; intro y hy; injection hy⟩, hE7⟩
   ·have HM := Lib.hid (HV.out.trans (if_neg hdl))
    have ddl : decide (b + d + c.rng <= q.dead) = false := decide_eq_false hdl
    go_region
    obtain ⟨w7, hw7, hz7, hE7⟩ : ∃ w7, (W6.setCells W1.heap.size 0 [.int .i64 i, .int .i64 b, .int .i64 (b + d), .int .i64 (b + d + c.rng)]).drew = w7 /\ Blk w7 W1.heap.size 94 #[.int .i64 i, .int .i64 b, .int .i64 (b + d), .int .i64 (b + d + c.rng)] /\ Ext w w7 :=
     ⟨_, rfl, hk4.setCells_ [.int .i64 i, .int .i64 b, .int .i64 (b + d), .int .i64 (b + d + c.rng)] 0, (ext_setCells hEE hB1.size 0 _).drew⟩
    simp only [World.setCells, Nat.zero_add, Nat.reduceAdd] at hw7
    rw [hw7]
    clear hw7
    go_wp2
    have hc7 := hz7.cell
    refine bodyPost_ret (v := .tuple #[.agg #[.int .i64 i, .int .i64 b, .int .i64 (b + d), .int .i64 (b + d + c.rng)], .bool false]) (by rw [results_cell_tmp rfl]; simp [asAddr, Result.andThen, hc7, go_sem]) rfl ?_
    exact ⟨⟨⟨i, b, b + d, b + d + c.rng⟩, by rw [HM.out]; rfl, by rw [HM.out]; intro y hy; cases hy⟩, hE7⟩
end
section
open Go.RowKit
theorem info_times : (Tryz.prog.info? 175).map (fun i => (i.zero, i.size)) = some (some (.agg #[.int .i64 0, .int .i64 0, .int .i64 0, .int .i64 0, .int .i64 0, .int .i64 0, .int .i64 0, .int .i64 0, .int .i64 0, .int .i64 0, .int .i64 0, .int .i64 0, .int .i64 0, .int .i64 0, .int .i64 0, .int .i64 0]), 16) := by kernel_rfl
theorem size_times : (Tryz.prog.info? 175).map (·.size) = some 16 := (zero_of_info (P := Tryz.prog) info_times).2
theorem arrV_one (T : List Int) : (arrV T).all (·.oneCell') = true := by
 rw [Array.all_eq_true_iff_forall_mem]
 intro v hv
 simp [arrV] at hv
 obtain ⟨x, _, rfl⟩ := hv
 rfl
theorem arrV_setRow {w : World} {g : Nat} {t : TypeId} {cs : Array Value} (h : Blk w g t cs) (ds : Array Value) : Blk (w.setRow g ds) g t ds := setRow_heap w g cs ds t (0, 0) h
theorem grown_setRow (w : World) (g : Nat) (ds : Array Value) : w.grownBy (w.setRow g ds) (some g) :=
 ⟨rfl, rfl, rfl, by simp, fun k _ hk => setRow_other w g k ds (fun e => hk (by rw [e]))⟩
section
variable {ops : Array Oper} {rest : List Oper} {o : Oper} {a : Act} {w : World} {Q : Exit -> Act -> World -> Prop} {x y : Operand} {g : Nat} {T T' : List Int}
theorem wpList_load16 (ho : o.op = .load 175 x) (hgd : o.guard = none) (hx : a.eval x = .pointer (some ⟨g, 0, none⟩)) (hg : Blk w g 175 (arrV T)) (hT : T.length = 16)
 (h : wpList Tryz.prog ops Q rest (a.put o.dst (.agg (arrV T))) w) : wpList Tryz.prog ops Q (o :: rest) a w :=
 wpList_load_row hgd 175 x ho g hx 175 (arrV T) (0, 0) _ hg Tryz.underlying175 rfl (by rw [arrV_size, hT]; exact size_times) h
theorem wpList_store16 (ho : o.op = .store 175 x y) (hgd : o.guard = none) (hx : a.eval x = .pointer (some ⟨g, 0, none⟩)) (hy : a.eval y = .agg (arrV T')) (hg : Blk w g 175 (arrV T)) (hT : T.length = 16) (hT' : T'.length = 16)
 (h : ∀ W', w.grownBy W' (some g) -> Blk W' g 175 (arrV T') -> wpList Tryz.prog ops Q rest (a.put o.dst undef) W') : wpList Tryz.prog ops Q (o :: rest) a w :=
 wpList_store_row hgd 175 x y ho g (arrV T') hx hy 175 (arrV T) hg (by rw [arrV_size, hT']; exact size_times) (by rw [arrV_size, arrV_size, hT, hT']) (arrV_one _)
  (h _ (grown_setRow w g _) (arrV_setRow hg _))
theorem wpList_fresh16 {c : Array Value} (ho : o.op = .store 175 x y) (hgd : o.guard = none) (hx : a.eval x = .pointer (some ⟨w.heap.size, 0, none⟩)) (hy : a.eval y = .agg (arrV T)) (hc : c.size = 16) (hT : T.length = 16)
 (h : ∀ W', Ext w W' -> Blk W' w.heap.size 175 (arrV T) -> W'.heap.size = w.heap.size + 1 -> wpList Tryz.prog ops Q rest (a.put o.dst undef) W') : wpList Tryz.prog ops Q (o :: rest) a (w.alloc (.cells c 175)) :=
 wpList_store_row hgd 175 x y ho w.heap.size (arrV T) hx hy 175 c (heap_alloc_last w _) (by rw [arrV_size, hT]; exact size_times) (by rw [arrV_size, hc, hT]) (arrV_one _)
  (by rw [World.setRow_alloc_new]; exact h _ ((Ext.refl _).alloc _) (Blk.new _ _ _) (by simp))
end
theorem results16' {fn : Func} {p : Tmp} (h : fn.results = #[.cell p 175]) {tmps : Array Value} {w : World} {g : Nat} {T : List Int} (hp : tmps.getD p undef = .pointer (some ⟨g, 0, none⟩)) (hg : Blk w g 175 (arrV T)) (hT : T.length = 16) :
 (results fn tmps).run Tryz.prog w = .ok (.agg (arrV T)) w := by
 rw [results_cell1 h, hp]
 have := run_loadVar_row w g 175 175 (arrV T) (0, 0) _ hg Tryz.underlying175 rfl (by rw [arrV_size, hT]; exact size_times)
 simp [asAddr, Result.andThen, this]
end
section
open Go.RowKit
def Pln.hopI (p : Pln) (l : List Bk) (q : Req) (tree at_ : List Int) (i : Nat) : Option Hp :=
 if gi at_ (gc p.cons i).src < 0 ∨ 0 <= gi tree (gc p.cons i).dst then none else p.mhop l q i (gi at_ (gc p.cons i).src)
def Pln.hopsK (p : Pln) (l : List Bk) (q : Req) (tree at_ : List Int) : Nat -> List Hp
 | 0 => []
 | k + 1 => match p.hopI l q tree at_ k with
   | some h => p.hopsK l q tree at_ k ++ [h]
   | none => p.hopsK l q tree at_ k
def Pln.hopsL (p : Pln) (l : List Bk) (q : Req) (tree at_ : List Int) : List Hp := p.hopsK l q tree at_ p.cons.length
def Pln.HopP (p : Pln) (l : List Bk) (q : Req) (tree at_ : List Int) (h : Hp) : Prop := ∃ i, i < p.cons.length /\ p.hopI l q tree at_ i = some h
theorem hopsK_mem {p : Pln} {l : List Bk} {q : Req} {tree at_ : List Int} {h : Hp} : ∀ {k : Nat}, k <= p.cons.length -> h ∈ p.hopsK l q tree at_ k -> p.HopP l q tree at_ h
 | 0, _, hm => by cases hm
 | k + 1, hk, hm => by
   unfold Pln.hopsK at hm
   split at hm
   ·rename_i h' e
    rw [List.mem_append] at hm
    rcases hm with hm | hm
    ·exact hopsK_mem (by omega) hm
    ·simp at hm; subst hm; exact ⟨k, by omega, e⟩
   ·exact hopsK_mem (by omega) hm
theorem hopsK_of {p : Pln} {l : List Bk} {q : Req} {tree at_ : List Int} {h : Hp} {i : Nat} (e : p.hopI l q tree at_ i = some h) : ∀ {k : Nat}, i < k -> h ∈ p.hopsK l q tree at_ k
 | 0, hk => by omega
 | k + 1, hk => by
   unfold Pln.hopsK
   by_cases h1 : i = k
   ·subst h1; rw [e]; simp
   ·have := hopsK_of e (k := k) (by omega)
    split
    ·simp [this]
    ·exact this
theorem hopsK_len {p : Pln} {l : List Bk} {q : Req} {tree at_ : List Int} : ∀ k : Nat, (p.hopsK l q tree at_ k).length <= k
 | 0 => Nat.le_refl _
 | k + 1 => by
   unfold Pln.hopsK
   have := hopsK_len (p := p) (l := l) (q := q) (tree := tree) (at_ := at_) k
   split
   ·simp; omega
   ·omega
structure HopF (p : Pln) (l : List Bk) (q : Req) (tree at_ : List Int) (h : Hp) (i : Nat) : Prop where
 lt : i < p.cons.length
 con : h.con = i
 src : 0 <= gi at_ (gc p.cons i).src
 dst : gi tree (gc p.cons i).dst < 0
 fit : ∃ b, fitL ((gc p.cons i).dur q.size) (freeL (gc p.cons i) l i (gi at_ (gc p.cons i).src)) = some b /\ h = hpAt (gc p.cons i) i q.size b
 dead : h.arr <= q.dead
theorem HopP.facts {p : Pln} {l : List Bk} {q : Req} {tree at_ : List Int} {h : Hp} (hp : p.HopP l q tree at_ h) : ∃ i, HopF p l q tree at_ h i := by
 obtain ⟨i, hi, e⟩ := hp
 unfold Pln.hopI at e
 split at e
 ·cases e
 ·rename_i hn
  obtain ⟨b, hb, hh, hd⟩ := mhop_some e
  exact ⟨i, hi, by rw [hh]; rfl, by omega, by omega, ⟨b, hb, hh⟩, hd⟩
theorem HopF.late {p : Pln} {l : List Bk} {q : Req} {tree at_ : List Int} {h : Hp} {i : Nat} (f : HopF p l q tree at_ h i) (h0 : p.bkChk l = 0) (hq : 1 <= q.size /\ q.size <= 65536) :
 gi at_ (gc p.cons i).src <= h.beg /\ (gc p.cons i).st <= h.beg /\ h.en = h.beg + (gc p.cons i).dur q.size /\ h.arr = h.en + (gc p.cons i).rng /\ h.en <= (gc p.cons i).en /\ h.beg < h.en /\ h.en < h.arr /\ 0 <= h.beg /\ h.arr <= 1099511627776 := by
 obtain ⟨b, hb, hh⟩ := f.fit
 have hin := bkIn_of h0 (i : Int)
 have hge := fitL_ge hin hb
 have hok := Pln.ok_of (Pln.bkChk_ok h0).1
 have hgc : gc p.cons (i : Int) = p.cons[i]'f.lt := gc_get (i := (i : Int)) (by have := f.lt; omega)
 have hc := (hok.con _ (List.getElem_mem f.lt)).1
 rw [<- hgc] at hc
 have hd := Con.dur_bd hc hq.1 hq.2
 have h1 := hc.st0
 have h2 := hc.en1
 have h3 := hc.rng0
 subst hh
 refine ⟨?_, ?_, rfl, rfl, ?_, ?_, ?_, ?_, ?_⟩ <;> simp only [hpAt] <;> omega
end
section
open Go.RowKit Go.Shelf
attribute [local go_sem] Oper.semAt_some
abbrev HopM (p : Pln) (l : List Bk) (q : Req) (tree at_ : List Int) := { h : Hp // p.HopP l q tree at_ h }
def unM {p : Pln} {l : List Bk} {q : Req} {tree at_ : List Int} (ys : List (HopM p l q tree at_)) : List Hp := ys.map (·.1)
theorem unM_snoc {p : Pln} {l : List Bk} {q : Req} {tree at_ : List Int} (ys : List (HopM p l q tree at_)) (x : HopM p l q tree at_) : unM (ys ++ [x]) = unM ys ++ [x.1] := by simp [unM]
theorem unM_len {p : Pln} {l : List Bk} {q : Req} {tree at_ : List Int} (ys : List (HopM p l q tree at_)) : (unM ys).length = ys.length := by simp [unM]
def hopM {p : Pln} {l : List Bk} {q : Req} {tree at_ : List Int} (x : HopM p l q tree at_) : Array Value := #[.agg #[.int .i64 x.1.con, .int .i64 x.1.beg, .int .i64 x.1.en, .int .i64 x.1.arr]]
structure HopC35 (w0 W : World) (Bt Ba Br Bq n₁ g g2 : Nat) (Aq : Option Addr) (cq : Nat) (Ac : Option Addr) (cc : Nat) (p : Pln) (Al : Option Addr) (cl : Nat) (l : List Bk) (Ah : Option Addr) (nh ch : Nat) (q : Req) (tree at_ : List Int) : Prop where
 rd : PlnRd w0 Aq cq Ac cc p
 bk : Rd EBk w0 Al l
 ok : p.bkChk l = 0
 fine : fineR p q = true
 tl : tree.length = 16
 al : at_.length = 16
 ext : Ext w0 W
 n0 : w0.heap.size <= n₁
 g0 : w0.heap.size <= g
 g20 : w0.heap.size <= g2
 n1 : n₁ <= W.heap.size
 kt : Blk W Bt 83 #[.slice Aq p.quo.length cq, .slice Ac p.cons.length cc, .slice Al l.length cl, .slice Ah nh ch]
 ka : Blk W Ba 175 (arrV at_)
 kr : Blk W Br 175 (arrV tree)
 kq : Blk W Bq 85 #[.int .i64 q.src, .int .i64 q.dst, .int .i64 q.size, .int .i64 q.ready, .int .i64 q.dead, .int .i64 q.prio, .bool q.cust]
 bt : Bt < n₁ /\ Bt ≠ g /\ Bt ≠ g2
 ba : Ba < n₁ /\ Ba ≠ g /\ Ba ≠ g2
 br : Br < n₁ /\ Br ≠ g /\ Br ≠ g2
 bq : Bq < n₁ /\ Bq ≠ g /\ Bq ≠ g2
set_option maxRecDepth 100000 in
set_option maxHeartbeats 4000000 in
theorem mhops_iter (li Bt Ba Br Bq n₁ g g2 : Nat) (Aq : Option Addr) (cq : Nat) (Ac : Option Addr) (cc : Nat) (p : Pln) (Al : Option Addr) (cl : Nat) (l : List Bk) (Ah : Option Addr) (nh ch : Nat) (q : Req) (tree at_ : List Int) (w0 W : World)
 (C : HopC35 w0 W Bt Ba Br Bq n₁ g g2 Aq cq Ac cc p Al cl l Ah nh ch q tree at_)
 (J Jx : List (HopM p l q tree at_) -> World -> Prop) (hJ : AbidesFrom W.heap.size J)
 (hY : ∀ pre x W, J pre W -> pre.length < 65 -> YieldAt Fence.wide 3 Tryz.prog li (hopM x) W fun e W' =>
  (e = .returned (.bool true) /\ J (pre ++ [x]) W' /\ KpY n₁ g g2 W W') ∨ (e = .returned (.bool false) /\ Jx (pre ++ [x]) W'))
 (hj : J [] W) :
 CallsIn Fence.wide 4 Tryz.prog 243 #[.func (.yield li) #[] #[], .pointer (some ⟨Bt, 0, none⟩), .pointer (some ⟨Ba, 0, none⟩), .pointer (some ⟨Br, 0, none⟩), .pointer (some ⟨Bq, 0, none⟩)] W fun e W' => (∃ v, e = .returned v) /\
  ((∃ ys, unM ys = p.hopsL l q tree at_ /\ J ys W') ∨ (∃ pre : List (HopM p l q tree at_), True /\ Jx pre W')) := by
 obtain ⟨h, hbk, h0, hf, htl, hal, hE0, hn0, hg0, hg20, hn1, kt, ka, kr, kq, bt, ba, br, bq⟩ := C
 have hc := kt.cell
 have hok := Pln.ok_of (Pln.bkChk_ok h0).1
 have hm64 := hok.m64
 have hn16 := hok.n16
 have H0 := Lib.hid h0
 have HF := Lib.hid hf
 have Hok := Lib.hid hok
 clear h0 hf hok
 refine callsIn_of_wp Tryz.func243 rfl trivial ?_ rfl
 simp only [Tryz.ntmps243, List.size_toArray, List.length_cons, List.length_nil, Nat.reduceAdd, Nat.reduceSub, Array.replicate_succ, Array.replicate_zero, List.push_toArray, List.append_toArray, List.nil_append, List.cons_append]
 gi_wp2
 gi_loopw [14] (fun i wr => ∃ (k : Nat) (pre : List (HopM p l q tree at_)), k <= p.cons.length /\ i = .int .i64 k /\ pre.length <= k /\ Hid (unM pre = p.hopsK l q tree at_ k) /\ J pre wr /\ KpY n₁ g g2 W wr) (fun i _ => p.cons.length - (intOf i).toNat)
 case atStart => exact ⟨0, [], Nat.zero_le _, rfl, Nat.le_refl _, Lib.hid rfl, hj, KpY.refl _ _ _ _⟩
 case round =>
  obtain ⟨k, pre, hk, rfl, hpk, hcov, hjr, hK⟩ := hrel
  have hE := hK.out hE0 hn0 hg0 hg20
  have kt1 := hK.blk kt bt.1 bt.2.1 bt.2.2
  have ka1 := hK.blk ka ba.1 ba.2.1 ba.2.2
  have kr1 := hK.blk kr br.1 br.2.1 br.2.2
  have kq1 := hK.blk kq bq.1 bq.2.1 bq.2.2
  have hct1 := kt1.cell
  have hsz := hK.size
  by_cases hlt : k < p.cons.length
  ·obtain ⟨b, o, rfl, hb, c0, c1, c2, c3, c4, c5, c6⟩ := (h.c.ext hE).con hlt
   have hyc := Hok.out.con _ (List.getElem_mem hlt)
   have hgc : gc p.cons (k : Int) = p.cons[k] := gc_get (i := (k : Int)) (by omega)
   have Hst := Lib.hid (show p.hopsK l q tree at_ (k + 1) = match p.hopI l q tree at_ k with | some h => p.hopsK l q tree at_ k ++ [h] | none => p.hopsK l q tree at_ k from rfl)
   have Hhi := Lib.hid (show p.hopI l q tree at_ k = if gi at_ (gc p.cons k).src < 0 ∨ 0 <= gi tree (gc p.cons k).dst then none else p.mhop l q k (gi at_ (gc p.cons k).src) from rfl)
   rw [hgc] at Hhi
   have hs0 := hyc.1.src0
   have hs1 := hyc.2.1
   have hd0 := hyc.1.dst0
   have hd1 := hyc.2.2
   generalize hye : p.cons[k] = y at *
   clear hye hgc hyc
   obtain ⟨W3, hW3, hB3, hk3, hl3⟩ := box1 wr y.cells 61
   simp only [Con.cells] at hW3 hk3
   have hck := hk3.cell
   have hlk := hk3.lt
   have hjr3 := abides_ext hJ hjr hB3
   have hK3 := hK.trans (KpY.of_ext (by omega) hB3)
   have hca := ((ka1.ext hB3).cell y.src.toNat).trans (arrV_get (by omega))
   have hla := (ka1.ext hB3).lt
   have hcr := ((kr1.ext hB3).cell y.dst.toNat).trans (arrV_get (by omega))
   have hlr := (kr1.ext hB3).lt
   have eS : ((y.src.toNat : Nat) : Int) = y.src := by omega
   have eD : ((y.dst.toNat : Nat) : Int) = y.dst := by omega
   rw [eS] at hca
   rw [eD] at hcr
   clear eS eD
   have hs2 : y.src < 16 := by omega
   have hd2 : y.dst < 16 := by omega
   by_cases hs : gi at_ y.src < 0
   ·have HN := Lib.hid (Hhi.out.trans (if_pos (.inl hs)))
    have dS : decide (gi at_ y.src < 0) = true := decide_eq_true hs
    clear hs
    gi_wp2
    go_roundw
    case rel => exact ⟨k + 1, pre, by omega, by go_num, by omega, Lib.hid (by rw [Hst.out, HN.out]; exact hcov.out), hjr3, hK3⟩
    case measure => simp [intOf]; omega
   have dS : decide (gi at_ y.src < 0) = false := decide_eq_false hs
   by_cases hd : 0 <= gi tree y.dst
   ·have HN := Lib.hid (Hhi.out.trans (if_pos (.inr hd)))
    have dS2 : decide (0 <= gi tree y.dst) = true := decide_eq_true hd
    clear hs hd
    gi_wp2
    go_roundw
    case rel => exact ⟨k + 1, pre, by omega, by go_num, by omega, Lib.hid (by rw [Hst.out, HN.out]; exact hcov.out), hjr3, hK3⟩
    case measure => simp [intOf]; omega
   have dD : decide (0 <= gi tree y.dst) = false := decide_eq_false hd
   replace Hhi := Lib.hid (Hhi.out.trans (if_neg (fun h => h.elim hs hd)))
   have hho := fun w h hl => mhop_any Aq cq (some ⟨b, o, none⟩) cc p Al cl l Ah nh ch q k (gi at_ y.src) w h hl H0.out HF.out hlt
   have hrd3 := (h.ext hE).ext hB3
   have hbk3 := (hbk.ext hE).ext hB3
   have hct3 := (kt1.ext hB3).cell
   have hlt3 := (kt1.ext hB3).lt
   have hcq3 := (kq1.ext hB3).cell
   have hlq3 := (kq1.ext hB3).lt
   unfold Req.val at hho
   clear hs hd
   cases hm : p.mhop l q k (gi at_ y.src) with
   | none =>
     have HN := Lib.hid (Hhi.out.trans hm)
     have hh2 : ∀ w, PlnRd w Aq cq (some ⟨b, o, none⟩) cc p -> Rd EBk w Al l -> Calls Tryz.prog 244 #[.agg #[.slice Aq p.quo.length cq, .slice (some ⟨b, o, none⟩) p.cons.length cc, .slice Al l.length cl, .slice Ah nh ch], .agg #[.int .i64 q.src, .int .i64 q.dst, .int .i64 q.size, .int .i64 q.ready, .int .i64 q.dead, .int .i64 q.prio, .bool q.cust], .int .i64 k, .int .i64 (gi at_ y.src)] w fun e w' => ∃ xa xb xc xd : Int, e = .returned (.tuple #[.agg #[.int .i64 xa, .int .i64 xb, .int .i64 xc, .int .i64 xd], .bool false]) /\ Ext w w' := fun w h1 h2 => by
      refine (hho w h1 h2).mono ?_
      rintro e w' ⟨⟨x, rfl, _⟩, hb⟩
      rw [hm]
      exact ⟨x.con, x.beg, x.en, x.arr, rfl, hb⟩
     clear hho hm
     gi_wp2_with fail
     refine wpIn_wide.2 ?_
     have hN := Near.refl W3
     go_region_held3 (fun w' => Ext W3 w' /\ ∀ b o, b < W3.heap.size -> w'.cell? ⟨b, o, none⟩ = W3.cell? ⟨b, o, none⟩) (first | exact hN.drew | exact Near.step (by assumption) hb9 | exact near_alloc (by assumption) _ | (refine Near.of ?_; repeat (first | exact hx9 | refine Ext.alloc ?_ _ | (refine Ext.setCell ?_ ?_ _; rotate_left; (focus (first | exact Nat.le_refl _ | (dsimp only; omega)))))) | assumption)
      (first | (go_at_call 244; refine (hh2 _ (hrd3.ext (And.left (by assumption))) (hbk3.ext (And.left (by assumption)))).mono ?_; rintro e w9 ⟨xa, xb, xc, xd, rfl, hb9⟩; have hx9 : Ext W3 w9 := Ext.trans (And.left (by assumption)) hb9; have hs9 := hx9.size; have hz9 := fun (hh : Blk _ W3.heap.size 94 #[.int .i64 0, .int .i64 0, .int .i64 0, .int .i64 0]) => Blk.ext hh hb9; (try simp [blk_alloc_iff, blk_drew, blk_no0] at hz9); (try (have hz9c := Blk.cell hz9; have hz9f := Blk.frozen hz9; have hz9l := Blk.lt hz9))))
     all_goals
      have hX := And.left ‹Ext W3 _ /\ _›
      clear hN
      gi_wp2_with fail
      refine ⟨fun _ h => (by cases h), ?_⟩
      gi_wp2
      go_roundw
      case rel => exact ⟨k + 1, pre, by omega, by go_num, by omega, Lib.hid (by rw [Hst.out, HN.out]; exact hcov.out), abides_ext hJ hjr3 hX, hK3.trans (KpY.of_ext (by omega) hX)⟩
      case measure => simp [intOf]; omega
   | some z =>
     have HN := Lib.hid (Hhi.out.trans hm)
     have hh2 : ∀ w, PlnRd w Aq cq (some ⟨b, o, none⟩) cc p -> Rd EBk w Al l -> Calls Tryz.prog 244 #[.agg #[.slice Aq p.quo.length cq, .slice (some ⟨b, o, none⟩) p.cons.length cc, .slice Al l.length cl, .slice Ah nh ch], .agg #[.int .i64 q.src, .int .i64 q.dst, .int .i64 q.size, .int .i64 q.ready, .int .i64 q.dead, .int .i64 q.prio, .bool q.cust], .int .i64 k, .int .i64 (gi at_ y.src)] w fun e w' => e = .returned (.tuple #[.agg #[.int .i64 z.con, .int .i64 z.beg, .int .i64 z.en, .int .i64 z.arr], .bool true]) /\ Ext w w' := fun w h1 h2 => by
      refine (hho w h1 h2).mono ?_
      rintro e w' ⟨⟨x, rfl, hx⟩, hb⟩
      obtain rfl := hx z hm
      rw [hm]
      exact ⟨rfl, hb⟩
     clear hho hm
     obtain ⟨za, zb, zc, zd, hz⟩ : ∃ za zb zc zd : Int, z = ⟨za, zb, zc, zd⟩ := ⟨z.con, z.beg, z.en, z.arr, rfl⟩
     subst hz
     have Hst2 := Lib.hid (show p.hopsK l q tree at_ (k + 1) = p.hopsK l q tree at_ k ++ [⟨za, zb, zc, zd⟩] by rw [Hst.out, HN.out])
     simp only [] at hh2
     gi_wp2_with fail
     refine wpIn_wide.2 ?_
     have hN := Near.refl W3
     go_region_held3 (fun w' => Ext W3 w' /\ ∀ b o, b < W3.heap.size -> w'.cell? ⟨b, o, none⟩ = W3.cell? ⟨b, o, none⟩) (first | exact hN.drew | exact Near.step (by assumption) hb9 | exact near_alloc (by assumption) _ | (refine Near.of ?_; repeat (first | exact hx9 | refine Ext.alloc ?_ _ | (refine Ext.setCell ?_ ?_ _; rotate_left; (focus (first | exact Nat.le_refl _ | (dsimp only; omega)))))) | assumption)
      (first | (go_at_call 244; refine (hh2 _ (hrd3.ext (And.left (by assumption))) (hbk3.ext (And.left (by assumption)))).mono ?_; rintro e w9 ⟨rfl, hb9⟩; have hx9 : Ext W3 w9 := Ext.trans (And.left (by assumption)) hb9; have hs9 := hx9.size; have hz9 := fun (hh : Blk _ W3.heap.size 94 #[.int .i64 0, .int .i64 0, .int .i64 0, .int .i64 0]) => Blk.ext hh hb9; (try simp [blk_alloc_iff, blk_drew, blk_no0] at hz9); (try (have hz9c := Blk.cell hz9; have hz9f := Blk.frozen hz9; have hz9l := Blk.lt hz9))))
     ·obtain ⟨W5, hW5, hB59, hk5, hl5⟩ := box1 w9 #[.int .i64 za, .int .i64 zb, .int .i64 zc, .int .i64 zd] 94
      have hB5 := hx9.trans hB59
      clear hN
      rw [hW5]
      obtain ⟨fn, tmps, assign, body, hy, hR⟩ := hY pre ⟨⟨za, zb, zc, zd⟩, ⟨k, hlt, HN.out⟩⟩ W5 (abides_ext hJ hjr3 hB5) (by omega)
      dsimp only [hopM] at hy
      have hc5 := hk5.cell
      gi_wp2
      refine hR.mono ?_
      rintro e W6 (⟨rfl, hJ6, hk6⟩ | ⟨rfl, hJx6⟩)
      ·gi_wp2
       go_roundw
       case rel => exact ⟨k + 1, _, by omega, by go_num, by simp; omega, Lib.hid (by rw [unM_snoc, Hst2.out, hcov.out]), hJ6, hK3.trans ((KpY.of_ext (by omega) hB5).trans hk6)⟩
       case measure => simp [intOf]; omega
      ·gi_wp2
       refine bodyPost_ret (results_none rfl _ _ _) rfl ?_
       exact ⟨⟨_, rfl⟩, .inr ⟨_, trivial, hJx6⟩⟩
     ·obtain ⟨W5, hW5, hk5, hB5⟩ : ∃ W5, World.setCells w9 W3.heap.size 0 [.int .i64 za, .int .i64 zb, .int .i64 zc, .int .i64 zd] = W5 /\ Blk W5 W3.heap.size 94 #[.int .i64 za, .int .i64 zb, .int .i64 zc, .int .i64 zd] /\ Ext W3 W5 :=
       ⟨_, rfl, hz9.setCells_ [.int .i64 za, .int .i64 zb, .int .i64 zc, .int .i64 zd] 0, ext_setCells hx9 (Nat.le_refl _) 0 _⟩
      simp only [World.setCells, Nat.zero_add, Nat.reduceAdd] at hW5
      clear hN
      rw [hW5]
      obtain ⟨fn, tmps, assign, body, hy, hR⟩ := hY pre ⟨⟨za, zb, zc, zd⟩, ⟨k, hlt, HN.out⟩⟩ W5 (abides_ext hJ hjr3 hB5) (by omega)
      dsimp only [hopM] at hy
      have hc5 := hk5.cell
      gi_wp2
      refine hR.mono ?_
      rintro e W6 (⟨rfl, hJ6, hk6⟩ | ⟨rfl, hJx6⟩)
      ·gi_wp2
       go_roundw
       case rel => exact ⟨k + 1, _, by omega, by go_num, by simp; omega, Lib.hid (by rw [unM_snoc, Hst2.out, hcov.out]), hJ6, hK3.trans ((KpY.of_ext (by omega) hB5).trans hk6)⟩
       case measure => simp [intOf]; omega
      ·gi_wp2
       refine bodyPost_ret (results_none rfl _ _ _) rfl ?_
       exact ⟨⟨_, rfl⟩, .inr ⟨_, trivial, hJx6⟩⟩
  ·gi_wp2
   go_end0
   exact ⟨⟨_, rfl⟩, .inl ⟨pre, by unfold Pln.hopsL; rw [show p.cons.length = k by omega]; exact hcov.out, hjr⟩⟩
theorem mhops_stops (Bt Ba Br Bq n₁ g g2 : Nat) (Aq : Option Addr) (cq : Nat) (Ac : Option Addr) (cc : Nat) (p : Pln) (Al : Option Addr) (cl : Nat) (l : List Bk) (Ah : Option Addr) (nh ch : Nat) (q : Req) (tree at_ : List Int) (w0 w : World)
 (C : HopC35 w0 w Bt Ba Br Bq n₁ g g2 Aq cq Ac cc p Al cl l Ah nh ch q tree at_) :
 SeqStopsK Fence.wide 4 Tryz.prog 243 #[.pointer (some ⟨Bt, 0, none⟩), .pointer (some ⟨Ba, 0, none⟩), .pointer (some ⟨Br, 0, none⟩), .pointer (some ⟨Bq, 0, none⟩)] (hopM (p := p) (l := l) (q := q) (tree := tree) (at_ := at_)) (KpY n₁ g g2) (fun ys => unM ys = p.hopsL l q tree at_) (fun _ => True) 65 w :=
 fun li J Jx W hW hJ _ hY hj => mhops_iter li Bt Ba Br Bq n₁ g g2 Aq cq Ac cc p Al cl l Ah nh ch q tree at_ w0 W
  ⟨C.rd, C.bk, C.ok, C.fine, C.tl, C.al, C.ext.trans hW, C.n0, C.g0, C.g20, Nat.le_trans C.n1 (Ext.size hW), C.kt.ext hW, C.ka.ext hW, C.kr.ext hW, C.kq.ext hW, C.bt, C.ba, C.br, C.bq⟩ J Jx hJ hY hj
set_option maxHeartbeats 800000 in
theorem mhops_any (v0 v1 v2 v3 : Value) (q : Req) (tree at_ : List Int) (w : World) :
 Calls Tryz.prog 161 #[.agg #[v0, v1, v2, v3], q.val, .agg (arrV tree), .agg (arrV at_)] w fun e w' =>
  e = .returned (.func (.func 243) #[] #[.pointer (some ⟨w.heap.size, 0, none⟩), .pointer (some ⟨w.heap.size + 3, 0, none⟩), .pointer (some ⟨w.heap.size + 2, 0, none⟩), .pointer (some ⟨w.heap.size + 1, 0, none⟩)]) /\ Ext w w' /\ w'.heap.size = w.heap.size + 4 /\
  Blk w' w.heap.size 83 #[v0, v1, v2, v3] /\ Blk w' (w.heap.size + 1) 85 #[.int .i64 q.src, .int .i64 q.dst, .int .i64 q.size, .int .i64 q.ready, .int .i64 q.dead, .int .i64 q.prio, .bool q.cust] /\ Blk w' (w.heap.size + 2) 175 (arrV tree) /\ Blk w' (w.heap.size + 3) 175 (arrV at_) := by
 obtain ⟨W1, hW1, hB1, hk1, hl1⟩ := box1 w #[v0, v1, v2, v3] 83
 have s1 : W1.heap.size = w.heap.size + 1 := by rw [<- hW1]; simp
 obtain ⟨W2, hW2, hB2, hk2, hl2⟩ := box1 W1 q.cells 85
 simp only [Req.cells] at hW2 hk2
 have s2 : W2.heap.size = w.heap.size + 2 := by rw [<- hW2]; simp [s1]
 obtain ⟨W3, hW3, hB3, hk3, hl3⟩ := box1 W2 (arrV tree) 175
 have s3 : W3.heap.size = w.heap.size + 3 := by rw [<- hW3]; simp [s2]
 obtain ⟨W4, hW4, hB4, hk4, hl4⟩ := box1 W3 (arrV at_) 175
 have s4 : W4.heap.size = w.heap.size + 4 := by rw [<- hW4]; simp [s3]
 rw [s1] at hk2
 rw [s2] at hk3
 rw [s3] at hk4
 have S1 := Lib.hid s1
 have S2 := Lib.hid s2
 have S3 := Lib.hid s3
 have S4 := Lib.hid s4
 clear s1 s2 s3 s4
 unfold Req.val
 go_enter Tryz.func161, Tryz.ntmps161
 go_wp2
 go_ret
 refine ⟨?_, (hB1.trans hB2).trans (hB3.trans hB4), S4.out, ((hk1.ext hB2).ext hB3).ext hB4, (hk2.ext hB3).ext hB4, hk3.ext hB4, hk4⟩
 rw [S1.out, S2.out, S3.out]
 rfl
end
section
open Go.RowKit
def Pln.eStep (p : Pln) (s : Bool × List Int) (h : Hp) : Bool × List Int :=
 if gi s.2 (gc p.cons h.con).dst < 0 ∨ h.arr < gi s.2 (gc p.cons h.con).dst then (true, s.2.set (gc p.cons h.con).dst.toNat h.arr) else s
def Pln.eRnd (p : Pln) (l : List Bk) (q : Req) (tree at_ : List Int) : Bool × List Int := (p.hopsL l q tree at_).foldl p.eStep (false, at_)
def Pln.eIt (p : Pln) (l : List Bk) (q : Req) (tree : List Int) : Nat -> List Int
 | 0 => tree
 | k + 1 => (p.eRnd l q tree (p.eIt l q tree k)).2
def Pln.EarlP (p : Pln) (l : List Bk) (q : Req) (tree T : List Int) : Prop := (∃ k, T = p.eIt l q tree k) /\ (p.eRnd l q tree T).1 = false
theorem eStep_len {p : Pln} {s : Bool × List Int} {h : Hp} : (p.eStep s h).2.length = s.2.length := by unfold Pln.eStep; split <;> simp
theorem eFold_len {p : Pln} : ∀ (m : List Hp) (s : Bool × List Int), (m.foldl p.eStep s).2.length = s.2.length
 | [], s => rfl
 | h :: m, s => by rw [List.foldl_cons, eFold_len m, eStep_len]
theorem eRnd_len {p : Pln} {l : List Bk} {q : Req} {tree at_ : List Int} : (p.eRnd l q tree at_).2.length = at_.length := eFold_len _ _
theorem eIt_len {p : Pln} {l : List Bk} {q : Req} {tree : List Int} : ∀ k, (p.eIt l q tree k).length = tree.length
 | 0 => rfl
 | k + 1 => by show (p.eRnd l q tree (p.eIt l q tree k)).2.length = _; rw [eRnd_len, eIt_len k]
def nu (m : List Int) : Nat := (m.map fun x => if x < 0 then 2199023255552 else x.toNat).sum
theorem nu_set : ∀ {m : List Int} {k : Nat} {v : Int}, (h : k < m.length) -> (m[k] < 0 ∨ v < m[k]) -> 0 <= v -> v < 2199023255552 -> nu (m.set k v) < nu m
 | x :: m, 0, v, _, h1, h2, h3 => by
   simp only [List.getElem_cons_zero] at h1
   simp only [nu, List.set_cons_zero, List.map_cons, List.sum_cons]
   rw [if_neg (by omega)]
   split <;> omega
 | x :: m, k + 1, v, h, h1, h2, h3 => by
   have := nu_set (m := m) (k := k) (v := v) (by simpa using h) (by simpa using h1) h2 h3
   simp only [nu, List.set_cons_succ, List.map_cons, List.sum_cons] at this ⊢
   omega
def HopOk (p : Pln) (h : Hp) : Prop := 0 <= (gc p.cons h.con).dst /\ (gc p.cons h.con).dst < 16 /\ 0 <= h.arr /\ h.arr <= 1099511627776
theorem eStep_nu {p : Pln} {s : Bool × List Int} {h : Hp} (hh : HopOk p h) (hl : s.2.length = 16) : p.eStep s h = s ∨ ((p.eStep s h).1 = true /\ nu (p.eStep s h).2 < nu s.2) := by
 unfold Pln.eStep
 split
 ·rename_i hc
  right
  obtain ⟨h1, h2, h3, h4⟩ := hh
  refine ⟨rfl, nu_set (by omega) ?_ h3 (by omega)⟩
  rw [gi_of h1 (by omega)] at hc
  exact hc
 ·exact .inl rfl
theorem eFold_nu {p : Pln} : ∀ (m : List Hp) (s : Bool × List Int), (∀ h ∈ m, HopOk p h) -> s.2.length = 16 -> m.foldl p.eStep s = s ∨ ((m.foldl p.eStep s).1 = true /\ nu (m.foldl p.eStep s).2 < nu s.2)
 | [], s, _, _ => .inl rfl
 | h :: m, s, hm, hl => by
   have h1 := eStep_nu (s := s) (hm h (by simp)) hl
   have h2 := eFold_nu m (p.eStep s h) (fun x hx => hm x (by simp [hx])) (by rw [eStep_len]; exact hl)
   rw [List.foldl_cons]
   rcases h1 with e | ⟨e1, e2⟩
   ·rw [e] at h2 ⊢; exact h2
   ·rcases h2 with e | ⟨e3, e4⟩
    ·right; rw [e]; exact ⟨e1, e2⟩
    ·right; exact ⟨e3, by omega⟩
theorem HopF.okk {p : Pln} {l : List Bk} {q : Req} {tree at_ : List Int} {h : Hp} {i : Nat} (f : HopF p l q tree at_ h i) (h0 : p.bkChk l = 0) (hq : 1 <= q.size /\ q.size <= 65536) : HopOk p h := by
 have hl := f.late h0 hq
 have hok := Pln.ok_of (Pln.bkChk_ok h0).1
 have hn := hok.n16
 have hgc : gc p.cons (i : Int) = p.cons[i]'f.lt := gc_get (i := (i : Int)) (by have := f.lt; omega)
 have hc := hok.con _ (List.getElem_mem f.lt)
 rw [<- hgc] at hc
 have h1 := hc.1.dst0
 have h2 := hc.2.2
 unfold HopOk
 rw [f.con]
 omega
theorem hopsL_ok {p : Pln} {l : List Bk} {q : Req} {tree at_ : List Int} (h0 : p.bkChk l = 0) (hq : 1 <= q.size /\ q.size <= 65536) : ∀ h ∈ p.hopsL l q tree at_, HopOk p h := fun h hm => by
 obtain ⟨i, f⟩ := HopP.facts (hopsK_mem (Nat.le_refl _) hm)
 exact f.okk h0 hq
theorem eRnd_nu {p : Pln} {l : List Bk} {q : Req} {tree at_ : List Int} (h0 : p.bkChk l = 0) (hq : 1 <= q.size /\ q.size <= 65536) (hl : at_.length = 16) :
 p.eRnd l q tree at_ = (false, at_) ∨ ((p.eRnd l q tree at_).1 = true /\ nu (p.eRnd l q tree at_).2 < nu at_) :=
 eFold_nu _ _ (hopsL_ok h0 hq) hl
end
end Go.Proofs.YtemkpimngbbpkaaGreat
